/- slices.SortFunc at people of any number, by its contract of the library; conditions: none. -/
import Derived.Test.YtnfjlinffjhkpaaDoorSoK
import Derived.Test.YtnfjlinffjhkpaaDoorRgE
import Derived.Test.YtnfjlinffjhkpaaDoorOrdP
import Derived.Test.YtnfjlinffjhkpaaDoorShelf
set_option linter.unusedVariables false
set_option linter.unusedSimpArgs false
namespace Go.Proofs.YtnfjlinffjhkpaaDoor
open Go Go.RowKit Go.Sort
set_option maxRecDepth 10000
variable {G : Nat → Option (List Value)}
instance : Inhabited Per := ⟨⟨⟨#[]⟩, 0, 0, 0, 0⟩⟩
def cmpT (a b : ByteArray) : Int := if strLt a b = true then -1 else if strLt b a = true then 1 else 0
def cmpP (a b : Per) : Int := cmpT a.n b.n
set_option maxHeartbeats 1000000 in
theorem nanK (x : ByteArray) (W : World) : Calls Tryd.prog 37 #[.string x] W fun e w' => e = .returned (.bool false) ∧ w' = W := by
  go_enter Tryd.func37, Tryd.ntmps37
  go_wp2
  go_ret
  exact ⟨by simp, rfl⟩
theorem gtr_str (a b : ByteArray) (w : World) : (binOp .gtr 9 (.string a) (.string b)).run Tryd.prog w = .ok (.bool (Op.bytesLess b.toList a.toList)) w := by
  have h := lt_eq b a
  have e : (!(Op.bytesLess a.toList b.toList || a.toList == b.toList)) = Op.bytesLess b.toList a.toList := by
    have h2 : (!Op.bytesLess b.toList a.toList) = (Op.bytesLess a.toList b.toList || a.toList == b.toList) := h
    rw [← h2, Bool.not_not]
  rw [← e]
  simp [binOp, Op.stringOp]
set_option maxHeartbeats 1000000 in
theorem compK (a b : ByteArray) (W : World) : Calls Tryd.prog 26 #[.string a, .string b] W fun e w' => e = .returned (.int .i64 (cmpT a b)) ∧ ∃ q, w' = W.drewN q := by
  have hn := fun x W' => nanK x W'
  have hgt := gtr_str a b
  go_enter Tryd.func26, Tryd.ntmps26
  go_wp2_with (go_at_call 37; refine (hn _ _).mono ?_; rintro e w' ⟨rfl, rfl⟩)
  all_goals go_ret
  all_goals refine ⟨?_, 0, rfl⟩
  all_goals (unfold cmpT strLt; simp_all)
theorem cmp_nil : True := trivial
set_option maxHeartbeats 1000000 in
theorem closKP (x y : Per) (W : World) : Calls Tryd.prog 25 #[.agg x.cells.toArray, .agg y.cells.toArray] W fun e w' => e = .returned (.int .i64 (cmpP x y)) ∧ ∃ q os', w' = grow (W.drewN q) os' := by
  have hcon := fun W' => compK x.n y.n W'
  unfold cmpP Per.cells
  generalize cmpT x.n y.n = r at hcon ⊢
  go_enter Tryd.func25, Tryd.ntmps25
  go_wp2_with (go_at_call 26; refine (hcon _).mono ?_; rintro e w' ⟨rfl, q, rfl⟩)
  go_ret
  exact ⟨rfl, q, _, by rw [alloc_eq_grow, alloc_eq_grow, grow_grow]; rfl⟩
theorem aggP (w : World) : (isAgg (Tryd.sortK_ren.t 24)).run Tryd.prog w = .ok true w := run_agg tbOk (t := 32) rfl w
theorem szP (w : World) : (Go.sizeOf (Tryd.sortK_ren.t 24)).run Tryd.prog w = .ok 5 w := run_size tbOk (t := 32) rfl w
theorem ltP_iff (a b : Per) : ltOf cmpP a b = true ↔ strLt a.n b.n = true := by
  unfold ltOf cmpP cmpT
  by_cases h : strLt a.n b.n = true
  · simp [h]
  · by_cases h2 : strLt b.n a.n = true
    · simp [h, h2]
    · simp [h, h2]
theorem ltP_lt (a b : Per) : ltOf cmpP a b = strLt a.n b.n := by
  rw [Bool.eq_iff_iff]; exact ltP_iff a b
theorem swo_P : SWO (ltOf cmpP) where
  irrefl x := by rw [ltP_lt]; exact strLt_ord.irr _
  trans x y z h1 h2 := by rw [ltP_lt] at *; exact strLt_ord.tr _ _ _ h1 h2
  ntrans x y z h1 h2 := by
    rw [ltP_lt] at *
    cases h : strLt x.n z.n with
    | false => rfl
    | true =>
      cases h3 : strLt y.n x.n with
      | true =>
        have := strLt_ord.tr _ _ _ h3 h
        rw [h2] at this; cases this
      | false =>
        have e := strLt_ord.tot _ _ h1 h3
        rw [e] at h
        rw [h2] at h; cases h
theorem sortKP_A (L : List Per) (J : List AV) (hJ : ∀ x ∈ J, x = AV.junk) (hm : L.length ≤ 70) : ACalls Tryd.prog G 24 [.bs (refB + 0) 0 5 L.length, .fn 25 []] [bsC (L.map Per.av) J] (.tu []) [bsC ((pdqL cmpP L).map Per.av) J] :=
  acalls_sort (enc := Per.cells) (cf := cmpP) (k := 5) (enter_of Tryd.func24 (by kernel_rfl) rfl) (fun _ => rfl) (by decide) swo_P L J hJ (by omega) (fun blk cap d w hH hb hs =>
    AnyQ.slices_SortFunc_eq Tryd.sortK 5 aggP szP Per.cells (fun _ => rfl) (fun x v hv => per_one x v hv) cmpP swo_P 25 #[] blk 0 cap d w (enter_of Tryd.func25 (by kernel_rfl) rfl) (fun _ _ _ _ x y => closKP x y _) hH hb hs)
end Go.Proofs.YtnfjlinffjhkpaaDoor
