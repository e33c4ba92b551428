/- Ascending lists over a strict order: the place of an element, laying in, taking out; and the order of strings; nothing of the program stands here / slices.SortFunc at people of any number, by its contract of the library; conditions: none / A cut in a walk: ways that part come together in one state; conditions: none. -/
import Derived.Test.YtggagmafkdhjcaaGreatDoorAbsL
import Derived.Test.YtggagmafkdhjcaaGreatDoorRgP
import Derived.Test.YtggagmafkdhjcaaGreatDoorRgE
import Derived.Test.YtggagmafkdhjcaaGreatDoorShelf
import Derived.Test.YtggagmafkdhjcaaGreatDoorAbsX
set_option linter.unusedVariables false
set_option linter.unusedSimpArgs false
namespace Go.Proofs.YtggagmafkdhjcaaGreatDoor
open Go Go.RowKit
structure StrictOrd {α : Type} (lt : α → α → Bool) : Prop where
  irr : ∀ a, lt a a = false
  tr : ∀ a b c, lt a b = true → lt b c = true → lt a c = true
  tot : ∀ a b, lt a b = false → lt b a = false → a = b
theorem StrictOrd.asymm {α : Type} {lt : α → α → Bool} (h : StrictOrd lt) {a b : α} (h1 : lt a b = true) : lt b a = false := by
  cases h2 : lt b a
  · rfl
  · have := h.tr a b a h1 h2; rw [h.irr] at this; cases this
theorem StrictOrd.ne {α : Type} {lt : α → α → Bool} (h : StrictOrd lt) {a b : α} (h1 : lt a b = true) : a ≠ b := fun e => by
  subst e; rw [h.irr] at h1; cases h1
theorem bytes_irr : ∀ x : List UInt8, Op.bytesLess x x = false
  | [] => rfl
  | a :: x => by simp only [Op.bytesLess]; simp [bytes_irr x]
theorem bytes_tr : ∀ x y z : List UInt8, Op.bytesLess x y = true → Op.bytesLess y z = true → Op.bytesLess x z = true
  | [], [], z, h, _ => by simp [Op.bytesLess] at h
  | [], b :: y, [], _, h => by simp [Op.bytesLess] at h
  | [], b :: y, c :: z, _, _ => by simp [Op.bytesLess]
  | a :: x, [], z, h, _ => by simp [Op.bytesLess] at h
  | a :: x, b :: y, [], _, h => by simp [Op.bytesLess] at h
  | a :: x, b :: y, c :: z, h1, h2 => by
    simp only [Op.bytesLess] at *
    have ih := bytes_tr x y z
    by_cases e1 : a = b
    · subst e1
      simp at h1
      by_cases e2 : a = c
      · subst e2
        simp at h2
        simp [ih h1 h2]
      · simp [e2] at h2 ⊢
        exact h2
    · simp [e1] at h1
      by_cases e2 : b = c
      · subst e2
        simp [e1, h1]
      · simp [e2] at h2
        have h3 : a < c := by
          have a1 := UInt8.lt_iff_toNat_lt.1 h1
          have a2 := UInt8.lt_iff_toNat_lt.1 h2
          exact UInt8.lt_iff_toNat_lt.2 (by omega)
        have e3 : ¬ a = c := fun e => by subst e; exact absurd h3 (by simp)
        simp [e3, h3]
theorem bytes_tot : ∀ x y : List UInt8, Op.bytesLess x y = false → Op.bytesLess y x = false → x = y
  | [], [], _, _ => rfl
  | [], b :: y, h, _ => by simp [Op.bytesLess] at h
  | a :: x, [], _, h => by simp [Op.bytesLess] at h
  | a :: x, b :: y, h1, h2 => by
    simp only [Op.bytesLess] at *
    by_cases e1 : a = b
    · subst e1
      simp at h1 h2
      rw [bytes_tot x y h1 h2]
    · have e2 : ¬ b = a := fun e => e1 e.symm
      simp [e1] at h1
      simp [e2] at h2
      exact absurd (UInt8.le_antisymm h2 h1) e1
theorem strLt_ord : StrictOrd strLt := ⟨fun a => bytes_irr _, fun a b c => bytes_tr _ _ _, fun a b h1 h2 => strEq_iff.1 (by unfold strEq; rw [bytes_tot _ _ h1 h2]; simp)⟩
section
variable {α : Type} (lt : α → α → Bool)
variable {lt}
end
end Go.Proofs.YtggagmafkdhjcaaGreatDoor
namespace Go.Proofs.YtggagmafkdhjcaaGreatDoor
open Go Go.RowKit Go.Sort
set_option maxRecDepth 10000
variable {G : Nat → Option (List Value)}
instance : Inhabited Per := ⟨⟨⟨#[]⟩, 0, 0, 0, 0⟩⟩
def cmpTK (a b : ByteArray) : Int := if strLt a b = true then -1 else if strLt b a = true then 1 else 0
def cmpPK (a b : Per) : Int := cmpTK a.n b.n
set_option maxHeartbeats 1000000 in
theorem nanK (x : ByteArray) (W : World) : Calls Tryz.prog 71 #[.string x] W fun e w' => e = .returned (.bool false) ∧ w' = W := by
  go_enter Tryz.func71, Tryz.ntmps71
  go_wp2
  go_ret
  exact ⟨by simp, rfl⟩
theorem gtr_str (a b : ByteArray) (w : World) : (binOp .gtr 9 (.string a) (.string b)).run Tryz.prog w = .ok (.bool (Op.bytesLess b.toList a.toList)) w := by
  have h := lt_eq b a
  have e : (!(Op.bytesLess a.toList b.toList || a.toList == b.toList)) = Op.bytesLess b.toList a.toList := by
    have h2 : (!Op.bytesLess b.toList a.toList) = (Op.bytesLess a.toList b.toList || a.toList == b.toList) := h
    rw [← h2, Bool.not_not]
  rw [← e]
  simp [binOp, Op.stringOp]
set_option maxHeartbeats 1000000 in
theorem compK (a b : ByteArray) (W : World) : Calls Tryz.prog 47 #[.string a, .string b] W fun e w' => e = .returned (.int .i64 (cmpTK a b)) ∧ ∃ q, w' = W.drewN q := by
  have hn := fun x W' => nanK x W'
  have hgt := gtr_str a b
  go_enter Tryz.func47, Tryz.ntmps47
  go_wp2_with (go_at_call 71; refine (hn _ _).mono ?_; rintro e w' ⟨rfl, rfl⟩)
  all_goals go_ret
  all_goals refine ⟨?_, 0, rfl⟩
  all_goals (unfold cmpTK strLt; simp_all)
set_option maxHeartbeats 1000000 in
theorem closKP (x y : Per) (W : World) : Calls Tryz.prog 46 #[.agg x.cells.toArray, .agg y.cells.toArray] W fun e w' => e = .returned (.int .i64 (cmpPK x y)) ∧ ∃ q os', w' = grow (W.drewN q) os' := by
  have hcon := fun W' => compK x.n y.n W'
  unfold cmpPK Per.cells
  generalize cmpTK x.n y.n = r at hcon ⊢
  go_enter Tryz.func46, Tryz.ntmps46
  go_wp2_with (go_at_call 47; refine (hcon _).mono ?_; rintro e w' ⟨rfl, q, rfl⟩)
  go_ret
  exact ⟨rfl, q, _, by rw [alloc_eq_grow, alloc_eq_grow, grow_grow]; rfl⟩
theorem aggP (w : World) : (isAgg (Tryz.sortK_ren.t 24)).run Tryz.prog w = .ok true w := run_agg tbOk (t := 38) rfl w
theorem szP (w : World) : (Go.sizeOf (Tryz.sortK_ren.t 24)).run Tryz.prog w = .ok 5 w := run_size tbOk (t := 38) rfl w
theorem ltP_iff (a b : Per) : ltOf cmpPK a b = true ↔ strLt a.n b.n = true := by
  unfold ltOf cmpPK cmpTK
  by_cases h : strLt a.n b.n = true
  · simp [h]
  · by_cases h2 : strLt b.n a.n = true
    · simp [h, h2]
    · simp [h, h2]
theorem ltP_lt (a b : Per) : ltOf cmpPK a b = strLt a.n b.n := by
  rw [Bool.eq_iff_iff]; exact ltP_iff a b
theorem swo_P : SWO (ltOf cmpPK) where
  irrefl x := by rw [ltP_lt]; exact strLt_ord.irr _
  trans x y z h1 h2 := by rw [ltP_lt] at *; exact strLt_ord.tr _ _ _ h1 h2
  ntrans x y z h1 h2 := by
    rw [ltP_lt] at *
    cases h : strLt x.n z.n with
    | false => rfl
    | true =>
      cases h3 : strLt y.n x.n with
      | true =>
        have := strLt_ord.tr _ _ _ h3 h
        rw [h2] at this; cases this
      | false =>
        have e := strLt_ord.tot _ _ h1 h3
        rw [e] at h
        rw [h2] at h; cases h
theorem sortKP_A (L : List Per) (J : List AV) (hJ : ∀ x ∈ J, x = AV.junk) (hm : L.length ≤ 70) : ACalls Tryz.prog G 45 [.bs (refB + 0) 0 5 L.length, .fn 46 []] [bsC (L.map Per.av) J] (.tu []) [bsC ((pdqL cmpPK L).map Per.av) J] :=
  acalls_sort (enc := Per.cells) (cf := cmpPK) (k := 5) (enter_of Tryz.func45 (by kernel_rfl) rfl) (fun _ => rfl) (by decide) swo_P L J hJ (by omega) (fun blk cap d w hH hb hs =>
    AnyQ.slices_SortFunc_eq Tryz.sortK 5 aggP szP Per.cells (fun _ => rfl) (fun x v hv => per_one x v hv) cmpPK swo_P 46 #[] blk 0 cap d w (enter_of Tryz.func46 (by kernel_rfl) rfl) (fun _ _ _ _ x y => closKP x y _) hH hb hs)
end Go.Proofs.YtggagmafkdhjcaaGreatDoor
namespace Go.Proofs.YtggagmafkdhjcaaGreatDoor
open Go Go.RowKit
section
variable {P : Program} {X : Ctx} {n : Nat} {σ : AS} {Q Q' : Exit → AS → Prop}
theorem awp_via {ι : Type} (ok : (Nat → Nat) → ι → Prop) (lT : (Nat → Nat) → ι → List (Nat × AV)) (lH : (Nat → Nat) → ι → List (Nat × Cont)) {c y : Code}
    (h1 : AWp P X n c (thenA (fun τ => At ok lT lH τ fun _ => True) Q') σ) (h2 : ∀ v i, ok v i → AWp P X n y Q (st v (lT v i) (lH v i))) : AWp P X n c (thenA (AWp P X n y Q) Q') σ := by
  refine ⟨fun M ρ a w hR => wp_mono (h1.run M ρ a w hR) ?_⟩
  rintro e a' w' ⟨M', ρ', σ', hR', hQ⟩
  cases e with
  | normal =>
    obtain ⟨j, hj, -, h3, h4⟩ := hQ
    exact ⟨M', ρ', σ', hR', AWp.weak (st_wk h3 h4) (h2 _ j hj)⟩
  | _ => exact ⟨M', ρ', σ', hR', hQ⟩
end
end Go.Proofs.YtggagmafkdhjcaaGreatDoor
