/- A cut in a walk: ways that part come together in one state; conditions: none / Own buffers handed to a call that gives them back with one element more: copies of rows of any size, the contract, and its law in a walk; conditions: none / What laying elements into, and taking them out of, slices of the caller's own needs, for elements of any size; conditions: none / slices.Clone, Delete at []api.Person, of the caller's own; conditions: none / register.Find, register.Can and their references, by the abstract machine; conditions: the table of classes stands. -/
import Derived.Test.YtggagmafkdhjcaaGreatDoorAbsX
import Derived.Shelf.Spec.SlicesInsert
import Derived.Lib.AppendZerosOnto
import Derived.Lib.SliceRun
import Derived.Test.YtggagmafkdhjcaaGreatDoorTab
import Derived.Test.YtggagmafkdhjcaaGreatDoorRgB
set_option linter.unusedVariables false
set_option linter.unusedSimpArgs false
namespace Go.Proofs.YtggagmafkdhjcaaGreatDoor
open Go Go.RowKit
section
variable {P : Program} {X : Ctx} {n : Nat} {σ : AS} {Q Q' : Exit → AS → Prop}
end
end Go.Proofs.YtggagmafkdhjcaaGreatDoor
namespace Go.Proofs.YtggagmafkdhjcaaGreatDoor
open Go Go.RowKit
section
variable {X : Ctx} {n : Nat} {M : Nat → Option (Array Value)} {ρ : Nat → Nat → Option Value} {σ : AS} {a : Act} {w : World}
end
section
variable {P : Program} {X : Ctx} {n : Nat} {ops : Array Oper} {os : List Oper} {acc : List Rule} {σ : AS} {K : List Rule → AS → Prop} {gt : List (Nat × AV)} {ty : TypeId} {ps : String} {af : Array Edge} {g : Option (Nat × Bool)}
end
end Go.Proofs.YtggagmafkdhjcaaGreatDoor
namespace Go.Proofs.YtggagmafkdhjcaaGreatDoor
open Go Go.RowKit
end Go.Proofs.YtggagmafkdhjcaaGreatDoor
namespace Go.Proofs.YtggagmafkdhjcaaGreatDoor
open Go Go.RowKit
theorem sM : (Tryz.prog.info? 38).map (fun i => (i.zero, i.size, i.bytes)) = some (some (Value.agg #[.string ⟨#[]⟩, .int .i64 0, .int .i64 0, .int .i64 0, .int .i64 0]), 5, 48) := by kernel_rfl
theorem kT (A : Option Addr) (n c : Nat) (w : World) : (binOp .eql 27 (.slice A n c) (.slice none 0 0)).run Tryz.prog w = .ok (.bool A.isNone) w :=
  Lib.run_eql_slice_nil w 27 38 A n c 0 0 Tryz.underlying27
set_option maxHeartbeats 1000000 in
theorem mH (c : Nat) (w : World) : Calls Tryz.prog 43 #[.slice none 0 c] w fun e w' => e = .returned (.slice none 0 0) ∧ w = w' := by
  have he := kT
  go_enter Tryz.func43, Tryz.ntmps43
  go_wp2
  go_ret
  exact ⟨rfl, rfl⟩
set_option maxHeartbeats 1000000 in
theorem kU (ad : Addr) (c n : Nat) (news : List Value) (w : World) (hl : news.length = n * 5) (hr : ∀ w', Below w.heap.size w w' → 0 < n → ∃ a, some ad = some a ∧ ∀ j u, news[j]? = some u → w'.cell? (a.add j) = some u) (h1 : ∀ u ∈ news, u.oneCell' = true) (hn : n ≤ 1000) :
    Calls Tryz.prog 43 #[.slice (some ad) n c] w fun e w' => ∃ v, e = .returned v ∧ w'.ownsRow w.heap.size 38 5 v n news ∧ Below w.heap.size w w' := by
  have he := kT
  obtain ⟨i0, hi, hz0, hz1, hz2⟩ := info_parts sM
  go_enter Tryz.func43, Tryz.ntmps43
  go_wp2_with (at_builtin; refine qe _ rfl (.tmp 5) (.tmp 6) _ rfl w.heap.size 38 i0 _ 5 48 Tryz.underlying27 hi hz0 hz1 hz2 rfl (by omega) (.slice (some ⟨w.heap.size, 0, none⟩) 0 0) 0 [] rfl (World.ownsRow_made w #[] 0 (Nat.le_refl _) (by simp [maxLen]) rfl) (some ad) n c news rfl hl (hr _ ((Below.refl _ _).alloc (Nat.le_refl _) _)) h1 (by simp only [maxLen]; omega) (by omega) (by simp) ?_; intro v1 w1 hown1 hg1 hat1; simp only [Nat.zero_add, List.nil_append] at hown1)
  go_ret
  refine ⟨v1, rfl, hown1, ?_⟩
  refine ((Below.refl _ _).alloc (Nat.le_refl _) _).grown hg1 (by simp) (fun k hk => ?_)
  simp [Value.ownBlock] at hk
  omega
theorem rO (N : List AV) (ho : ∀ x ∈ N, jY x.cells = true) (hn : N.length ≤ 1000) : nF Tryz.prog 43 [.sl 5 N] 38 5 N := by
  refine ⟨yj Tryz.func43 (by kernel_rfl) rfl, fun M w vs hlive hl ha => ?_⟩
  obtain ⟨v, rfl⟩ : ∃ v, vs = [v] := List.length_eq_one_iff.1 hl
  have hv := ha 0 _ v rfl rfl
  obtain ⟨A, c, news, rfl, e2, e3, e4, e5, e6, e7⟩ := gQ hlive hv (by decide) ho
  rcases A with _ | ad
  · have h0 : N.length = 0 := by
      rcases Nat.eq_zero_or_pos N.length with h0 | h0
      · exact h0
      · obtain ⟨_, e, _⟩ := e3 h0; cases e
    have hN : N = [] := List.eq_nil_of_length_eq_zero h0
    subst hN
    have hnews : news = [] := List.eq_nil_of_length_eq_zero (by simpa using e2)
    subst hnews
    exact (mH c w).mono fun e w' ⟨he, hw⟩ => ⟨_, [], he, by subst hw; exact Below.refl _ _, dY _ _ _ _, by simp, by simp, by simp⟩
  · refine (kU ad c N.length news w e2 (fun w' hb h0 => ?_) e4 hn).mono fun e w' ⟨u, he, hown, hb⟩ => ⟨u, news, he, hb, hown, e6, e5, e7⟩
    obtain ⟨a, ea, hc⟩ := e3 h0
    refine ⟨a, ea, fun j u hj => ?_⟩
    have h1 := hc j u hj
    have hlt := block_lt_of_cell h1
    rw [← h1]
    exact World.cell?_of_block (hb.block _ hlt)
end Go.Proofs.YtggagmafkdhjcaaGreatDoor
namespace Go.Proofs.YtggagmafkdhjcaaGreatDoor
open Go Go.RowKit
set_option maxRecDepth 10000
variable {G : Nat → Option (List Value)}
theorem oX {E : Per → Int} {L : List Per} (h : jI E L = 0) : L.length ≤ 64 := by
  unfold jI at h
  split at h
  · cases h
  · omega
theorem rL (L : List Per) (nm : ByteArray) (hG : GCls G) (hs : ∀ p ∈ L, p.n.size ≤ maxLen) (hm : L.length ≤ maxLen) :
    jD Tryz.prog G 18 [.ag [.sl 5 (L.map Per.av)], .v (.string nm)] [] (.v (.int .i64 (bY jF L nm))) [] := by
  refine yi tbOk (yj Tryz.func18 (by kernel_rfl) rfl) Tryz.func18 rfl _ Tryz.ntmps18 (Nat.le_of_ble_eq_true rfl) fun X hX => ?_
  subst hX
  repeat (first | ((with_reducible refine zL ?_); refine zM rfl ?_) | ((with_reducible refine zF ?_); refine zj tbOk rfl rfl rfl rfl (Nat.le_of_ble_eq_true rfl) ?_) | ((with_reducible refine yo ?_); refine ym rfl rfl rfl ?_)  | refine yA ?_ | refine zS rfl ?_ | with_reducible (first | refine zY ?_ | refine zR ?_) | ((with_reducible refine zJ ?_ ?_); kernel_rfl))
  with_reducible refine zG ?_
  refine zC (dM L hG hs hm) ?_
  repeat (first | ((with_reducible refine zA ?_); refine yM rfl rfl rfl ?_)  | refine yA ?_ | refine zS rfl ?_ | with_reducible refine zY ?_ )
  refine jE rfl (fun h => ?_) (fun h => ?_)
  · repeat (first | ((with_reducible refine zL ?_); refine zM rfl ?_)  | refine yA ?_ | refine zS rfl ?_ | with_reducible (first | refine zY ?_ | refine zV ?_ | refine zR ?_ | refine zv ?_) | ((with_reducible refine zJ ?_ ?_); kernel_rfl))
    refine jK (by first | exact .inr rfl | exact .inl rfl) rfl rfl ?_
    unfold bY
    rw [if_neg (by simpa using h)]
  · have h0 : jI jF L = 0 := by simpa using h
    have hl := oX h0
    repeat (first | ((with_reducible refine zm ?_); refine zl rfl ?_) | ((with_reducible refine zF ?_); refine zj tbOk rfl rfl rfl rfl (Nat.le_of_ble_eq_true rfl) ?_)  | refine zS rfl ?_ | with_reducible (first | refine zY ?_ | refine zR ?_ | refine zr ?_) | ((with_reducible refine zJ ?_ ?_); kernel_rfl))
    with_reducible refine zG ?_
    refine zC (nR L nm (by omega)) ?_
    repeat (first | ((with_reducible refine zL ?_); refine zM rfl ?_)  | refine yA ?_ | refine zS rfl ?_ | with_reducible (first | refine zY ?_ | refine zv ?_) )
    refine jK (by first | exact .inr rfl | exact .inl rfl) rfl rfl ?_
    unfold bY
    rw [if_pos h0]
set_option maxHeartbeats 1000000 in
theorem sQ (L : List Per) (nm : ByteArray) (sk t : Int) (hG : GCls G) (hs : ∀ p ∈ L, p.n.size ≤ maxLen) (hm : L.length ≤ maxLen) (hsk : I64 sk) :
    jD Tryz.prog G 20 [.ag [.sl 5 (L.map Per.av)], .v (.string nm), .v (.int .i64 sk), .v (.int .i64 t)] [] (.v (.bool (canB jF L nm sk t))) [] := by
  have hm2 : L.length ≤ 9223372036854775807 := by unfold maxLen at hm; omega
  have hc := rL (G := G) L nm hG hs hm
  unfold canB
  rcases mA jF L nm with hr | ⟨j, hr, hj⟩
  · rw [hr] at hc
    rw [hr, if_pos (.inl (by omega))]
    refine yi tbOk (yj Tryz.func20 (by kernel_rfl) rfl) Tryz.func20 rfl _ Tryz.ntmps20 (Nat.le_of_ble_eq_true rfl) fun X hX => ?_
    subst hX
    repeat (first | ((with_reducible refine zm ?_); refine zl rfl ?_) | ((with_reducible refine zL ?_); refine zM rfl ?_) | ((with_reducible refine zF ?_); refine zj tbOk rfl rfl rfl rfl (Nat.le_of_ble_eq_true rfl) ?_) | ((with_reducible refine yo ?_); refine ym rfl rfl rfl ?_)  | refine yA ?_ | refine zS rfl ?_ | with_reducible (first | refine zY ?_ | refine zR ?_) | ((with_reducible refine zJ ?_ ?_); kernel_rfl))
    with_reducible refine zG ?_
    refine zC (hc) ?_
    repeat' (first | ((with_reducible refine zm ?_); refine zl rfl ?_) | ((with_reducible refine zL ?_); refine zM rfl ?_) | ((with_reducible refine zh ?_); refine yO rfl (by first | rfl | assumption) rfl ?_) | ((with_reducible refine zA ?_); refine yM rfl rfl rfl ?_)  | refine yA ?_ | refine zS rfl ?_ | refine yI rfl rfl (by first | rfl | assumption) ?_ | with_reducible (first | refine zY ?_ | refine zV ?_ | refine zR ?_ | refine zv ?_) | ((with_reducible refine zJ ?_ ?_); kernel_rfl) | refine yD rfl (by first | rfl | assumption) ?_ | refine jH rfl rfl (fun _ => ?_) (fun _ => ?_) | refine jE rfl (fun _ => ?_) (fun _ => ?_))
    all_goals first
      | (exfalso; rename_i h; simp at h; done)
      | (refine jK (by first | exact .inr rfl | exact .inl rfl) rfl rfl ?_; rfl)
  · rw [hr] at hc
    obtain ⟨p, hx⟩ := yr hj
    have hy : (L.map Per.av)[j]? = some p.av := by rw [List.getElem?_map, hx]; rfl
    have ej : ((j : Nat) : Int).toNat = j := by omega
    rw [hr, ej, hx]
    simp only
    have ha := cE hsk
    refine yi tbOk (yj Tryz.func20 (by kernel_rfl) rfl) Tryz.func20 rfl _ Tryz.ntmps20 (Nat.le_of_ble_eq_true rfl) fun X hX => ?_
    subst hX
    repeat (first | ((with_reducible refine zm ?_); refine zl rfl ?_) | ((with_reducible refine zL ?_); refine zM rfl ?_) | ((with_reducible refine zF ?_); refine zj tbOk rfl rfl rfl rfl (Nat.le_of_ble_eq_true rfl) ?_) | ((with_reducible refine yo ?_); refine ym rfl rfl rfl ?_)  | refine yA ?_ | refine zS rfl ?_ | with_reducible (first | refine zY ?_ | refine zR ?_) | ((with_reducible refine zJ ?_ ?_); kernel_rfl))
    with_reducible refine zG ?_
    refine zC (hc) ?_
    repeat' (first | ((with_reducible refine zm ?_); refine zl rfl ?_) | ((with_reducible refine zL ?_); refine zM rfl ?_) | ((with_reducible refine zB ?_); refine zH tbOk rfl rfl rfl rfl ?_) | ((with_reducible refine zF ?_); (first | refine zX tbOk rfl rfl rfl rfl rfl ?_ | refine zU tbOk rfl rfl (Nat.le_of_ble_eq_true rfl) ?_)) | ((with_reducible refine yQ ?_); refine yS tbOk rfl rfl rfl rfl rfl rfl rfl (Nat.le_of_ble_eq_true rfl) rfl ?_) | ((with_reducible refine yZ ?_); refine ya tbOk rfl rfl ?_) | ((with_reducible refine zh ?_); (first | refine yO rfl (by first | rfl | assumption) rfl ?_ | refine yP rfl (by first | rfl | assumption) rfl ?_)) | ((with_reducible refine zE ?_); refine zQ tbOk rfl rfl rfl rfl (by assumption) ?_) | ((with_reducible refine zA ?_); refine yM rfl rfl rfl ?_)  | refine yA ?_ | refine zS rfl ?_ | refine yR rfl rfl (by first | rfl | assumption) ?_ | refine yL rfl rfl (by first | rfl | assumption) ?_ | refine yU rfl rfl (by first | rfl | assumption) ?_ | refine yI rfl rfl (by first | rfl | assumption) ?_ | with_reducible (first | refine zY ?_ | refine zV ?_ | refine zR ?_ | refine zr ?_ | refine zv ?_) | ((with_reducible refine zJ ?_ ?_); kernel_rfl) | refine yD rfl (by first | rfl | assumption) ?_ | refine jH rfl rfl (fun _ => ?_) (fun _ => ?_) | refine jE rfl (fun _ => ?_) (fun _ => ?_))
    all_goals refine jK (by first | exact .inr rfl | exact .inl rfl) rfl rfl ?_
    all_goals refine congrArg (fun b => AV.v (.bool b)) ?_
    all_goals clear hc hx hy hr ej
    all_goals split
    all_goals first
      | rfl
      | (simp_all; done)
      | (simp_all; omega)
      | (simp_all; intros; omega)
      | (exfalso; simp_all; omega)
end Go.Proofs.YtggagmafkdhjcaaGreatDoor
