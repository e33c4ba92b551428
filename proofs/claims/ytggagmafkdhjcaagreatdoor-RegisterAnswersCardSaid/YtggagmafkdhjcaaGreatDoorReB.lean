/- Sorting by insertion, by plain functions on lists; nothing of the program stands here / slices.SortFunc at people, where there are few, by the abstract machine; conditions: none / register.Add at few people, register.Remove, and the reference's Same, by the abstract machine; conditions: the table of classes stands. -/
import Derived.Test.YtggagmafkdhjcaaGreatDoorLib
import Derived.Test.YtggagmafkdhjcaaGreatDoorAbsW
import Derived.Test.YtggagmafkdhjcaaGreatDoorAbsX
import Derived.Test.YtggagmafkdhjcaaGreatDoorShelf
import Derived.Test.YtggagmafkdhjcaaGreatDoorRgE
import Derived.Test.YtggagmafkdhjcaaGreatDoorSlQ
import Derived.Test.YtggagmafkdhjcaaGreatDoorRgF
set_option linter.unusedVariables false
set_option linter.unusedSimpArgs false
namespace Go.Proofs.YtggagmafkdhjcaaGreatDoor
open Go Go.RowKit
section
variable {α : Type} (lt : α → α → Bool)
/-- The elements at j and j + 1 change places. -/
def swp (L : List α) (j : Nat) : List α := match L[j + 1]?, L[j]? with
  | some x, some y => (L.set (j + 1) y).set j x
  | _, _ => L
def lessAt (L : List α) (a b : Nat) : Bool := match L[a]?, L[b]? with
  | some x, some y => lt x y
  | _, _ => false
/-- The element at j goes down to its place. -/
def inn : Nat → List α → List α
  | 0, L => L
  | j + 1, L => if lessAt lt L (j + 1) j = true then inn j (swp L j) else L
/-- The first k elements in order. -/
def outr : Nat → List α → List α
  | 0, L => L
  | k + 1, L => inn lt k (outr k L)
def isort (L : List α) : List α := outr lt L.length L
variable {lt}
theorem swp_len (L : List α) (j : Nat) : (swp L j).length = L.length := by
  unfold swp
  split <;> simp
theorem inn_len : ∀ (j : Nat) (L : List α), (inn lt j L).length = L.length
  | 0, L => rfl
  | j + 1, L => by
    unfold inn
    split
    · rw [inn_len j, swp_len]
    · rfl
theorem outr_len : ∀ (k : Nat) (L : List α), (outr lt k L).length = L.length
  | 0, L => rfl
  | k + 1, L => by rw [outr, inn_len, outr_len k]
theorem swp_perm (L : List α) (j : Nat) : (swp L j).Perm L := by
  unfold swp
  split
  · rename_i x y hx hy
    obtain ⟨A, B, hL, hA⟩ : ∃ A B, L = A ++ y :: x :: B ∧ j = A.length := by
      have h1 := drop_at hy
      have h2 := drop_at hx
      exact ⟨L.take j, L.drop (j + 2), by
        conv => lhs; rw [← List.take_append_drop j L]
        rw [h1, h2], by rw [List.length_take]; have := lt_at hy; omega⟩
    subst hL; subst hA
    have e : ((A ++ y :: x :: B).set (A.length + 1) y).set A.length x = A ++ x :: y :: B := by
      rw [List.set_append_right _ _ (by omega), List.set_append_right _ _ (by omega)]
      simp
    rw [e]
    exact (List.Perm.swap y x B).append_left A
  · exact List.Perm.refl L
theorem inn_perm : ∀ (j : Nat) (L : List α), (inn lt j L).Perm L
  | 0, L => List.Perm.refl L
  | j + 1, L => by
    unfold inn
    split
    · exact (inn_perm j _).trans (swp_perm L j)
    · exact List.Perm.refl L
theorem outr_perm : ∀ (k : Nat) (L : List α), (outr lt k L).Perm L
  | 0, L => List.Perm.refl L
  | k + 1, L => (inn_perm k _).trans (outr_perm k L)
theorem isort_perm (L : List α) : (isort lt L).Perm L := outr_perm _ L
theorem isort_len (L : List α) : (isort lt L).length = L.length := outr_len _ L
structure SwoB (lt : α → α → Bool) : Prop where
  asym : ∀ x y, lt x y = true → lt y x = false
  nt : ∀ x y z, lt x z = true → lt x y = true ∨ lt y z = true
def SrtB (lt : α → α → Bool) (L : List α) (i : Nat) : Prop := ∀ a b x y, a < b → b < i → L[a]? = some x → L[b]? = some y → lt y x = false
def InsB (lt : α → α → Bool) (L : List α) (i j : Nat) : Prop := ∀ a b x y, a < b → b ≤ i → b ≠ j → L[a]? = some x → L[b]? = some y → lt y x = false
theorem swp_at {L : List α} {j : Nat} {x y : α} (hx : L[j + 1]? = some x) (hy : L[j]? = some y) : swp L j = (L.set (j + 1) y).set j x := by
  unfold swp
  rw [hx, hy]
theorem ins_done (hS : SwoB lt) : ∀ (j i : Nat) (L : List α), j ≤ i → InsB lt L i j → SrtB lt (inn lt j L) (i + 1)
  | 0, i, L, _, h => fun a b x y hab hb hx hy => h a b x y hab (by omega) (by omega) hx hy
  | j + 1, i, L, hj, h => by
    unfold inn
    split
    · rename_i hl
      unfold lessAt at hl
      split at hl
      · rename_i x y hx hy
        refine ins_done hS j i _ (by omega) ?_
        rw [swp_at hx hy]
        have hx' := lt_at hx
        intro a b p q hab hb hbj hp hq
        have g : ∀ k, ((L.set (j + 1) y).set j x)[k]? = if k = j then some x else if k = j + 1 then some y else L[k]? := fun k => by
          by_cases h1 : k = j
          · rw [if_pos h1, h1, List.getElem?_set_self (by simp; omega)]
          · rw [if_neg h1, List.getElem?_set_ne (Ne.symm h1)]
            by_cases h2 : k = j + 1
            · rw [if_pos h2, h2, List.getElem?_set_self (by omega)]
            · rw [if_neg h2, List.getElem?_set_ne (Ne.symm h2)]
        rw [g] at hp hq
        rw [if_neg hbj] at hq
        by_cases hb1 : b = j + 1
        · rw [if_pos hb1] at hq
          injection hq with hq
          subst hq
          by_cases ha : a = j
          · rw [if_pos ha] at hp
            injection hp with hp
            subst hp
            exact hS.asym _ _ hl
          · rw [if_neg ha, if_neg (by omega)] at hp
            exact h a j p y (by omega) (by omega) (by omega) hp hy
        · rw [if_neg hb1] at hq
          by_cases ha : a = j
          · rw [if_pos ha] at hp
            injection hp with hp
            subst hp
            exact h (j + 1) b _ q (by omega) hb (by omega) hx hq
          · rw [if_neg ha] at hp
            by_cases ha1 : a = j + 1
            · rw [if_pos ha1] at hp
              injection hp with hp
              subst hp
              exact h j b _ q (by omega) hb (by omega) hy hq
            · rw [if_neg ha1] at hp
              exact h a b p q hab hb (by omega) hp hq
      · cases hl
    · rename_i hl
      intro a b x y hab hb hx hy
      by_cases hbj : b = j + 1
      · subst hbj
        cases hq : lt y x with
        | false => rfl
        | true =>
          obtain ⟨z, hz⟩ := some_at (L := L) (k := j) (by have := lt_at hy; omega)
          have hyz : lt y z = false := by
            cases hc : lt y z with
            | false => rfl
            | true => exact absurd (by unfold lessAt; rw [hy, hz]; exact hc) hl
          by_cases ha : a = j
          · subst ha
            rw [hz] at hx
            injection hx with hx
            subst hx
            rw [hyz] at hq
            cases hq
          · rcases hS.nt y z x hq with h1 | h1
            · rw [hyz] at h1; cases h1
            · have := h a j x z (by omega) (by omega) (by omega) hx hz
              rw [this] at h1; cases h1
      · exact h a b x y hab (by omega) hbj hx hy
theorem outr_sorted (hS : SwoB lt) : ∀ (k : Nat) (L : List α), SrtB lt (outr lt k L) k
  | 0, L => fun a b _ _ _ hb => absurd hb (by omega)
  | k + 1, L => ins_done hS k k _ (Nat.le_refl _) fun a b x y hab hb hbk hx hy => outr_sorted hS k L a b x y hab (by omega) hx hy
theorem isort_sorted (hS : SwoB lt) (L : List α) : SrtB lt (isort lt L) L.length := outr_sorted hS _ L
end
end Go.Proofs.YtggagmafkdhjcaaGreatDoor
namespace Go.Proofs.YtggagmafkdhjcaaGreatDoor
open Go Go.RowKit
set_option maxRecDepth 10000
variable {G : Nat → Option (List Value)}
def cmpT (a b : ByteArray) : Int := if strLt a b = true then -1 else if strLt b a = true then 1 else 0
def cmpP (a b : Per) : Int := cmpT a.n b.n
def ltP (a b : Per) : Bool := decide (cmpP a b < 0)
theorem ltP_eq (a b : Per) : ltP a b = strLt a.n b.n := by
  unfold ltP cmpP cmpT
  cases h : strLt a.n b.n
  · cases h2 : strLt b.n a.n <;> rfl
  · rfl
end Go.Proofs.YtggagmafkdhjcaaGreatDoor
namespace Go.Proofs.YtggagmafkdhjcaaGreatDoor
open Go Go.RowKit
set_option maxRecDepth 10000
variable {G : Nat → Option (List Value)}
theorem per_sz (L : List Per) : ∀ x ∈ L.map Per.av, x.cells.length = 5 := fun x hx => by
  obtain ⟨y, -, rfl⟩ := List.mem_map.1 hx
  rfl
def addK (L : List Per) (p : Per) : List Per × Int :=
  if pcheckE pvalidE L ≠ 0 then ([], pcheckE pvalidE L) else if pvalidE p ≠ 0 then ([], pvalidE p) else if 0 ≤ idxP p.n L 0 then ([], 4) else if L.length = 64 then ([], 1) else (isort ltP (L ++ [p]), 0)
def removeK (L : List Per) (nm : ByteArray) : List Per × Int :=
  if pcheckE pvalidE L ≠ 0 then ([], pcheckE pvalidE L) else if idxP nm L 0 < 0 then ([], 15) else (L.take (idxP nm L 0).toNat ++ L.drop ((idxP nm L 0).toNat + 1), 0)
set_option maxHeartbeats 4000000 in
theorem kremove_A (L : List Per) (nm : ByteArray) (hG : GCls G) (hs : ∀ q ∈ L, q.n.size ≤ maxLen) (hm : L.length ≤ 70) :
    ACalls Tryz.prog G 16 [regAV L, .v (.string nm)] [] (.tu [regAV (removeK L nm).1, .v (.int .i64 (removeK L nm).2)]) [] := by
  have hml : L.length ≤ maxLen := by unfold maxLen; omega
  refine acalls_of tbOk (enter_of Tryz.func16 (by kernel_rfl) rfl) Tryz.func16 rfl _ Tryz.ntmps16 (Nat.le_of_ble_eq_true rfl) fun X hX => ?_
  subst hX
  unfold removeK
  repeat (first | ((with_reducible refine k_assign ?_); refine m_assign rfl ?_) | ((with_reducible refine k_load ?_); refine x_load_agg tbOk rfl rfl rfl rfl (Nat.le_of_ble_eq_true rfl) ?_) | ((with_reducible refine k_alloc ?_); refine x_alloc tbOk rfl rfl ?_) | ((with_reducible refine k_box ?_); refine m_box rfl rfl rfl ?_)  | refine e_nrm ?_ | refine x_none rfl ?_ | with_reducible (first | refine q_then ?_ | refine awp_seq ?_) | ((with_reducible refine w_region ?_ ?_); kernel_rfl))
  refine x_call0 (check_A L hG hs hml) (by repeat' (first | exact trivial | exact Ren.sl _ _ | refine ren_ag ?_ | refine ⟨?_, ?_⟩)) (by repeat' exact RenB.v _) ?_
  by_cases h1 : pcheckE pvalidE L = 0
  · have q1 : (pcheckE pvalidE L != 0) = false := by simp [h1]
    rw [if_neg (by simp [h1])]
    repeat (first | ((with_reducible refine k_move ?_); refine m_move rfl ?_) | ((with_reducible refine k_assign ?_); refine m_assign rfl ?_) | ((with_reducible refine k_load ?_); refine x_load_agg tbOk rfl rfl rfl rfl (Nat.le_of_ble_eq_true rfl) ?_) | ((with_reducible refine k_bin ?_); refine m_binI rfl rfl rfl ?_)  | refine e_nrm ?_ | refine x_none rfl ?_ | with_reducible (first | refine q_then ?_ | refine awp_seq ?_ | refine awp_skip ?_) | ((with_reducible refine w_region ?_ ?_); kernel_rfl) | refine w_cond_f rfl (by first | rfl | assumption) ?_)
    refine x_call0 (index_A L nm (by omega)) (by repeat' (first | exact trivial | exact Ren.v _ | exact Ren.sl _ _ | refine ren_ag ?_ | refine ⟨?_, ?_⟩)) (by repeat' exact RenB.v _) ?_
    by_cases h3 : idxP nm L 0 < 0
    · have q3 : decide (idxP nm L 0 < 0) = true := decide_eq_true h3
      rw [if_pos h3]
      repeat (first | ((with_reducible refine k_move ?_); refine m_move rfl ?_) | ((with_reducible refine k_assign ?_); refine m_assign rfl ?_) | ((with_reducible refine k_store ?_); refine m_store tbOk rfl rfl rfl rfl rfl rfl rfl (Nat.le_of_ble_eq_true rfl) rfl ?_) | ((with_reducible refine k_build ?_); refine m_build tbOk rfl rfl rfl rfl rfl ?_) | ((with_reducible refine k_bin ?_); refine m_binI rfl rfl rfl ?_)  | refine e_nrm ?_ | refine x_none rfl ?_ | with_reducible (first | refine q_then ?_ | refine q_then_ret ?_ | refine awp_seq ?_ | refine awp_ret ?_) | ((with_reducible refine w_region ?_ ?_); kernel_rfl) | refine w_cond_t rfl (by first | rfl | assumption) ?_)
      refine ret0 (by first | exact .inr rfl | exact .inl rfl) (xs := [.ag [.v (.slice none 0 0)], .v (.int .i64 (15))]) ?_ ?_
      · exact ⟨.agg _ _ _ _ _ _ rfl rfl rfl rfl, .tmp _, trivial⟩
      · repeat' (first | exact trivial | exact Ren.v _ | exact Ren.nil _ | refine ren_ag ?_ | refine ren_tu ?_ | refine ⟨?_, ?_⟩)
    · rw [if_neg h3]
      obtain ⟨j, hj, hjl⟩ : ∃ j : Nat, idxP nm L 0 = (j : Int) ∧ j < L.length := by
        rcases idx_range nm L 0 with h | ⟨j, h, hl⟩
        · omega
        · exact ⟨j, by simpa using h, hl⟩
      rw [hj, Int.toNat_natCast]
      have q3 : decide ((j : Int) < 0) = false := decide_eq_false (by omega)
      repeat (first | ((with_reducible refine k_move ?_); refine m_move rfl ?_) | ((with_reducible refine k_assign ?_); refine m_assign rfl ?_) | ((with_reducible refine k_fieldAddr ?_); refine x_fieldAddr_ptr tbOk rfl rfl rfl rfl ?_) | ((with_reducible refine k_load ?_); refine x_load_one tbOk rfl rfl rfl rfl rfl ?_) | ((with_reducible refine k_bin ?_); refine m_binI rfl rfl rfl ?_)  | refine e_nrm ?_ | refine x_none rfl ?_ | with_reducible (first | refine q_then ?_ | refine awp_seq ?_ | refine awp_skip ?_) | ((with_reducible refine w_region ?_ ?_); kernel_rfl) | refine w_cond_f rfl (by first | rfl | assumption) ?_)
      with_reducible refine k_call ?_
      refine x_call_own (clone_OQ (L.map Per.av) (per_oneA L) (by rw [List.length_map]; omega)) (by repeat' (first | exact trivial | exact Ren.sl _ _ | refine ⟨?_, ?_⟩)) rfl ?_
      repeat (first | ((with_reducible refine k_move ?_); refine m_move rfl ?_) | ((with_reducible refine k_bin ?_); refine x_add_in rfl rfl (by omega) ?_)  | refine x_none rfl ?_  )
      with_reducible refine k_call ?_
      refine x_call_ins (delete_IQ (L.map Per.av) j (by rw [List.length_map]; exact hjl)) rfl rfl rfl rfl rfl rfl ?_
      repeat (first | ((with_reducible refine k_assign ?_); refine m_assign rfl ?_) | ((with_reducible refine k_store ?_); refine m_store tbOk rfl rfl rfl rfl rfl rfl rfl (Nat.le_of_ble_eq_true rfl) rfl ?_) | ((with_reducible refine k_build ?_); refine m_build tbOk rfl rfl rfl rfl rfl ?_)  | refine e_nrm ?_ | refine x_none rfl ?_ | with_reducible (first | refine q_then ?_ | refine awp_ret ?_) )
      refine ret0_ct (by first | exact .inr rfl | exact .inl rfl) rfl rfl rfl rfl rfl rfl ?_
      have el : (L.take j ++ L.drop (j + 1)).map Per.av = (L.map Per.av).take j ++ (L.map Per.av).drop (j + 1) := by rw [List.map_append, List.map_take, List.map_drop]
      unfold regAV
      rw [el]
      repeat' (first | exact trivial | exact Ren.v _ | exact Ren.own _ _ _ _ ⟨_, rfl⟩ | refine ren_ag ?_ | refine ren_tu ?_ | refine ⟨?_, ?_⟩)
  · have q1 : (pcheckE pvalidE L != 0) = true := by simp [h1]
    rw [if_pos h1]
    repeat (first | ((with_reducible refine k_move ?_); refine m_move rfl ?_) | ((with_reducible refine k_assign ?_); refine m_assign rfl ?_) | ((with_reducible refine k_store ?_); refine m_store tbOk rfl rfl rfl rfl rfl rfl rfl (Nat.le_of_ble_eq_true rfl) rfl ?_) | ((with_reducible refine k_build ?_); refine m_build tbOk rfl rfl rfl rfl rfl ?_) | ((with_reducible refine k_bin ?_); refine m_binI rfl rfl rfl ?_)  | refine e_nrm ?_ | refine x_none rfl ?_ | with_reducible (first | refine q_then ?_ | refine q_then_ret ?_ | refine awp_seq ?_ | refine awp_ret ?_) | ((with_reducible refine w_region ?_ ?_); kernel_rfl) | refine w_cond_t rfl (by first | rfl | assumption) ?_)
    refine ret0 (by first | exact .inr rfl | exact .inl rfl) (xs := [.ag [.v (.slice none 0 0)], .v (.int .i64 (pcheckE pvalidE L))]) ?_ ?_
    · exact ⟨.agg _ _ _ _ _ _ rfl rfl rfl rfl, .tmp _, trivial⟩
    · repeat' (first | exact trivial | exact Ren.v _ | exact Ren.nil _ | refine ren_ag ?_ | refine ren_tu ?_ | refine ⟨?_, ?_⟩)
def Per.vals (p : Per) : List Value := [.string p.n, .int .i64 p.c, .int .i64 p.s, .int .i64 p.f, .int .i64 p.u]
theorem held_Per : Tryz.prog.stoodInHeld 38 = false := by kernel_rfl
theorem perSame (a : Per) (w : World) (d : Nat) : (Op.equalIn (d + 2) 38 (.agg ⟨a.vals⟩) (.agg ⟨a.vals⟩)).run Tryz.prog w = .ok true w := by
  obtain ⟨n, c, s, f, u⟩ := a
  rw [run_equalIn_struct w (d + 1) 38 _ _ (by kernel_rfl) held_Per]
  simp [Per.vals, Program.fieldsOf, Tryz.underlying38, Op.eqFields, go_sem, Tryz.underlying3, Tryz.underlying9]
theorem perNeq (x y : Operand) (a : Per) (w : World) : (do eqGuard .neq 38 x y (.agg ⟨a.vals⟩) (.agg ⟨a.vals⟩); binOp .neq 38 (.agg ⟨a.vals⟩) (.agg ⟨a.vals⟩) : Sem Value).run Tryz.prog w = .ok (.bool false) w := by
  have hg : (eqGuard .neq 38 x y (.agg ⟨a.vals⟩) (.agg ⟨a.vals⟩)).run Tryz.prog w = .ok () w := by
    unfold eqGuard
    simp [show Tryz.prog.eqGuardType Tryz.prog.depth 38 = false by kernel_rfl]
  rw [Sem.run_bind, hg]
  simp only [Result.andThen_ok, binOp]
  simp [Op.equal, Op.maxDepth, perSame a w 9998]
theorem psame_A (L : List Per) (hm : L.length ≤ 1000) : ACalls Tryz.prog G 11 [regAV L, regAV L] [] (.v (.bool true)) [] := by
  have q : (((L.map Per.av).length : Int) != ((L.map Per.av).length : Int)) = false := by simp
  refine acalls_of tbOk (enter_of Tryz.func11 (by kernel_rfl) rfl) Tryz.func11 rfl _ Tryz.ntmps11 (Nat.le_of_ble_eq_true rfl) fun X hX => ?_
  subst hX
  repeat (first | ((with_reducible refine k_assign ?_); refine m_assign rfl ?_) | ((with_reducible refine k_fieldAddr ?_); refine x_fieldAddr_ptr tbOk rfl rfl rfl rfl ?_) | ((with_reducible refine k_load ?_); refine x_load_one tbOk rfl rfl rfl rfl rfl ?_) | ((with_reducible refine k_box ?_); refine m_box rfl rfl rfl ?_) | ((with_reducible refine k_call ?_); refine x_len tbOk rfl rfl ?_) | ((with_reducible refine k_bin ?_); refine m_binI rfl rfl rfl ?_)  | refine e_nrm ?_ | refine x_none rfl ?_ | with_reducible (first | refine q_then ?_ | refine awp_seq ?_ | refine awp_block ?_ | refine awp_skip ?_) | ((with_reducible refine w_region ?_ ?_); kernel_rfl) | refine w_cond_f rfl (by first | rfl | assumption) ?_)
  refine awp_loop (ι := Nat) (fun j => j ≤ L.length) (fun j => L.length - j) (fun v j => [(2, .ptr 2 (v 2) 0), (3, .ptr 3 (v 3) 0), (5, .v (.int .i64 j))]) (fun v j => [(2, .box [.sl 5 (L.map Per.av)]), (3, .box [.sl 5 (L.map Per.av)])]) ?_ ?_
  · exact ⟨0, Nat.zero_le _, trivial, ⟨rfl, rfl, rfl, trivial⟩, ⟨rfl, rfl, trivial⟩⟩
  rintro v j hj
  repeat (first | ((with_reducible refine k_move ?_); refine m_move rfl ?_) | ((with_reducible refine k_fieldAddr ?_); refine x_fieldAddr_ptr tbOk rfl rfl rfl rfl ?_) | ((with_reducible refine k_load ?_); refine x_load_one tbOk rfl rfl rfl rfl rfl ?_) | ((with_reducible refine k_call ?_); refine x_len tbOk rfl rfl ?_) | ((with_reducible refine k_bin ?_); refine m_binI rfl rfl rfl ?_)  | refine e_nrm ?_ | refine x_none rfl ?_ | with_reducible (first | refine q_then ?_ | refine awp_seq ?_) | ((with_reducible refine w_region ?_ ?_); kernel_rfl))
  refine w_cond rfl (fun h => ?_) (fun h => ?_)
  · have hlt : j < L.length := by simpa using h
    obtain ⟨x, hx⟩ := some_at hlt
    have hy : (L.map Per.av)[j]? = some x.av := by rw [List.getElem?_map, hx]; rfl
    repeat (first | ((with_reducible refine k_move ?_); refine m_move rfl ?_) | ((with_reducible refine k_fieldAddr ?_); refine x_fieldAddr_ptr tbOk rfl rfl rfl rfl ?_) | ((with_reducible refine k_load ?_); (first | refine x_load_one tbOk rfl rfl rfl rfl rfl ?_ | refine x_load_ep_agg tbOk rfl rfl (Nat.le_of_ble_eq_true rfl) ?_)) | ((with_reducible refine k_indexAddr ?_); refine x_indexAddr_n tbOk rfl rfl rfl rfl (by assumption) ?_)  | refine x_none rfl ?_ | with_reducible (first | refine q_then ?_ | refine awp_seq ?_ | refine awp_block ?_ | refine awp_skip ?_) | ((with_reducible refine w_draw mixd ?_ ?_); kernel_rfl))
    with_reducible refine k_bin ?_
    refine x_bin_ag rfl rfl (rfl : concL _ = some x.vals) (rfl : concL _ = some x.vals) (fun w => perNeq _ _ _ w) ?_
    repeat (first | ((with_reducible refine k_move ?_); refine m_move rfl ?_) | ((with_reducible refine k_assign ?_); refine m_assign rfl ?_) | ((with_reducible refine k_bin ?_); refine x_add_in rfl rfl (by omega) ?_)  | refine e_nrm ?_ | refine e_drw (by kernel_rfl) ?_ | refine x_none rfl ?_ | with_reducible (first | refine q_then ?_ | refine q_block ?_ | refine awp_skip ?_) | ((with_reducible refine w_region ?_ ?_); kernel_rfl) | refine w_cond_f rfl (by first | rfl | assumption) ?_)
    exact ⟨j + 1, by show j + 1 ≤ L.length; omega, by show L.length - (j + 1) < L.length - j; omega, ⟨rfl, rfl, rfl, trivial⟩, ⟨rfl, rfl, trivial⟩⟩
  · repeat (first | ((with_reducible refine k_assign ?_); refine m_assign rfl ?_)  | refine e_nrm ?_ | refine x_none rfl ?_ | with_reducible (first | refine q_then ?_ | refine q_then_exit ?_ | refine awp_seq ?_ | refine awp_exit ?_ | refine awp_ret ?_) | ((with_reducible refine q_block_exit ?_ ?_); rfl) | ((with_reducible refine w_region ?_ ?_); kernel_rfl))
    refine ret_v (by first | exact .inr rfl | exact .inl rfl) rfl rfl ?_
    rfl
end Go.Proofs.YtggagmafkdhjcaaGreatDoor
