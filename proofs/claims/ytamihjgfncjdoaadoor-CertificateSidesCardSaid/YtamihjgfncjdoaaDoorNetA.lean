/- Certificates that are asked for in any order: the list is the same, by plain functions; nothing of the program stands here / network.Check and what it calls, by the abstract machine; conditions: the table of classes stands. -/
import Derived.Test.YtamihjgfncjdoaaDoorCeP
import Derived.Test.YtamihjgfncjdoaaDoorAbsU
import Derived.Test.YtamihjgfncjdoaaDoorLexA
import Derived.Test.YtamihjgfncjdoaaDoorNetP
set_option linter.unusedVariables false
set_option linter.unusedSimpArgs false
namespace Go.Proofs.YtamihjgfncjdoaaDoor
open Go Go.RowKit
structure CoS (N : List Nd) (V : List Dv) (S : List Ce) : Prop where
  ok : ∀ c ∈ S, CeOk N V c ∧ c.ask = 1 ∧ c.st = 1 ∧ c.lk.length ≤ 8
  asc : S.Pairwise (fun a b => a.num < b.num)
  len : S.length ≤ 4
theorem lowG_all {c : Ce} : ∀ {L : List Ce}, (∀ x ∈ L, ceLt x c = true) → lowG ceLt c L = L.length
  | [], _ => rfl
  | x :: l, h => by rw [lowG, if_pos (h x (by simp)), lowG_all (fun y hy => h y (by simp [hy]))]; rfl
theorem lowG_none {c : Ce} : ∀ {L : List Ce}, (∀ x ∈ L, ceLt x c = false) → lowG ceLt c L = 0
  | [], _ => rfl
  | x :: l, h => by rw [lowG, if_neg (by rw [h x (by simp)]; decide)]
theorem findC_none {L : List Ce} {a n : Int} (h : ∀ x ∈ L, ¬ (x.ask = a ∧ x.num = n)) : findC L a n = -1 := by
  unfold findC
  have : ∀ (L : List Ce) (i : Nat), (∀ x ∈ L, ¬ (x.ask = a ∧ x.num = n)) → idxG (isC a n) L i = -1 := by
    intro L
    induction L with
    | nil => intro i _; rfl
    | cons x l ih =>
      intro i hi
      rw [idxG, if_neg (by unfold isC; have := hi x (by simp); simpa using this)]
      exact ih _ (fun y hy => hi y (by simp [hy]))
  exact this L 0 h
theorem findC_mem {L : List Ce} {c : Ce} (h : c ∈ L) : 0 ≤ findC L c.ask c.num := by
  unfold findC
  have : ∀ (L : List Ce) (i : Nat), c ∈ L → 0 ≤ idxG (isC c.ask c.num) L i := by
    intro L
    induction L with
    | nil => intro i h; cases h
    | cons x l ih =>
      intro i hi
      rw [idxG]
      split
      · omega
      · rename_i hc
        rcases List.mem_cons.1 hi with rfl | hi
        · exact absurd (by unfold isC; simp) hc
        · exact ih _ hi
  exact this L 0 h
theorem CoS.ls {N : List Nd} {V : List Dv} {S : List Ce} (h : CoS N V S) {L : List Ce} (hL : L.Sublist S) : allE N V L = 0 := by
  refine allE_iff.2 ⟨⟨fun c hc => (h.ok c (hL.subset hc)).1, ?_⟩, by have := hL.length_le; have := h.len; omega⟩
  refine (h.asc.sublist hL).imp_of_mem fun {a b} ha hb hab => ?_
  have h1 := (h.ok a (hL.subset ha)).2.1
  have h2 := (h.ok b (hL.subset hb)).2.1
  rw [ceLt_iff]
  exact .inr ⟨by rw [h1, h2], hab⟩
theorem CoS.lt {N : List Nd} {V : List Dv} {S : List Ce} (h : CoS N V S) {i j : Nat} {a b : Ce} (ha : S[i]? = some a) (hb : S[j]? = some b) (hij : i < j) : a.num < b.num := by
  have h3 := List.pairwise_iff_getElem.1 h.asc i j (lt_at ha) (lt_at hb) hij
  rw [(List.getElem?_eq_some_iff.1 ha).2, (List.getElem?_eq_some_iff.1 hb).2] at h3
  exact h3
theorem CoS.take {N : List Nd} {V : List Dv} {S : List Ce} (h : CoS N V S) {i : Nat} {c : Ce} (hc : S[i]? = some c) : askC N V (S.take i) 1 c = (S.take (i + 1), 0) := by
  obtain ⟨k1, k2, k3, k4⟩ := h.ok c (List.mem_of_getElem? hc)
  have hlt : ∀ x ∈ S.take i, x.ask = 1 ∧ x.num < c.num := fun x hx => by
    obtain ⟨j, hj⟩ := List.getElem?_of_mem hx
    rw [List.getElem?_take] at hj
    split at hj
    · rename_i hji; exact ⟨(h.ok x (List.mem_of_getElem? hj)).2.1, h.lt hj hc hji⟩
    · cases hj
  have hlen : (S.take i).length = i := by rw [List.length_take, Nat.min_eq_left (by have := lt_at hc; omega)]
  unfold askC
  rw [h.ls (List.take_sublist i S), certE_iff.2 k1, if_neg (by decide), if_neg (by decide), if_neg (by rintro (e | e); exact e k2; exact e k3), findC_none (fun x hx e => by have := (hlt x hx).2; omega), if_neg (by decide)]
  unfold putC
  rw [if_neg (by rw [hlen]; have := lt_at hc; have := h.len; omega)]
  unfold insG
  rw [lowG_all (fun x hx => by rw [ceLt_iff, k2]; exact .inr (hlt x hx)), List.take_length, List.drop_length, take_at hc]
theorem CoS.drop {N : List Nd} {V : List Dv} {S : List Ce} (h : CoS N V S) {i : Nat} {c : Ce} (hc : S[i]? = some c) : askC N V (S.drop (i + 1)) 1 c = (S.drop i, 0) := by
  obtain ⟨k1, k2, k3, k4⟩ := h.ok c (List.mem_of_getElem? hc)
  have hlt : ∀ x ∈ S.drop (i + 1), x.ask = 1 ∧ c.num < x.num := fun x hx => by
    obtain ⟨j, hj⟩ := List.getElem?_of_mem hx
    rw [List.getElem?_drop] at hj
    exact ⟨(h.ok x (List.mem_of_getElem? hj)).2.1, h.lt hc hj (by omega)⟩
  unfold askC
  rw [h.ls (List.drop_sublist _ S), certE_iff.2 k1, if_neg (by decide), if_neg (by decide), if_neg (by rintro (e | e); exact e k2; exact e k3), findC_none (fun x hx e => by have := (hlt x hx).2; omega), if_neg (by decide)]
  unfold putC
  rw [if_neg (by rw [List.length_drop]; have := lt_at hc; have := h.len; omega)]
  unfold insG
  rw [lowG_none (fun x hx => by
    cases hq : ceLt x c with
    | false => rfl
    | true =>
      rw [ceLt_iff] at hq
      have := hlt x hx
      omega), drop_at hc]
  rfl
theorem CoS.nil {N : List Nd} {V : List Dv} : CoS N V [] := ⟨fun c h => (by cases h), List.Pairwise.nil, by simp⟩
end Go.Proofs.YtamihjgfncjdoaaDoor
namespace Go.Proofs.YtamihjgfncjdoaaDoor
open Go Go.RowKit
set_option maxRecDepth 10000
variable {G : Nat → Option (List Value)}
def Nd.av (x : Nd) : AV := .ag [.v (.string x.n), .v (.int .i64 x.cu), .v (.int .i64 x.co)]
def Dv.av (d : Dv) : AV := .ag [.v (.string d.n), .v (.int .i64 d.k), .v (.int .i64 d.a), .v (.int .i64 d.b), .v (.int .i64 d.co)]
theorem bytes_beq (s n : ByteArray) : (s == n) = decide (s = n) := by
  obtain ⟨a⟩ := s
  obtain ⟨b⟩ := n
  show (a == b) = _
  by_cases h : a = b
  · subst h; simp
  · simp [h]
theorem findL_used (s : ByteArray) : ∀ U : List ByteArray, findL .string (.string s) (usedL U) = some (if usedB U s = true then some (.bool true) else none)
  | [] => rfl
  | n :: U => by
    have ih := findL_used s U
    unfold usedL at ih ⊢
    rw [List.map_cons, findL]
    simp only [Instr.sameNow]
    by_cases h : s = n
    · subst h
      rw [bytes_beq]
      simp [usedB]
    · rw [bytes_beq, decide_eq_false h]
      simp only [ih, usedB, List.any_cons, decide_eq_false h, Bool.false_or]
      rfl
theorem comp_A (n : Int) : ACalls Tryd.prog G 52 [.v (.int .i64 n)] [] (.v (.bool (compB n))) [] := by
  refine acalls_of tbOk (enter_of Tryd.func52 (by kernel_rfl) rfl) Tryd.func52 rfl _ Tryd.ntmps52 (Nat.le_of_ble_eq_true rfl) fun X hX => ?_
  subst hX
  repeat' (first | ((with_reducible refine k_move ?_); refine m_move rfl ?_) | ((with_reducible refine k_assign ?_); refine m_assign rfl ?_) | ((with_reducible refine k_pick ?_); (first | refine m_pickt rfl (by first | rfl | assumption) rfl ?_ | refine m_pickf rfl (by first | rfl | assumption) rfl ?_)) | ((with_reducible refine k_bin ?_); refine m_binI rfl rfl rfl ?_)  | refine e_nrm ?_ | refine x_none rfl ?_ | refine x_run_t rfl rfl (by first | rfl | assumption) ?_ | refine x_skip_t rfl rfl (by first | rfl | assumption) ?_ | with_reducible (first | refine q_then ?_ | refine awp_seq ?_ | refine awp_ret ?_) | ((with_reducible refine w_region ?_ ?_); kernel_rfl) | refine x_split rfl rfl (fun _ => ?_) (fun _ => ?_) | refine w_cond rfl (fun _ => ?_) (fun _ => ?_))
  all_goals refine ret_v (by first | exact .inr rfl | exact .inl rfl) rfl rfl ?_
  all_goals simp_all [compB]
  all_goals (intros; omega)
theorem joins_A (n : Int) : ACalls Tryd.prog G 70 [.v (.int .i64 n)] [] (.v (.bool (joinsB n))) [] := by
  refine acalls_of tbOk (enter_of Tryd.func70 (by kernel_rfl) rfl) Tryd.func70 rfl _ Tryd.ntmps70 (Nat.le_of_ble_eq_true rfl) fun X hX => ?_
  subst hX
  repeat' (first | ((with_reducible refine k_move ?_); refine m_move rfl ?_) | ((with_reducible refine k_assign ?_); refine m_assign rfl ?_) | ((with_reducible refine k_pick ?_); (first | refine m_pickt rfl (by first | rfl | assumption) rfl ?_ | refine m_pickf rfl (by first | rfl | assumption) rfl ?_)) | ((with_reducible refine k_bin ?_); refine m_binI rfl rfl rfl ?_)  | refine e_nrm ?_ | refine x_none rfl ?_ | refine x_run_t rfl rfl (by first | rfl | assumption) ?_ | refine x_skip_t rfl rfl (by first | rfl | assumption) ?_ | with_reducible (first | refine q_then ?_ | refine awp_seq ?_ | refine awp_ret ?_) | ((with_reducible refine w_region ?_ ?_); kernel_rfl) | refine x_split rfl rfl (fun _ => ?_) (fun _ => ?_) | refine w_cond rfl (fun _ => ?_) (fun _ => ?_))
  all_goals refine ret_v (by first | exact .inr rfl | exact .inl rfl) rfl rfl ?_
  all_goals simp_all [joinsB]
  all_goals (intros; omega)
set_option maxHeartbeats 1000000 in
theorem ends_A (d : Dv) (m : Int) : ACalls Tryd.prog G 53 [d.av, .v (.int .i64 m)] [] (.v (.bool (endsB d m))) [] := by
  refine acalls_of tbOk (enter_of Tryd.func53 (by kernel_rfl) rfl) Tryd.func53 rfl _ Tryd.ntmps53 (Nat.le_of_ble_eq_true rfl) fun X hX => ?_
  subst hX
  repeat' (first | ((with_reducible refine k_move ?_); refine m_move rfl ?_) | ((with_reducible refine k_assign ?_); refine m_assign rfl ?_) | ((with_reducible refine k_fieldAddr ?_); refine x_fieldAddr_ptr tbOk rfl rfl rfl rfl ?_) | ((with_reducible refine k_load ?_); refine x_load_one tbOk rfl rfl rfl rfl rfl ?_) | ((with_reducible refine k_box ?_); refine m_box rfl rfl rfl ?_) | ((with_reducible refine k_pick ?_); (first | refine m_pickt rfl (by first | rfl | assumption) rfl ?_ | refine m_pickf rfl (by first | rfl | assumption) rfl ?_)) | ((with_reducible refine k_bin ?_); refine m_binI rfl rfl rfl ?_)  | refine e_nrm ?_ | refine x_none rfl ?_ | refine x_run_f rfl rfl (by first | rfl | assumption) ?_ | refine x_skip_f rfl rfl (by first | rfl | assumption) ?_ | with_reducible (first | refine q_then ?_ | refine q_then_ret ?_ | refine q_block_ret ?_ | refine awp_seq ?_ | refine awp_block ?_ | refine awp_ret ?_) | ((with_reducible refine w_region ?_ ?_); kernel_rfl) | refine w_cond_t rfl (by first | rfl | assumption) ?_ | refine x_split rfl rfl (fun _ => ?_) (fun _ => ?_) | refine w_cond rfl (fun _ => ?_) (fun _ => ?_))
  all_goals first
    | (fail_if_success with_reducible refine k_call ?_
       skip)
    | (refine zC (joins_A d.k) ?_
       skip)
  all_goals repeat' (first | ((with_reducible refine k_move ?_); refine m_move rfl ?_) | ((with_reducible refine k_assign ?_); refine m_assign rfl ?_) | ((with_reducible refine k_fieldAddr ?_); refine x_fieldAddr_ptr tbOk rfl rfl rfl rfl ?_) | ((with_reducible refine k_load ?_); refine x_load_one tbOk rfl rfl rfl rfl rfl ?_) | ((with_reducible refine k_un ?_); refine x_not rfl ?_) | ((with_reducible refine k_pick ?_); (first | refine m_pickt rfl (by first | rfl | assumption) rfl ?_ | refine m_pickf rfl (by first | rfl | assumption) rfl ?_)) | ((with_reducible refine k_bin ?_); refine m_binI rfl rfl rfl ?_)  | refine e_nrm ?_ | refine x_none rfl ?_ | refine x_run_t rfl rfl (by first | rfl | assumption) ?_ | refine x_skip_t rfl rfl (by first | rfl | assumption) ?_ | with_reducible (first | refine q_then ?_ | refine q_then_ret ?_ | refine q_block ?_ | refine q_block_ret ?_ | refine awp_seq ?_ | refine awp_skip ?_ | refine awp_ret ?_) | ((with_reducible refine w_region ?_ ?_); kernel_rfl) | refine x_split rfl rfl (fun _ => ?_) (fun _ => ?_) | refine w_cond rfl (fun _ => ?_) (fun _ => ?_))
  all_goals refine ret_v (by first | exact .inr rfl | exact .inl rfl) rfl rfl ?_
  all_goals refine congrArg (fun b => AV.v (.bool b)) ?_
  all_goals simp_all [endsB]
  all_goals first
    | (intros; omega)
    | (rw [decide_eq_false (show ¬ d.a < 0 by omega), decide_eq_false (show ¬ m ≤ d.a by omega)]
       by_cases h9 : d.b = d.a <;> by_cases h10 : d.b = -1 <;> simp_all)
end Go.Proofs.YtamihjgfncjdoaaDoor
