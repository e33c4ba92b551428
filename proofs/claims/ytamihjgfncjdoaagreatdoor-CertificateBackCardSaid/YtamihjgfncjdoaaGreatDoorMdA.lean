/- permitofficemake.Mod, by the abstract machine; conditions: none. -/
import Derived.Test.YtamihjgfncjdoaaGreatDoorAbsS
import Derived.Test.YtamihjgfncjdoaaGreatDoorRnP
set_option linter.unusedVariables false
set_option linter.unusedSimpArgs false
namespace Go.Proofs.YtamihjgfncjdoaaGreatDoor
open Go Go.RowKit
set_option maxRecDepth 10000
variable {G : Nat → Option (List Value)}
def modP (n k : Int) : Int := (n.tmod k + k).tmod k
theorem tmod_rng (n : Int) {k : Int} (hk : 0 < k) : -k < n.tmod k ∧ n.tmod k < k := by
  rcases Int.le_total 0 n with h | h
  · rw [Int.tmod_eq_emod_of_nonneg h]
    have := Int.emod_nonneg n (show k ≠ 0 by omega)
    have := Int.emod_lt_of_pos n hk
    omega
  · obtain ⟨m, rfl⟩ : ∃ m, n = -m := ⟨-n, by omega⟩
    rw [Int.neg_tmod, Int.tmod_eq_emod_of_nonneg (by omega)]
    have := Int.emod_nonneg m (show k ≠ 0 by omega)
    have := Int.emod_lt_of_pos m hk
    omega
theorem modP_rng (n : Int) {k : Int} (hk : 0 < k) : 0 ≤ modP n k ∧ modP n k < k := by
  have h := tmod_rng n hk
  unfold modP
  rw [Int.tmod_eq_emod_of_nonneg (by omega)]
  exact ⟨Int.emod_nonneg _ (by omega), Int.emod_lt_of_pos _ hk⟩
theorem mod_A (n k : Int) (hk : 0 < k) (h2 : k ≤ 1000000000000) : ACalls Tryz.prog G 12 [.v (.int .i64 n), .v (.int .i64 k)] [] (.v (.int .i64 (modP n k))) [] := by
  have h := tmod_rng n hk
  have h0 : k ≠ 0 := by omega
  refine acalls_of tbOk (enter_of Tryz.func12 (by kernel_rfl) rfl) Tryz.func12 rfl _ Tryz.ntmps12 (Nat.le_of_ble_eq_true rfl) fun X hX => ?_
  subst hX
  repeat (first | ((with_reducible refine k_move ?_); refine m_move rfl ?_) | ((with_reducible refine k_assign ?_); refine m_assign rfl ?_) | ((with_reducible refine k_bin ?_); (first | refine x_add_in rfl rfl (by omega) ?_ | refine x_rem rfl rfl (by first | decide | assumption | omega) ?_))  | refine e_nrm ?_ | refine x_none rfl ?_ | with_reducible (first | refine q_then ?_ | refine awp_seq ?_ | refine awp_ret ?_) | ((with_reducible refine w_region ?_ ?_); kernel_rfl))
  refine ret_v (by first | exact .inr rfl | exact .inl rfl) rfl rfl ?_
  rfl
end Go.Proofs.YtamihjgfncjdoaaGreatDoor
