/- permitofficemake.Mod, by the abstract machine; conditions: none / Rows of any elements that are made: a row of the frame's own, of zero values; conditions: tables of types that agree with the program's. -/
import Derived.Test.YtjamibeffalhaaaGreatDoorAbsS
import Derived.Test.YtjamibeffalhaaaGreatDoorTab
import Derived.Test.YtjamibeffalhaaaGreatDoorAbsZ
import Derived.Laws.OwnMore
set_option linter.unusedVariables false
set_option linter.unusedSimpArgs false
namespace Go.Proofs.YtjamibeffalhaaaGreatDoor
open Go Go.RowKit
set_option maxRecDepth 10000
variable {G : Nat → Option (List Value)}
def modP (n k : Int) : Int := (n.tmod k + k).tmod k
theorem pV (n : Int) {k : Int} (hk : 0 < k) : -k < n.tmod k ∧ n.tmod k < k := by
  rcases Int.le_total 0 n with h | h
  · rw [Int.tmod_eq_emod_of_nonneg h]
    have := Int.emod_nonneg n (show k ≠ 0 by omega)
    have := Int.emod_lt_of_pos n hk
    omega
  · obtain ⟨m, rfl⟩ : ∃ m, n = -m := ⟨-n, by omega⟩
    rw [Int.neg_tmod, Int.tmod_eq_emod_of_nonneg (by omega)]
    have := Int.emod_nonneg m (show k ≠ 0 by omega)
    have := Int.emod_lt_of_pos m hk
    omega
theorem oW (n : Int) {k : Int} (hk : 0 < k) : 0 ≤ modP n k ∧ modP n k < k := by
  have h := pV n hk
  unfold modP
  rw [Int.tmod_eq_emod_of_nonneg (by omega)]
  exact ⟨Int.emod_nonneg _ (by omega), Int.emod_lt_of_pos _ hk⟩
theorem mod_A (n k : Int) (hk : 0 < k) (h2 : k ≤ 1000000000000) : zz Tryz.prog G 14 [.v (.int .i64 n), .v (.int .i64 k)] [] (.v (.int .i64 (modP n k))) [] := by
  have h := pV n hk
  have h0 : k ≠ 0 := by omega
  refine zb tbOk (zc Tryz.func14 (by kernel_rfl) rfl) Tryz.func14 rfl _ Tryz.ntmps14 (Nat.le_of_ble_eq_true rfl) fun X hX => ?_
  subst hX
  repeat (first | ((with_reducible refine zK ?_); refine zJ rfl ?_) | ((with_reducible refine zE ?_); refine zF rfl ?_) | ((with_reducible refine zQ ?_); (first | refine zg rfl rfl (by omega) ?_ | refine tU rfl rfl (by first | decide | assumption | omega) ?_))  | refine zL ?_ | refine zB rfl ?_ | with_reducible (first | refine zG ?_ | refine zH ?_ | refine zN ?_) | ((with_reducible refine zA ?_ ?_); kernel_rfl))
  refine zm (by first | exact .inr rfl | exact .inl rfl) rfl rfl ?_
  rfl
end Go.Proofs.YtjamibeffalhaaaGreatDoor
namespace Go.Proofs.YtjamibeffalhaaaGreatDoor
open Go Go.RowKit
section
variable {P : Program} {X : Ctx} {n : Nat} {ops : Array Oper} {os : List Oper} {acc : List Rule} {σ : AS} {K : List Rule → AS → Prop} {gt : List (Nat × AV)} {ty : TypeId} {ps : String} {af : Array Edge} {g : Option (Nat × Bool)}
variable {TB : Tabs} (hTB : TabsOk P TB)
include hTB
end
section
variable {P : Program} {X : Ctx} {n : Nat} {σ : AS} {Q Q' : Exit → AS → Prop}
theorem xT {c : Code} (h : ∀ e τ, Q e τ → Q' e τ) (h1 : AWp P X n c Q σ) : AWp P X n c Q' σ := by
  refine ⟨fun M ρ a w hR => wp_mono (h1.run M ρ a w hR) ?_⟩
  rintro e a' w' ⟨M', ρ', σ', hR', hQ⟩
  exact ⟨M', ρ', σ', hR', h _ _ hQ⟩
/-- The ways of a block come together behind it. -/
theorem wL {ι : Type} {id : Nat} (ok : (Nat → Nat) → ι → Prop) (lT : (Nat → Nat) → ι → List (Nat × AV)) (lH : (Nat → Nat) → ι → List (Nat × Cont)) {c y : Code}
    (h1 : AWp P X n c (qT id (cD (fun τ => At ok lT lH τ fun _ => True) Q')) σ) (h2 : ∀ v i, ok v i → AWp P X n y Q (st v (lT v i) (lH v i))) : AWp P X n c (qT id (cD (AWp P X n y Q) Q')) σ := by
  have key : ∀ e τ, cD (fun τ => At ok lT lH τ fun _ => True) Q' e τ → cD (AWp P X n y Q) Q' e τ := fun e τ h => by
    cases e with
    | normal =>
      obtain ⟨j, hj, -, h3, h4⟩ := h
      exact AWp.weak (oL h3 h4) (h2 _ j hj)
    | _ => exact h
  refine xT (fun e τ h => ?_) h1
  unfold qT at h ⊢
  cases e with
  | exit j =>
    simp only at h ⊢
    cases hb : Nat.beq j id
    · rw [hb] at h; exact key _ _ (by simpa using h)
    · rw [hb] at h; exact key _ _ (by simpa using h)
  | _ => exact key _ _ h
end
end Go.Proofs.YtjamibeffalhaaaGreatDoor
