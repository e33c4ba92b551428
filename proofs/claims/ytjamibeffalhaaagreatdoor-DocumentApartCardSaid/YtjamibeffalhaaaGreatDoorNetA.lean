/- The network of two companies that permitofficefield.Tie makes, by plain functions of a deck; it is valid; nothing of the program stands here / The tie's network: how many devices, and how long its names are; nothing of the program stands here / network.Check and what it calls, by the abstract machine; conditions: the table of classes stands. -/
import Derived.Test.YtjamibeffalhaaaGreatDoorLxA
import Derived.Test.YtjamibeffalhaaaGreatDoorDkA
import Derived.Test.YtjamibeffalhaaaGreatDoorDcP
import Derived.Test.YtjamibeffalhaaaGreatDoorAbsU
import Derived.Test.YtjamibeffalhaaaGreatDoorLexA
set_option linter.unusedVariables false
set_option linter.unusedSimpArgs false
namespace Go.Proofs.YtjamibeffalhaaaGreatDoor
open Go Go.RowKit
def nmN (i : Nat) : ByteArray := (⟨#[78]⟩ : ByteArray) ++ strOfNums [48 + (i : Int)]
def tieX (D : Dk) (i : Nat) : Nd := ⟨nmN i, if D.val 2 = 0 then 1 + D.next.val 30 else 0, 1 + ((i / 3 : Nat) : Int)⟩
def jS (D : Dk) : Dk := if D.val 2 = 0 then D.next.next else D.next
def tieN : Nat → Nat → Dk → List Nd → Dk × List Nd
  | 0, _, D, L => (D, L)
  | m + 1, i, D, L => tieN m (i + 1) (jS D) (L ++ [tieX D i])
def nm2 (a b : UInt8) : ByteArray := ⟨#[a, b]⟩
/-- The devices that are always there: the kind of X2, and its company. -/
def tieV (k c : Int) : List Dv := [⟨nm2 83 48, 5, 0, -1, 1⟩, ⟨nm2 88 48, 2, 0, 1, 1⟩, ⟨nm2 88 49, 3, 1, 2, 1⟩, ⟨nm2 69 50, 4, 2, -1, 1⟩, ⟨nm2 88 50, k, 2, 3, c⟩, ⟨nm2 69 51, 4, 3, -1, 2⟩, ⟨nm2 88 51, 3, 3, 4, 2⟩, ⟨nm2 88 52, 2, 4, 5, 2⟩, ⟨nm2 83 53, 5, 5, -1, 2⟩]
def kindX2 (z : Int) : Int := if z = 0 then 1 else 3
def tieE (D : Dk) : Dk := (tieN 6 0 D []).1
def qc (D : Dk) : List Nd := (tieN 6 0 D []).2
def tieV0 (D : Dk) : List Dv := tieV (kindX2 ((tieE D).val 2)) (1 + (tieE D).next.val 2)
def tieF (D : Dk) : Dk := (tieE D).next.next
def jU (D : Dk) : List Dv :=
  if (tieF D).val 4 = 0 then tieV0 D ++ [⟨nm2 71 51, 6, 3, -1, 2⟩]
  else if (tieF D).val 4 = 1 then tieV0 D ++ [⟨nm2 68 49, 3, 1, 4, 1 + (tieF D).next.val 2⟩] else tieV0 D
def tieS0 : List Int := [2, 2, 2, 1, 2, 1, 2, 2, 2]
def tieSs (D : Dk) : List Int :=
  if (tieF D).val 4 = 0 then tieS0 ++ [1 + (tieF D).next.val 2]
  else if (tieF D).val 4 = 1 then tieS0 ++ [1]
  else if (tieF D).val 4 = 2 then tieS0.set (1 + (tieF D).next.val 2).toNat 1 else tieS0
def tieD (D : Dk) : Dk := if (tieF D).val 4 = 0 ∨ (tieF D).val 4 = 1 ∨ (tieF D).val 4 = 2 then (tieF D).next.next else (tieF D).next
theorem tieXD_ok {D : Dk} (h : DkOk D) : DkOk (jS D) := by
  unfold jS
  split
  · exact h.next.next
  · exact h.next
theorem tieN_ok : ∀ (m i : Nat) (D : Dk) (L : List Nd), DkOk D → DkOk (tieN m i D L).1 ∧ (tieN m i D L).2.length = L.length + m
  | 0, _, D, L, h => ⟨h, rfl⟩
  | m + 1, i, D, L, h => by
    obtain ⟨a, b⟩ := tieN_ok m (i + 1) (jS D) (L ++ [tieX D i]) (tieXD_ok h)
    refine ⟨a, b.trans ?_⟩
    simp
    omega
theorem tieE_ok {D : Dk} (h : DkOk D) : DkOk (tieE D) := (tieN_ok 6 0 D [] h).1
theorem tieF_ok {D : Dk} (h : DkOk D) : DkOk (tieF D) := (tieE_ok h).next.next
theorem tieD_ok {D : Dk} (h : DkOk D) : DkOk (tieD D) := by
  unfold tieD
  split
  · exact (tieF_ok h).next.next
  · exact (tieF_ok h).next
def cuX (D : Dk) : Int := if D.val 2 = 0 then 1 + D.next.val 30 else 0
theorem cuX_rng (D : Dk) : 0 ≤ cuX D ∧ cuX D ≤ 30 := by
  unfold cuX
  have r := D.next.val_range (n := 30) (by omega)
  have := r.2.1 (by omega)
  split <;> omega
theorem tieNs_eq (D : Dk) : ∃ c0 c1 c2 c3 c4 c5 : Int, (0 ≤ c0 ∧ c0 ≤ 30) ∧ (0 ≤ c1 ∧ c1 ≤ 30) ∧ (0 ≤ c2 ∧ c2 ≤ 30) ∧ (0 ≤ c3 ∧ c3 ≤ 30) ∧ (0 ≤ c4 ∧ c4 ≤ 30) ∧ (0 ≤ c5 ∧ c5 ≤ 30) ∧
    qc D = [⟨nm2 78 48, c0, 1⟩, ⟨nm2 78 49, c1, 1⟩, ⟨nm2 78 50, c2, 1⟩, ⟨nm2 78 51, c3, 2⟩, ⟨nm2 78 52, c4, 2⟩, ⟨nm2 78 53, c5, 2⟩] :=
  ⟨_, _, _, _, _, _, cuX_rng D, cuX_rng (jS D), cuX_rng (jS (jS D)), cuX_rng (jS (jS (jS D))), cuX_rng (jS (jS (jS (jS D)))), cuX_rng (jS (jS (jS (jS (jS D))))), rfl⟩
theorem nd_step {U : List ByteArray} {n : ByteArray} {cu co : Int} {l : List Nd} (h1 : jG n.data.toList = true) (h2 : jH U n = false) (h3 : 0 ≤ cu ∧ cu ≤ 30) (h4 : jf co = true) : ndGo U (⟨n, cu, co⟩ :: l) = ndGo (U ++ [n]) l := by
  rw [ndGo, if_neg (by rw [h1]; decide), if_neg (by rw [h2]; decide), if_neg (by rw [h4]; simp; omega)]
theorem jy {m : Int} {U : List ByteArray} {n : ByteArray} {k a b co : Int} {l : List Dv} (h1 : jG n.data.toList = true) (h2 : jH U n = false) (h3 : 1 ≤ k ∧ k ≤ 6) (h4 : (if a < 0 ∨ m ≤ a then false else if qa k = false then decide (b = -1) else decide (0 ≤ b) && decide (b < m) && decide (b ≠ a)) = true) (h5 : jf co = true) : dvGo m U (⟨n, k, a, b, co⟩ :: l) = dvGo m (U ++ [n]) l := by
  have h4' : qD ⟨n, k, a, b, co⟩ m = true := h4
  rw [dvGo, if_neg (by rw [h1]; decide), if_neg (by rw [h2]; decide), if_neg (by simp only; omega), if_neg (by rw [h4']; decide), if_neg (by rw [h5]; decide)]
theorem comp12 {z : Int} (h0 : 0 ≤ z) (h1 : z ≤ 1) : jf (1 + z) = true := by
  obtain rfl | rfl : z = 0 ∨ z = 1 := by omega
  · rfl
  · rfl
theorem tie_net (D : Dk) : netE (qc D) (jU D) = 0 := by
  obtain ⟨c0, c1, c2, c3, c4, c5, h0, h1, h2, h3, h4, h5, e⟩ := tieNs_eq D
  rw [e]
  have rk := (tieE D).val_range (n := 2) (by omega)
  have ak := rk.2.1 (by omega)
  have rc := (tieE D).next.val_range (n := 2) (by omega)
  have ac := rc.2.1 (by omega)
  have rd := (tieF D).next.val_range (n := 2) (by omega)
  have ad := rd.2.1 (by omega)
  have hc := comp12 rc.1 (by omega)
  have hd := comp12 rd.1 (by omega)
  have hk : kindX2 ((tieE D).val 2) = 1 ∨ kindX2 ((tieE D).val 2) = 3 := by unfold kindX2; split <;> simp
  unfold netE
  have hN : ∀ V : List Dv, ndGo [] [⟨nm2 78 48, c0, 1⟩, ⟨nm2 78 49, c1, 1⟩, ⟨nm2 78 50, c2, 1⟩, ⟨nm2 78 51, c3, 2⟩, ⟨nm2 78 52, c4, 2⟩, ⟨nm2 78 53, c5, 2⟩] = 0 := fun _ => by
    rw [nd_step (by decide +kernel) (by decide +kernel) h0 rfl, nd_step (by decide +kernel) (by decide +kernel) h1 rfl, nd_step (by decide +kernel) (by decide +kernel) h2 rfl, nd_step (by decide +kernel) (by decide +kernel) h3 rfl, nd_step (by decide +kernel) (by decide +kernel) h4 rfl, nd_step (by decide +kernel) (by decide +kernel) h5 rfl]
    rfl
  have hV : (jU D).length ≤ 10 := by
    unfold jU tieV0 tieV
    split
    · simp
    split <;> simp
  rw [if_neg (by simp; omega), if_neg (by rw [hN []]; simp)]
  have hrest : ∀ l : List Dv, (∀ U, U = [nm2 78 48, nm2 78 49, nm2 78 50, nm2 78 51, nm2 78 52, nm2 78 53, nm2 83 48, nm2 88 48, nm2 88 49, nm2 69 50, nm2 88 50, nm2 69 51, nm2 88 51, nm2 88 52, nm2 83 53] → dvGo 6 U l = 0) →
      dvGo 6 [nm2 78 48, nm2 78 49, nm2 78 50, nm2 78 51, nm2 78 52, nm2 78 53] (tieV0 D ++ l) = 0 := fun l hl => by
    unfold tieV0 tieV
    simp only [List.cons_append, List.nil_append]
    rw [jy (by decide +kernel) (by decide +kernel) (by decide) (by decide +kernel) rfl, jy (by decide +kernel) (by decide +kernel) (by decide) (by decide +kernel) rfl, jy (by decide +kernel) (by decide +kernel) (by decide) (by decide +kernel) rfl, jy (by decide +kernel) (by decide +kernel) (by decide) (by decide +kernel) rfl]
    rw [jy (by decide +kernel) (by decide +kernel) (by rcases hk with hk | hk <;> rw [hk] <;> decide) (by rcases hk with hk | hk <;> rw [hk] <;> decide +kernel) hc]
    rw [jy (by decide +kernel) (by decide +kernel) (by decide) (by decide +kernel) rfl, jy (by decide +kernel) (by decide +kernel) (by decide) (by decide +kernel) rfl, jy (by decide +kernel) (by decide +kernel) (by decide) (by decide +kernel) rfl, jy (by decide +kernel) (by decide +kernel) (by decide) (by decide +kernel) rfl]
    exact hl _ rfl
  show dvGo 6 [nm2 78 48, nm2 78 49, nm2 78 50, nm2 78 51, nm2 78 52, nm2 78 53] (jU D) = 0
  unfold jU
  split
  · refine hrest _ fun U hU => ?_
    subst hU
    rw [jy (by decide +kernel) (by decide +kernel) (by decide) (by decide +kernel) rfl]
    rfl
  split
  · refine hrest _ fun U hU => ?_
    subst hU
    rw [jy (by decide +kernel) (by decide +kernel) (by decide) (by decide +kernel) hd]
    rfl
  · have := hrest [] fun U _ => rfl
    rwa [List.append_nil] at this
end Go.Proofs.YtjamibeffalhaaaGreatDoor
namespace Go.Proofs.YtjamibeffalhaaaGreatDoor
open Go Go.RowKit
theorem tie_len (D : Dk) : (jU D).length = 9 ∨ (jU D).length = 10 := by
  unfold jU
  split
  · right; rfl
  split
  · right; rfl
  · left; rfl
theorem tie_sz (D : Dk) : (∀ x ∈ qc D, x.n.size = 2) ∧ (∀ x ∈ jU D, x.n.size = 2) := by
  refine ⟨fun x hx => ?_, fun x hx => ?_⟩
  · obtain ⟨c0, c1, c2, c3, c4, c5, -, -, -, -, -, -, e⟩ := tieNs_eq D
    rw [e] at hx
    simp only [List.mem_cons, List.not_mem_nil, or_false] at hx
    rcases hx with rfl | rfl | rfl | rfl | rfl | rfl <;> rfl
  · have hV : ∀ k c, ∀ x ∈ tieV k c, x.n.size = 2 := fun k c x hx => by
      unfold tieV at hx
      simp only [List.mem_cons, List.not_mem_nil, or_false] at hx
      rcases hx with rfl | rfl | rfl | rfl | rfl | rfl | rfl | rfl | rfl <;> rfl
    unfold jU tieV0 at hx
    split at hx
    · rcases List.mem_append.1 hx with hx | hx
      · exact hV _ _ x hx
      · simp only [List.mem_cons, List.not_mem_nil, or_false] at hx
        subst hx; rfl
    split at hx
    · rcases List.mem_append.1 hx with hx | hx
      · exact hV _ _ x hx
      · simp only [List.mem_cons, List.not_mem_nil, or_false] at hx
        subst hx; rfl
    · exact hV _ _ x hx
theorem tie_names (D : Dk) : (∀ x ∈ qc D, x.n.size ≤ maxLen) ∧ (∀ x ∈ jU D, x.n.size ≤ maxLen) ∧ (qc D).length ≤ maxLen ∧ (jU D).length ≤ maxLen := by
  have hlt : (2 : Nat) ≤ maxLen := by decide
  have h64 : (64 : Nat) ≤ maxLen := by decide
  obtain ⟨hn1, hn2⟩ := netE_len (tie_net D)
  obtain ⟨s1, s2⟩ := tie_sz D
  exact ⟨fun x hx => by rw [s1 x hx]; exact hlt, fun x hx => by rw [s2 x hx]; exact hlt, by omega, by omega⟩
theorem tie_vlen (D : Dk) : 0 < (jU D).length ∧ (jU D).length ≤ 64 := by rcases tie_len D with h | h <;> omega
end Go.Proofs.YtjamibeffalhaaaGreatDoor
namespace Go.Proofs.YtjamibeffalhaaaGreatDoor
open Go Go.RowKit
set_option maxRecDepth 10000
variable {G : Nat → Option (List Value)}
def Nd.av (x : Nd) : AV := .ag [.v (.string x.n), .v (.int .i64 x.cu), .v (.int .i64 x.co)]
def Dv.av (d : Dv) : AV := .ag [.v (.string d.n), .v (.int .i64 d.k), .v (.int .i64 d.a), .v (.int .i64 d.b), .v (.int .i64 d.co)]
theorem bytes_beq (s n : ByteArray) : (s == n) = decide (s = n) := by
  obtain ⟨a⟩ := s
  obtain ⟨b⟩ := n
  show (a == b) = _
  by_cases h : a = b
  · subst h; simp
  · simp [h]
theorem jl (s : ByteArray) : ∀ U : List ByteArray, findL .string (.string s) (usedL U) = some (if jH U s = true then some (.bool true) else none)
  | [] => rfl
  | n :: U => by
    have ih := jl s U
    unfold usedL at ih ⊢
    rw [List.map_cons, findL]
    simp only [Instr.sameNow]
    by_cases h : s = n
    · subst h
      rw [bytes_beq]
      simp [jH]
    · rw [bytes_beq, decide_eq_false h]
      simp only [ih, jH, List.any_cons, decide_eq_false h, Bool.false_or]
      rfl
theorem comp_A (n : Int) : zy Tryz.prog G 76 [.v (.int .i64 n)] [] (.v (.bool (jf n))) [] := by
  refine zf tbOk (zg Tryz.func76 (by kernel_rfl) rfl) Tryz.func76 rfl _ Tryz.ntmps76 (Nat.le_of_ble_eq_true rfl) fun X hX => ?_
  subst hX
  repeat' (first | ((with_reducible refine zJ ?_); refine zI rfl ?_) | ((with_reducible refine zD ?_); refine zC rfl ?_) | ((with_reducible refine za ?_); refine zp rfl (by first | rfl | assumption) rfl ?_) | ((with_reducible refine za ?_); refine zn rfl (by first | rfl | assumption) rfl ?_) | ((with_reducible refine zS ?_); refine zT rfl rfl rfl ?_)  | refine zH ?_ | refine zB rfl ?_ | refine yF rfl rfl (by first | rfl | assumption) ?_ | refine yH rfl rfl (by first | rfl | assumption) ?_ | with_reducible refine zE ?_ | with_reducible refine zF ?_ | with_reducible refine zL ?_ | ((with_reducible refine zA ?_ ?_); kernel_rfl) | refine zw rfl rfl (fun _ => ?_) (fun _ => ?_) | refine zZ rfl (fun _ => ?_) (fun _ => ?_))
  all_goals refine zk (by first | exact .inr rfl | exact .inl rfl) rfl rfl ?_
  all_goals simp_all [jf]
  all_goals (intros; omega)
theorem joins_A (n : Int) : zy Tryz.prog G 105 [.v (.int .i64 n)] [] (.v (.bool (qa n))) [] := by
  refine zf tbOk (zg Tryz.func105 (by kernel_rfl) rfl) Tryz.func105 rfl _ Tryz.ntmps105 (Nat.le_of_ble_eq_true rfl) fun X hX => ?_
  subst hX
  repeat' (first | ((with_reducible refine zJ ?_); refine zI rfl ?_) | ((with_reducible refine zD ?_); refine zC rfl ?_) | ((with_reducible refine za ?_); refine zp rfl (by first | rfl | assumption) rfl ?_) | ((with_reducible refine za ?_); refine zn rfl (by first | rfl | assumption) rfl ?_) | ((with_reducible refine zS ?_); refine zT rfl rfl rfl ?_)  | refine zH ?_ | refine zB rfl ?_ | refine yF rfl rfl (by first | rfl | assumption) ?_ | refine yH rfl rfl (by first | rfl | assumption) ?_ | with_reducible refine zE ?_ | with_reducible refine zF ?_ | with_reducible refine zL ?_ | ((with_reducible refine zA ?_ ?_); kernel_rfl) | refine zw rfl rfl (fun _ => ?_) (fun _ => ?_) | refine zZ rfl (fun _ => ?_) (fun _ => ?_))
  all_goals refine zk (by first | exact .inr rfl | exact .inl rfl) rfl rfl ?_
  all_goals simp_all [qa]
  all_goals (intros; omega)
set_option maxHeartbeats 1000000 in
theorem ends_A (d : Dv) (m : Int) : zy Tryz.prog G 77 [d.av, .v (.int .i64 m)] [] (.v (.bool (qD d m))) [] := by
  refine zf tbOk (zg Tryz.func77 (by kernel_rfl) rfl) Tryz.func77 rfl _ Tryz.ntmps77 (Nat.le_of_ble_eq_true rfl) fun X hX => ?_
  subst hX
  repeat' (first | ((with_reducible refine zJ ?_); refine zI rfl ?_) | ((with_reducible refine zD ?_); refine zC rfl ?_) | ((with_reducible refine zK ?_); refine zG tbOk rfl rfl rfl rfl ?_) | ((with_reducible refine zO ?_); refine zN tbOk rfl rfl rfl rfl rfl ?_) | ((with_reducible refine yy ?_); refine yz rfl rfl rfl ?_) | ((with_reducible refine za ?_); refine zp rfl (by first | rfl | assumption) rfl ?_) | ((with_reducible refine za ?_); refine zn rfl (by first | rfl | assumption) rfl ?_) | ((with_reducible refine zS ?_); refine zT rfl rfl rfl ?_)  | refine zH ?_ | refine zB rfl ?_ | refine zz rfl rfl (by first | rfl | assumption) ?_ | refine yD rfl rfl (by first | rfl | assumption) ?_ | with_reducible refine zE ?_ | with_reducible refine zM ?_ | with_reducible refine zX ?_ | with_reducible refine zF ?_ | with_reducible refine zY ?_ | with_reducible refine zL ?_ | ((with_reducible refine zA ?_ ?_); kernel_rfl) | refine zv rfl (by first | rfl | assumption) ?_ | refine zw rfl rfl (fun _ => ?_) (fun _ => ?_) | refine zZ rfl (fun _ => ?_) (fun _ => ?_))
  all_goals first
    | (fail_if_success with_reducible refine yA ?_
       skip)
    | (refine zj (joins_A d.k) (by repeat' (first | exact trivial | exact Ren.v _ | exact Ren.sl _ _ | exact Ren.ep _ | exact Ren.ptr _ _ _ _ rfl | exact Ren.bs _ _ _ _ _ rfl | exact Ren.nil _ | exact Ren.own _ _ _ _ ⟨_, rfl⟩ | refine zP ?_ | refine zQ ?_ | refine zR ?_ | refine ⟨?_, ?_⟩)) (by repeat' (first | exact trivial | exact RenB.v _ | exact RenB.sl _ _ | exact RenB.ep _ | exact RenB.ptr _ _ _ _ rfl | refine zW ?_ | refine zV ?_ | refine ⟨?_, ?_⟩)) ?_
       skip)
  all_goals repeat' (first | ((with_reducible refine zJ ?_); refine zI rfl ?_) | ((with_reducible refine zD ?_); refine zC rfl ?_) | ((with_reducible refine zK ?_); refine zG tbOk rfl rfl rfl rfl ?_) | ((with_reducible refine zO ?_); refine zN tbOk rfl rfl rfl rfl rfl ?_) | ((with_reducible refine k_un ?_); refine jC rfl ?_) | ((with_reducible refine za ?_); refine zp rfl (by first | rfl | assumption) rfl ?_) | ((with_reducible refine za ?_); refine zn rfl (by first | rfl | assumption) rfl ?_) | ((with_reducible refine zS ?_); refine zT rfl rfl rfl ?_)  | refine zH ?_ | refine zB rfl ?_ | refine yF rfl rfl (by first | rfl | assumption) ?_ | refine yH rfl rfl (by first | rfl | assumption) ?_ | with_reducible refine zE ?_ | with_reducible refine zM ?_ | with_reducible refine zq ?_ | with_reducible refine zX ?_ | with_reducible refine zF ?_ | with_reducible refine zU ?_ | with_reducible refine zL ?_ | ((with_reducible refine zA ?_ ?_); kernel_rfl) | refine zw rfl rfl (fun _ => ?_) (fun _ => ?_) | refine zZ rfl (fun _ => ?_) (fun _ => ?_))
  all_goals refine zk (by first | exact .inr rfl | exact .inl rfl) rfl rfl ?_
  all_goals refine congrArg (fun b => AV.v (.bool b)) ?_
  all_goals simp_all [qD]
  all_goals first
    | (intros; omega)
    | (rw [decide_eq_false (show ¬ d.a < 0 by omega), decide_eq_false (show ¬ m ≤ d.a by omega)]
       by_cases h9 : d.b = d.a <;> by_cases h10 : d.b = -1 <;> simp_all)
end Go.Proofs.YtjamibeffalhaaaGreatDoor
