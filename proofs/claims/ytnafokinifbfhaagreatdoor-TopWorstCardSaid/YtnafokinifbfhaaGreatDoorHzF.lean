/- slices.Sort at up to 12 numbers, of the caller's own, by the abstract machine: the whole; conditions: none / Duties and hazards as plain functions, and what is in a list of hazards; nothing is walked here; conditions: none. -/
import Derived.Test.YtnafokinifbfhaaGreatDoorSoI
import Derived.Test.YtnafokinifbfhaaGreatDoorAbsIp
set_option linter.unusedVariables false
set_option linter.unusedSimpArgs false
namespace Go.Proofs.YtnafokinifbfhaaGreatDoor
open Go Go.RowKit
set_option maxRecDepth 10000
variable {G : Nat → Option (List Value)}
theorem uN {P : Program} {X : Ctx} {n : Nat} {σ : AS} {Q : Exit → AS → Prop} {x y : Code} (h : AWp P X n y Q σ) : AWp P X n (.cond (.const (.bool false)) x y) Q σ := by
  refine ⟨fun M ρ a w hR => ?_⟩
  have he : a.eval (.const (.bool false)) = .bool false := rfl
  exact wp_cond_split he (fun e => by cases e) (fun _ => h.run M ρ a w hR)
theorem blen_A (n : Nat) (h : n ≤ 12) : zl Tryz.prog G 93 [.v (.int .u64 (n : Nat))] [] (.v (.int .i64 (len8 n))) [] := by
  refine zY tbOk (zM Tryz.func93 (by kernel_rfl) rfl) Tryz.func93 rfl _ Tryz.ntmps93 (Nat.le_of_ble_eq_true rfl) fun X hX => ?_
  subst hX
  repeat (first | ((with_reducible refine zE ?_); refine zF rfl ?_)  | refine zK ?_ | refine zB rfl ?_ | with_reducible (first | refine zG ?_ | refine zH ?_) | ((with_reducible refine zA ?_ ?_); kernel_rfl))
  refine uN ?_
  repeat (first | ((with_reducible refine zI ?_); refine zJ rfl ?_)  | refine zB rfl ?_ | with_reducible (first | refine zG ?_ | refine zH ?_ | refine zR ?_) | ((with_reducible refine zA ?_ ?_); kernel_rfl))
  refine zk (blen64_A n h) (by repeat' (first | exact trivial | exact Ren.v _ | refine ⟨?_, ?_⟩)) (by repeat' exact RenB.v _) ?_
  repeat (first | ((with_reducible refine zE ?_); refine zF rfl ?_)  | refine zK ?_ | refine zB rfl ?_ | with_reducible (first | refine zG ?_ | refine zS ?_) )
  refine yC (by first | exact .inr rfl | exact .inl rfl) rfl rfl ?_
  rfl
theorem pdq_P (L : List Int) (z : Int) (hl : L.length ≤ 12) : qq Tryz.prog G 92 [.own (refB + 0) 0, .v (.int .i64 0), .v (.int .i64 (L.length : Nat)), .v (.int .i64 z)] [.buf 3 1 (L.map iv)] (.tu []) [.buf 3 1 ((srtI L).map iv)] := by
  have d12 : decide ((L.length : Int) - 0 ≤ 12) = true := decide_eq_true (by omega)
  have hi := inso_P (G := G) L (by omega)
  refine qZ tbOk (zM Tryz.func92 (by kernel_rfl) rfl) Tryz.func92 rfl _ Tryz.ntmps92 (Nat.le_of_ble_eq_true rfl) fun X hX => ?_
  subst hX
  repeat (first | ((with_reducible refine zE ?_); refine zF rfl ?_)  | refine zK ?_ | refine zB rfl ?_ | with_reducible (first | refine zG ?_ | refine zH ?_ | refine zW ?_) | ((with_reducible refine zA ?_ ?_); kernel_rfl))
  refine ym (ι := Unit) (fun v i => v (refB + 0) = 0) (fun i => 0) (fun v i => [(0, .own (refB + 0) (v (refB + 0))), (1, .v (.int .i64 0)), (2, .v (.int .i64 (L.length : Nat)))]) (fun v i => [(refB + 0, .buf 3 1 (L.map iv))]) ?_ ?_
  · exact ⟨(), rfl, trivial, ⟨rfl, rfl, rfl, trivial⟩, ⟨rfl, trivial⟩⟩
  rintro v ⟨⟩ hv0
  repeat (first | ((with_reducible refine zI ?_); refine zJ rfl ?_) | ((with_reducible refine zE ?_); refine zF rfl ?_) | ((with_reducible refine zP ?_); (first | refine jd rfl rfl (by omega) ?_ | refine zV rfl rfl rfl ?_))  | refine zK ?_ | refine zB rfl ?_ | with_reducible (first | refine zG ?_ | refine zH ?_ | refine zW ?_) | ((with_reducible refine zA ?_ ?_); kernel_rfl) | refine yb rfl (by first | rfl | assumption) ?_)
  refine cR (ss := [(refB + 0, v (refB + 0))]) (cs' := [.buf 3 1 ((srtI L).map iv)]) (y := .tu []) hi (by repeat' (first | exact trivial | exact Ren.v _ | exact Ren.ownr _ _ _ rfl | refine ⟨?_, ?_⟩)) (by simp) ⟨rfl, trivial⟩ ⟨rfl, trivial⟩ (by repeat' (first | exact trivial | refine yQ ?_)) ?_
  repeat (first   | refine zK ?_ | with_reducible (first | refine zG ?_ | refine zf ?_ | refine zo ?_ | refine zS ?_) )
  exact pJ (by first | exact .inr rfl | exact .inl rfl) (xs := []) trivial (by repeat' (first | exact trivial | refine yR ?_)) rfl hv0
theorem sort_P (L : List Int) (hl : L.length ≤ 12) : qq Tryz.prog G 47 [.own (refB + 0) 0] [.buf 3 1 (L.map iv)] (.tu []) [.buf 3 1 ((srtI L).map iv)] := by
  have hml : (L.map iv).length = L.length := by simp
  have hb := blen_A (G := G) L.length hl
  have hp := pdq_P (G := G) L (len8 L.length) hl
  refine qZ tbOk (zM Tryz.func47 (by kernel_rfl) rfl) Tryz.func47 rfl _ Tryz.ntmps47 (Nat.le_of_ble_eq_true rfl) fun X hX => ?_
  subst hX
  repeat (first | ((with_reducible refine zI ?_); refine zJ rfl ?_) | ((with_reducible refine zE ?_); refine zF rfl ?_) | ((with_reducible refine yI ?_); refine yP tbOk rfl rfl rfl (by first | assumption | exact zy (by omega) | exact zr (by omega) | exact yH (by omega)) ?_) | ((with_reducible refine yB ?_); refine jV tbOk rfl rfl rfl rfl ?_)  | refine zK ?_ | refine zB rfl ?_ | with_reducible (first | refine zG ?_ | refine zH ?_) | ((with_reducible refine zA ?_ ?_); kernel_rfl))
  rw [hml]
  repeat (first | fail    )
  refine zk (hb) (by repeat' (first | exact trivial | exact Ren.v _ | refine ⟨?_, ?_⟩)) (by repeat' exact RenB.v _) ?_
  repeat (first   | refine zB rfl ?_  )
  refine cR (ss := [(refB + 0, 0)]) (cs' := [.buf 3 1 ((srtI L).map iv)]) (y := .tu []) hp (by repeat' (first | exact trivial | exact Ren.v _ | exact Ren.ownr _ _ _ rfl | refine ⟨?_, ?_⟩)) (by simp) ⟨rfl, trivial⟩ ⟨rfl, trivial⟩ (by repeat' (first | exact trivial | refine yQ ?_)) ?_
  repeat (first   | refine zK ?_  )
  exact pJ (by first | exact .inr rfl | exact .inl rfl) (xs := []) trivial (by repeat' (first | exact trivial | refine yR ?_)) rfl rfl
end Go.Proofs.YtnafokinifbfhaaGreatDoor
namespace Go.Proofs.YtnafokinifbfhaaGreatDoor
open Go Go.RowKit
def xZ (c : List Int) (v : Int) : Bool := bits .and .i64 (c.getD v.toNat 0) 1 != 0
def rZ (cl : List Int) (d : Dv) : Bool := (cl.getD d.a.toNat 0 == 3) || (qX d.k && (cl.getD d.b.toNat 0 == 3))
structure SdR where
  l0 : Bool
  l1 : Bool
  n0 : Int
  n1 : Int
  ok : Bool
def jI (pt op : List Int) (d : Dv) : SdR :=
  if d.k = 4 then ⟨false, false, 0, 0, false⟩
  else if qX d.k = false then ⟨true, xZ op d.a, -1, d.a, true⟩
  else ⟨xZ op d.a, xZ op d.b, d.a, d.b, pt.getD d.a.toNat 0 != pt.getD d.b.toNat 0⟩
def parP (s : SdR) : Bool := s.ok && s.l0 && s.l1
def qo (s : SdR) : Int × Bool := if (!s.ok || (s.l0 == s.l1)) = true then (0, false) else if s.l0 = true then (s.n1, true) else (s.n0, true)
def mC (pt : List Int) (c : Int) : Nat → List Nd → Bool
  | _, [] => false
  | i, x :: l => if 0 < x.cu ∧ pt.getD i 0 = c then true else mC pt c (i + 1) l
def gV (N : List Nd) (pt : List Int) (s : SdR) : Bool := if (qo s).2 = true then mC pt (pt.getD (qo s).1.toNat 0) 0 N else false
def ofV (N : List Nd) (cl pt op : List Int) (d : Dv) : Int :=
  if rZ cl d = true then 4 else if parP (jI pt op d) = true then 3 else if gV N pt (jI pt op d) = true then 2 else if (qo (jI pt op d)).2 = true then 1 else 0
def ofP (N : List Nd) (V : List Dv) (st : List Int) (i : Nat) (d : Dv) : Int := ofV N (jg N V (st.set i 2)) (ptsP N V (st.set i 1)) (jg N V (st.set i 1)) d
def badP (N : List Nd) (V : List Dv) (st : List Int) (d : Dv) (pos x : Int) : Bool :=
  if d.k = 3 then (x == 2) || (x == 3) || (x == 4)
  else if d.k = 1 then bits .and .i64 (bits .or .i64 ((jg N V st).getD d.a.toNat 0) ((jg N V st).getD d.b.toNat 0)) 1 != 0
  else if d.k = 4 then (pos == 1) && (x == 4)
  else if d.k = 6 then (pos == 2) && (x == 3)
  else d.k == 5
def bR : List (Int × Bool) → List Int
  | [] => []
  | f :: l => if f.2 = true then f.1 :: bR l else bR l
def lstP (l : List (Int × Bool)) : List Int := srtI (bR l)
def inL (N : List Nd) (V : List Dv) (st : List Int) (i : Nat) (d : Dv) (pos : Int) (pr : List Int) : List (Int × Bool) :=
  if st.getD i 0 = pos then [(4, false), (6, d.co != 0), (7, true)]
  else [(4, false), (6, d.co != 0), (1, (pos == 2) && (ofP N V st i d == 4)), (2, badP N V st d pos (ofP N V st i d)), (3, decide (((qT N V st (st.set i pos)).length : Int) > 0)), (5, (pos == 2) && (d.k == 4) && !hasI pr d.a)]
def inP (N : List Nd) (V : List Dv) (st : List Int) (i : Nat) (d : Dv) (pos : Int) (pr : List Int) : List Int := lstP (inL N V st i d pos pr)
theorem pC : ∀ l, (bR l).length ≤ l.length
  | [] => Nat.le_refl _
  | f :: l => by
    rw [bR]
    have := pC l
    split <;> simp <;> omega
theorem iV {h : Int} : ∀ {l}, h ∈ bR l ↔ (h, true) ∈ l
  | [] => by simp [bR]
  | f :: l => by
    rw [bR]
    obtain ⟨a, b⟩ := f
    cases b with
    | true => simp [iV (l := l)]
    | false => simp [iV (l := l)]
theorem tC {h : Int} {l} : h ∈ lstP l ↔ (h, true) ∈ l := by unfold lstP; rw [uM, iV]
theorem inL_len {N : List Nd} {V : List Dv} {st : List Int} {i : Nat} {d : Dv} {pos : Int} {pr : List Int} : (inL N V st i d pos pr).length ≤ 6 := by
  unfold inL
  split <;> simp
theorem inP_in {N : List Nd} {V : List Dv} {st : List Int} {i : Nat} {d : Dv} {pos : Int} {pr : List Int} {h : Int} (hh : h ∈ inP N V st i d pos pr) : 1 ≤ h ∧ h ≤ 7 := by
  unfold inP at hh
  rw [tC] at hh
  unfold inL at hh
  split at hh <;> simp at hh <;> omega
theorem inP_len {N : List Nd} {V : List Dv} {st : List Int} {i : Nat} {d : Dv} {pos : Int} {pr : List Int} : (inP N V st i d pos pr).length ≤ 6 := by
  unfold inP lstP
  rw [tV]
  exact Nat.le_trans (pC _) inL_len
def mayS (q : Bool) (out : List Int) (h : Int) : List Int := if (!hasI out h && (h != 7 || q)) = true then out ++ [h] else out
def mayI (q : Bool) (out hs : List Int) : List Int := hs.foldl (mayS q) out
def mayG (q : Bool) (L : List (List Int)) (out : List Int) : List Int := L.foldl (mayI q) out
theorem mayS_mem {q : Bool} {out : List Int} {h x : Int} : x ∈ mayS q out h ↔ x ∈ out ∨ (x = h ∧ (h ≠ 7 ∨ q = true)) := by
  unfold mayS
  cases h1 : hasI out h with
  | true =>
    have h1 := bP.1 h1
    simp only [Bool.not_true, Bool.false_and, Bool.false_eq_true, if_false]
    constructor
    · exact .inl
    · rintro (h | ⟨rfl, _⟩)
      · exact h
      · exact h1
  | false =>
    have h1 : ¬ h ∈ out := fun h2 => by rw [bP.2 h2] at h1; cases h1
    by_cases h2 : (h ≠ 7 ∨ q = true)
    · have e : (!false && (h != 7 || q)) = true := by
        rcases h2 with h2 | h2
        · simp [h2]
        · simp [h2]
      rw [if_pos e]
      simp [h2]
    · have e : ¬ (!false && (h != 7 || q)) = true := fun e => h2 (by simpa using e)
      rw [if_neg e]
      simp [h2]
theorem sJ {q : Bool} {x : Int} : ∀ {hs out : List Int}, x ∈ mayI q out hs ↔ x ∈ out ∨ (x ∈ hs ∧ (x ≠ 7 ∨ q = true))
  | [], out => by simp [mayI]
  | h :: hs, out => by
    have e : mayI q out (h :: hs) = mayI q (mayS q out h) hs := rfl
    rw [e, sJ, mayS_mem, List.mem_cons]
    constructor
    · rintro ((h1 | ⟨rfl, h1⟩) | h1)
      · exact .inl h1
      · exact .inr ⟨.inl rfl, h1⟩
      · exact .inr ⟨.inr h1.1, h1.2⟩
    · rintro (h1 | ⟨rfl | h1, h2⟩)
      · exact .inl (.inl h1)
      · exact .inl (.inr ⟨rfl, h2⟩)
      · exact .inr ⟨h1, h2⟩
theorem tN {q : Bool} {x : Int} : ∀ {L : List (List Int)} {out : List Int}, x ∈ mayG q L out ↔ x ∈ out ∨ (∃ hs ∈ L, x ∈ hs ∧ (x ≠ 7 ∨ q = true))
  | [], out => by simp [mayG]
  | h :: L, out => by
    have e : mayG q (h :: L) out = mayG q L (mayI q out h) := rfl
    rw [e, tN, sJ]
    constructor
    · rintro ((h1 | h1) | ⟨hs, h1, h2⟩)
      · exact .inl h1
      · exact .inr ⟨h, by simp, h1⟩
      · exact .inr ⟨hs, by simp [h1], h2⟩
    · rintro (h1 | ⟨hs, h1, h2⟩)
      · exact .inl (.inl h1)
      · rcases List.mem_cons.1 h1 with rfl | h1
        · exact .inl (.inr h2)
        · exact .inr ⟨hs, h1, h2⟩
def HzOk (out : List Int) : Prop := out.Nodup ∧ ∀ x ∈ out, 1 ≤ x ∧ x ≤ 7
theorem hzS {q : Bool} {out : List Int} {h : Int} (H : HzOk out) (hh : 1 ≤ h ∧ h ≤ 7) : HzOk (mayS q out h) := by
  unfold mayS
  split
  · rename_i c
    have h1 : hasI out h = false := by
      simp at c; exact c.1
    have h1 : ¬ h ∈ out := fun h2 => by rw [bP.2 h2] at h1; cases h1
    refine ⟨?_, fun x hx => ?_⟩
    · rw [List.nodup_append]
      refine ⟨H.1, by simp, fun a ha b hb => ?_⟩
      simp at hb
      subst hb
      exact fun e => h1 (e ▸ ha)
    · rcases List.mem_append.1 hx with hx | hx
      · exact H.2 x hx
      · simp at hx; subst hx; exact hh
  · exact H
theorem hzI {q : Bool} : ∀ {hs out : List Int}, HzOk out → (∀ h ∈ hs, 1 ≤ h ∧ h ≤ 7) → HzOk (mayI q out hs)
  | [], out, H, _ => H
  | h :: hs, out, H, hh => hzI (hs := hs) (out := mayS q out h) (hzS H (hh h (by simp))) (fun x hx => hh x (by simp [hx]))
theorem hzG {q : Bool} : ∀ {L : List (List Int)} {out : List Int}, HzOk out → (∀ hs ∈ L, ∀ h ∈ hs, 1 ≤ h ∧ h ≤ 7) → HzOk (mayG q L out)
  | [], out, H, _ => H
  | h :: L, out, H, hh => hzG (L := L) (out := mayI q out h) (hzI H (hh h (by simp))) (fun x hx => hh x (by simp [hx]))
theorem sW : ∀ (L K : List Int), L.Nodup → (∀ x ∈ L, x ∈ K) → L.length ≤ K.length
  | [], K, _, _ => Nat.zero_le _
  | x :: L, K, h, hk => by
    rw [List.nodup_cons] at h
    have hx := hk x (by simp)
    have := sW L (K.erase x) h.2 (fun y hy => (List.mem_erase_of_ne (fun e : y = x => h.1 (by rw [← e]; exact hy))).2 (hk y (by simp [hy])))
    rw [List.length_erase_of_mem hx] at this
    have := List.length_pos_of_mem hx
    simp
    omega
theorem HzOk.len {out : List Int} (H : HzOk out) : out.length ≤ 7 := sW out [1, 2, 3, 4, 5, 6, 7] H.1 fun x hx => by
  have := H.2 x hx
  simp
  omega
def mayP (N : List Nd) (V : List Dv) (m : List Int) (i : Nat) (d : Dv) (pos : Int) (pr : List Int) : List Int := srtI (mayG (m.getD i 0 == pos) ((allP m).map fun s => inP N V s i d pos pr) [])
theorem mayP_mem {N : List Nd} {V : List Dv} {m : List Int} {i : Nat} {d : Dv} {pos : Int} {pr : List Int} {h : Int} : h ∈ mayP N V m i d pos pr ↔ ∃ s ∈ allP m, h ∈ inP N V s i d pos pr ∧ (h ≠ 7 ∨ (m.getD i 0 == pos) = true) := by
  unfold mayP
  rw [uM, tN]
  constructor
  · rintro (h1 | ⟨hs, h1, h2⟩)
    · cases h1
    · obtain ⟨s, h3, rfl⟩ := List.mem_map.1 h1
      exact ⟨s, h3, h2⟩
  · rintro ⟨s, h1, h2⟩
    exact .inr ⟨_, List.mem_map.2 ⟨s, h1, rfl⟩, h2⟩
theorem loss_in {N : List Nd} {V : List Dv} {st : List Int} {i : Nat} {d : Dv} {pos : Int} {pr : List Int} : 3 ∈ inP N V st i d pos pr ↔ ¬ st.getD i 0 = pos ∧ qT N V st (st.set i pos) ≠ [] := by
  unfold inP
  rw [tC]
  unfold inL
  by_cases h : st.getD i 0 = pos
  · rw [if_pos h]
    constructor
    · intro h2; simp at h2
    · intro h2; exact absurd h h2.1
  · rw [if_neg h]
    constructor
    · intro h2
      have h3 : decide (((qT N V st (st.set i pos)).length : Int) > 0) = true := by
        simp only [List.mem_cons, Prod.mk.injEq, List.not_mem_nil, or_false] at h2
        rcases h2 with h2 | h2 | h2 | h2 | h2 | h2
        · omega
        · omega
        · omega
        · omega
        · exact h2.2.symm
        · omega
      refine ⟨h, fun e => ?_⟩
      rw [e] at h3
      exact absurd h3 (by decide)
    · intro h2
      have h3 : decide (((qT N V st (st.set i pos)).length : Int) > 0) = true := decide_eq_true (by have := List.length_pos_iff.2 h2.2; omega)
      rw [h3]
      simp
theorem no_loss {N : List Nd} {V : List Dv} {m : List Int} {i : Nat} {d : Dv} {pos : Int} {pr : List Int} (M : MkOk V m) (hi : i < V.length) (h : ¬ 3 ∈ mayP N V m i d pos pr) : ∀ s ∈ allP m, s[i]? = some pos ∨ qT N V s (s.set i pos) = [] := fun s hs => by
  rw [mayP_mem] at h
  have h1 : ¬ 3 ∈ inP N V s i d pos pr := fun h2 => h ⟨s, hs, h2, .inl (by decide)⟩
  rw [loss_in] at h1
  obtain ⟨y, hy⟩ := zT (L := s) (k := i) (by rw [(mG M s hs).l]; exact hi)
  rw [getD_some hy] at h1
  by_cases e : y = pos
  · exact .inl (by rw [hy, e])
  · right
    exact Classical.not_not.1 fun h2 => h1 ⟨e, h2⟩
end Go.Proofs.YtnafokinifbfhaaGreatDoor
