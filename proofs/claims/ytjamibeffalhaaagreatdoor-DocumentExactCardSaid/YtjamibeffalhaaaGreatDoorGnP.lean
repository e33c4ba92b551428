/- lexeme.Lines, its reference, and the comparison of lists of strings, by the abstract machine; conditions: a cell of the library stands / Texts of lines of words, names of a network found again, by plain functions; nothing of the program stands here. -/
import Derived.Test.YtjamibeffalhaaaGreatDoorLxA
import Derived.Test.YtjamibeffalhaaaGreatDoorLnP
import Derived.Test.YtjamibeffalhaaaGreatDoorNmA
set_option linter.unusedVariables false
set_option linter.unusedSimpArgs false
namespace Go.Proofs.YtjamibeffalhaaaGreatDoor
open Go Go.RowKit
set_option maxRecDepth 10000
variable {G : Nat → Option (List Value)}
theorem mC {c : UInt8} : okB c = true ↔ c = 10 ∨ (32 ≤ c.toNat ∧ c.toNat ≤ 126) := by
  unfold okB
  simp
theorem ne10 {c : UInt8} (h : c ≠ 10) : (c.toNat : Int) ≠ 10 := fun e => h (UInt8.toNat_inj.1 (by show c.toNat = 10; omega))
theorem last_at {l : List UInt8} {c : UInt8} (h : l[l.length - 1]? = some c) : l.getLast? = some c := by
  rw [List.getLast?_eq_getElem?]; exact h
theorem tN {l : List UInt8} {k : Nat} {c : UInt8} (hx : l[k]? = some c) (h : okB c = false) : l.all okB = false := by
  cases hq : l.all okB with
  | false => rfl
  | true =>
    rw [List.all_eq_true] at hq
    rw [hq c (List.mem_of_getElem? hx)] at h
    cases h
theorem pN {l : List UInt8} {k : Nat} {c : UInt8} (hx : l[k]? = some c) (h : okB c = true) (ha : (l.take k).all okB = true) : (l.take (k + 1)).all okB = true := by
  rw [jg hx, List.all_append, ha]
  simp [h]
theorem bQ {l : List UInt8} (h0 : l ≠ []) (h : (65536 < l.length ∨ l.getLast? ≠ some 10) ∨ l.all okB = false) : qm l = none := by
  unfold qm
  rw [if_neg h0]
  rcases h with h | h
  · rw [if_pos h]
  · split
    · rfl
    · rw [if_neg (by rw [h]; decide)]
theorem sD {l : List UInt8} (h0 : l ≠ []) (h1 : l.length ≤ 65536) (h2 : l.getLast? = some 10) (h3 : l.all okB = true) : qm l = some (ll [] l) := by
  unfold qm
  rw [if_neg h0, if_neg (by rintro (h | h); omega; exact h h2), if_pos h3]
set_option maxHeartbeats 2000000 in
theorem lines_A (s : ByteArray) (hG : GMax G) (hs : s.size ≤ 4294967296) : zy Tryz.prog G 39 [.v (.string s)] [] (.tu [.sl 1 (((qm s.data.toList).getD []).map svL), .v (.bool (qm s.data.toList).isSome)]) [] := by
  have hz := iH s
  by_cases h0 : s.size = 0
  · have hl : s.data.toList = [] := List.eq_nil_of_length_eq_zero (by omega)
    rw [hl]
    have p0 : yg s ⟨#[]⟩ = true := by rw [fE, h0]; rfl
    refine zd tbOk (zf Tryz.func39 (by kernel_rfl) rfl) Tryz.func39 rfl _ Tryz.ntmps39 (Nat.le_of_ble_eq_true rfl) fun X hX => ?_
    subst hX
    repeat (first | ((with_reducible refine zJ ?_); refine zK rfl ?_) | ((with_reducible refine zF ?_); refine zE rfl ?_) | ((with_reducible refine zR ?_); refine jI rfl rfl rfl ?_)  | refine zL ?_ | refine zB rfl ?_ | with_reducible (first | refine zG ?_ | refine zP ?_ | refine zH ?_ | refine zN ?_) | ((with_reducible refine zA ?_ ?_); kernel_rfl) | refine zr rfl (by first | rfl | assumption) ?_)
    refine jD (by first | exact .inr rfl | exact .inl rfl) rfl rfl rfl ?_
    repeat' (first | exact trivial | exact Ren.v _ | exact Ren.sl _ _ | exact Ren.ep _ | exact Ren.ptr _ _ _ _ rfl | exact Ren.bs _ _ _ _ _ rfl | exact Ren.nil _ | exact Ren.own _ _ _ _ ⟨_, rfl⟩ | refine zv ?_ | refine zx ?_ | refine zw ?_ | refine ⟨?_, ?_⟩)
  have p0 : yg s ⟨#[]⟩ = false := by rw [fE]; exact decide_eq_false h0
  have hne : s.data.toList ≠ [] := fun e => h0 (by rw [hz, e]; rfl)
  obtain ⟨c0, hx0⟩ := zc (L := s.data.toList) (k := s.size - 1) (by omega)
  have ix0 : ∀ w : World, (Instr.index 9 (.string s) (.int .i64 ((s.size : Int) - 1))).run Tryz.prog w = .ok (.int .u8 (c0.toNat : Int)) w := fun w => by
    have := sN s (s.size - 1) c0 hx0 w
    rwa [show ((s.size - 1 : Nat) : Int) = (s.size : Int) - 1 by omega] at this
  have hlast : s.data.toList.getLast? = some c0 := last_at (by rw [← hz]; exact hx0)
  refine zd tbOk (zf Tryz.func39 (by kernel_rfl) rfl) Tryz.func39 rfl _ Tryz.ntmps39 (Nat.le_of_ble_eq_true rfl) fun X hX => ?_
  subst hX
  repeat (first | ((with_reducible refine zJ ?_); refine zK rfl ?_) | ((with_reducible refine zF ?_); refine zE rfl ?_) | ((with_reducible refine zq ?_); refine jn (by exact Tryz.underlying9) rfl ?_) | ((with_reducible refine zR ?_); (first | refine yi rfl rfl (by omega) ?_ | refine zS rfl rfl rfl ?_ | refine jI rfl rfl rfl ?_))  | refine zL ?_ | refine zB rfl ?_ | with_reducible (first | refine zG ?_ | refine zH ?_ | refine zT ?_) | ((with_reducible refine zA ?_ ?_); kernel_rfl) | refine yH rfl (by first | rfl | assumption) ?_)
  by_cases hbig : 65536 < s.size
  · have p1 : decide ((s.size : Int) > 65536) = true := by simp; omega
    rw [bQ hne (.inl (.inl (by omega)))]
    repeat (first | ((with_reducible refine zF ?_); refine zE rfl ?_) | ((with_reducible refine zW ?_); refine zi rfl (by first | rfl | assumption) rfl ?_)  | refine zL ?_ | refine zB rfl ?_ | refine yC rfl rfl (by first | rfl | assumption) ?_ | with_reducible (first | refine zG ?_ | refine zP ?_ | refine zH ?_ | refine zN ?_) | ((with_reducible refine zA ?_ ?_); kernel_rfl) | refine zr rfl (by first | rfl | assumption) ?_)
    refine jD (by first | exact .inr rfl | exact .inl rfl) rfl rfl rfl ?_
    repeat' (first | exact trivial | exact Ren.v _ | exact Ren.sl _ _ | exact Ren.ep _ | exact Ren.ptr _ _ _ _ rfl | exact Ren.bs _ _ _ _ _ rfl | exact Ren.nil _ | exact Ren.own _ _ _ _ ⟨_, rfl⟩ | refine zv ?_ | refine zx ?_ | refine zw ?_ | refine ⟨?_, ?_⟩)
  have p1 : decide ((s.size : Int) > 65536) = false := by simp; omega
  by_cases h10 : c0 = 10
  · subst h10
    have p2 : (((10 : UInt8).toNat : Int) != 10) = false := rfl
    repeat (first | ((with_reducible refine zJ ?_); refine zK rfl ?_) | ((with_reducible refine zW ?_); refine zh rfl (by first | rfl | assumption) rfl ?_) | ((with_reducible refine jz ?_); refine qF rfl rfl (by assumption) ?_) | ((with_reducible refine zR ?_); refine zS rfl rfl rfl ?_)  | refine zL ?_ | refine zB rfl ?_ | refine zm rfl rfl (by first | rfl | assumption) ?_ | with_reducible (first | refine zG ?_ | refine zH ?_ | refine zV ?_ | refine zT ?_) | ((with_reducible refine zA ?_ ?_); kernel_rfl) | refine yH rfl (by first | rfl | assumption) ?_)
    refine yJ (ι := Nat) (fun k => k ≤ s.size - 1 ∧ (s.data.toList.take k).all okB = true) (fun k => s.size - 1 - k) (fun v k => [(0, .v (.string s)), (4, .v (.int .i64 ((s.size : Int) - 1))), (21, .v (.int .i64 ((s.size : Int) - 1))), (22, .v (.int .i64 k))]) (fun v k => []) ?_ ?_
    · exact ⟨0, ⟨Nat.zero_le _, by simp⟩, trivial, ⟨rfl, rfl, rfl, rfl, trivial⟩, trivial⟩
    rintro v k ⟨hk, hall⟩
    repeat (first | ((with_reducible refine zR ?_); refine zS rfl rfl rfl ?_)  | refine zL ?_ | refine zB rfl ?_ | with_reducible (first | refine zG ?_ | refine zH ?_) | ((with_reducible refine zA ?_ ?_); kernel_rfl))
    refine zX rfl (fun h => ?_) (fun h => ?_)
    · have hlt : k < s.size - 1 := by simp at h; omega
      obtain ⟨c, hx⟩ := zc (L := s.data.toList) (k := k) (by omega)
      have ix := sN s k c hx
      repeat (first | ((with_reducible refine zJ ?_); refine zK rfl ?_) | ((with_reducible refine zF ?_); refine zE rfl ?_) | ((with_reducible refine jz ?_); refine qF rfl rfl (by assumption) ?_) | ((with_reducible refine zR ?_); refine zS rfl rfl rfl ?_)  | refine zL ?_ | refine zB rfl ?_ | with_reducible (first | refine zG ?_ | refine zH ?_ | refine zV ?_ | refine zT ?_) | ((with_reducible refine zA ?_ ?_); kernel_rfl))
      by_cases hc10 : c = 10
      · subst hc10
        have q1 : (((10 : UInt8).toNat : Int) != 10) = false := rfl
        repeat (first | ((with_reducible refine zJ ?_); refine zK rfl ?_) | ((with_reducible refine zW ?_); refine zh rfl (by first | rfl | assumption) rfl ?_) | ((with_reducible refine zR ?_); refine zk rfl rfl (by omega) ?_)  | refine zL ?_ | refine zB rfl ?_ | refine yB rfl rfl (by first | rfl | assumption) ?_ | refine jA rfl rfl rfl ?_ | with_reducible (first | refine zG ?_ | refine zo ?_ | refine zT ?_) | ((with_reducible refine zA ?_ ?_); kernel_rfl) | refine yH rfl (by first | rfl | assumption) ?_)
        exact ⟨k + 1, ⟨by omega, pN hx (by decide) hall⟩, by omega, ⟨rfl, rfl, rfl, rfl, trivial⟩, trivial⟩
      · have q1 : ((c.toNat : Int) != 10) = true := by rw [bne_iff_ne]; exact ne10 hc10
        by_cases hlo : c.toNat < 32
        · have q2 : decide ((c.toNat : Int) < 32) = true := by simp; omega
          have hb : okB c = false := by
            cases hq : okB c with
            | false => rfl
            | true => rcases mC.1 hq with h | h; exact absurd h hc10; omega
          rw [bQ hne (.inr (tN hx hb))]
          repeat (first | ((with_reducible refine zJ ?_); refine zK rfl ?_) | ((with_reducible refine zF ?_); refine zE rfl ?_) | ((with_reducible refine zW ?_); refine zi rfl (by first | rfl | assumption) rfl ?_) | ((with_reducible refine zR ?_); refine zS rfl rfl rfl ?_)  | refine zL ?_ | refine zB rfl ?_ | refine zu rfl rfl (by first | rfl | assumption) ?_ | refine yC rfl rfl (by first | rfl | assumption) ?_ | with_reducible (first | refine zG ?_ | refine zP ?_ | refine zU ?_ | refine zH ?_ | refine zN ?_) | ((with_reducible refine zA ?_ ?_); kernel_rfl) | refine zr rfl (by first | rfl | assumption) ?_)
          refine jD (by first | exact .inr rfl | exact .inl rfl) rfl rfl rfl ?_
          repeat' (first | exact trivial | exact Ren.v _ | exact Ren.sl _ _ | exact Ren.ep _ | exact Ren.ptr _ _ _ _ rfl | exact Ren.bs _ _ _ _ _ rfl | exact Ren.nil _ | exact Ren.own _ _ _ _ ⟨_, rfl⟩ | refine zv ?_ | refine zx ?_ | refine zw ?_ | refine ⟨?_, ?_⟩)
        · have q2 : decide ((c.toNat : Int) < 32) = false := by simp; omega
          by_cases hhi : 126 < c.toNat
          · have q3 : decide ((c.toNat : Int) > 126) = true := by simp; omega
            have hb : okB c = false := by
              cases hq : okB c with
              | false => rfl
              | true => rcases mC.1 hq with h | h; exact absurd h hc10; omega
            rw [bQ hne (.inr (tN hx hb))]
            repeat (first | ((with_reducible refine zJ ?_); refine zK rfl ?_) | ((with_reducible refine zF ?_); refine zE rfl ?_) | ((with_reducible refine zW ?_); (first | refine zi rfl (by first | rfl | assumption) rfl ?_ | refine zh rfl (by first | rfl | assumption) rfl ?_)) | ((with_reducible refine zR ?_); refine zS rfl rfl rfl ?_)  | refine zL ?_ | refine zB rfl ?_ | refine zu rfl rfl (by first | rfl | assumption) ?_ | refine zm rfl rfl (by first | rfl | assumption) ?_ | with_reducible (first | refine zG ?_ | refine zP ?_ | refine zU ?_ | refine zH ?_ | refine zN ?_) | ((with_reducible refine zA ?_ ?_); kernel_rfl) | refine zr rfl (by first | rfl | assumption) ?_)
            refine jD (by first | exact .inr rfl | exact .inl rfl) rfl rfl rfl ?_
            repeat' (first | exact trivial | exact Ren.v _ | exact Ren.sl _ _ | exact Ren.ep _ | exact Ren.ptr _ _ _ _ rfl | exact Ren.bs _ _ _ _ _ rfl | exact Ren.nil _ | exact Ren.own _ _ _ _ ⟨_, rfl⟩ | refine zv ?_ | refine zx ?_ | refine zw ?_ | refine ⟨?_, ?_⟩)
          · have q3 : decide ((c.toNat : Int) > 126) = false := by simp; omega
            repeat (first | ((with_reducible refine zJ ?_); refine zK rfl ?_) | ((with_reducible refine zW ?_); (first | refine zi rfl (by first | rfl | assumption) rfl ?_ | refine zh rfl (by first | rfl | assumption) rfl ?_)) | ((with_reducible refine zR ?_); (first | refine zk rfl rfl (by omega) ?_ | refine zS rfl rfl rfl ?_))  | refine zL ?_ | refine zB rfl ?_ | refine zu rfl rfl (by first | rfl | assumption) ?_ | refine zm rfl rfl (by first | rfl | assumption) ?_ | with_reducible (first | refine zG ?_ | refine zo ?_ | refine zT ?_) | ((with_reducible refine zA ?_ ?_); kernel_rfl) | refine yH rfl (by first | rfl | assumption) ?_)
            exact ⟨k + 1, ⟨by omega, pN hx (mC.2 (.inr (by omega))) hall⟩, by omega, ⟨rfl, rfl, rfl, rfl, trivial⟩, trivial⟩
    · obtain rfl : k = s.size - 1 := by simp at h; omega
      have hdec : s.data.toList = s.data.toList.take (s.size - 1) ++ [10] := by
        have := jg hx0
        rw [← this, List.take_of_length_le (by omega)]
      have hall2 : s.data.toList.all okB = true := by rw [hdec, List.all_append, hall]; rfl
      have hsz : (s.extract (0 : Int).toNat ((s.size : Int) - 1).toNat).size ≤ s.size := by rw [ByteArray.size_extract]; omega
      have hex : (s.extract (0 : Int).toNat ((s.size : Int) - 1).toNat).data.toList = s.data.toList.take (s.size - 1) := by
        rw [wQ, jJ, extL]
        simp only [Int.toNat_zero, List.drop_zero]
        congr 1
        omega
      have hS := split_A (G := X.G) (s.extract (0 : Int).toNat ((s.size : Int) - 1).toNat) 10 hG (by omega)
      rw [hex, ← hY, ← hdec] at hS
      rw [sD hne (by omega) hlast hall2]
      repeat (first | ((with_reducible refine zJ ?_); refine zK rfl ?_) | ((with_reducible refine qv ?_); refine wY (by exact Tryz.underlying9) rfl rfl rfl (by refine ⟨?_, ?_, ?_⟩ <;> omega) ?_)  | refine zB rfl ?_ | with_reducible (first | refine zG ?_ | refine zj ?_ | refine zH ?_ | refine zz ?_) | ((with_reducible refine zg ?_ ?_); rfl) | ((with_reducible refine zA ?_ ?_); kernel_rfl))
      refine zC (hS) ?_
      repeat (first | ((with_reducible refine zF ?_); refine zE rfl ?_)  | refine zL ?_ | refine zB rfl ?_ | with_reducible (first | refine zG ?_ | refine zN ?_) )
      refine jD (by first | exact .inr rfl | exact .inl rfl) rfl rfl rfl ?_
      repeat' (first | exact trivial | exact Ren.v _ | exact Ren.sl _ _ | exact Ren.ep _ | exact Ren.ptr _ _ _ _ rfl | exact Ren.bs _ _ _ _ _ rfl | exact Ren.nil _ | exact Ren.own _ _ _ _ ⟨_, rfl⟩ | refine zv ?_ | refine zx ?_ | refine zw ?_ | refine ⟨?_, ?_⟩)
  · have p2 : ((c0.toNat : Int) != 10) = true := by rw [bne_iff_ne]; exact ne10 h10
    rw [bQ hne (.inl (.inr (by rw [hlast]; intro e; injection e with e; exact h10 e)))]
    repeat (first | ((with_reducible refine zJ ?_); refine zK rfl ?_) | ((with_reducible refine zF ?_); refine zE rfl ?_) | ((with_reducible refine zW ?_); refine zh rfl (by first | rfl | assumption) rfl ?_) | ((with_reducible refine jz ?_); refine qF rfl rfl (by assumption) ?_) | ((with_reducible refine zR ?_); refine zS rfl rfl rfl ?_)  | refine zL ?_ | refine zB rfl ?_ | refine zm rfl rfl (by first | rfl | assumption) ?_ | with_reducible (first | refine zG ?_ | refine zP ?_ | refine zH ?_ | refine zN ?_) | ((with_reducible refine zA ?_ ?_); kernel_rfl) | refine zr rfl (by first | rfl | assumption) ?_)
    refine jD (by first | exact .inr rfl | exact .inl rfl) rfl rfl rfl ?_
    repeat' (first | exact trivial | exact Ren.v _ | exact Ren.sl _ _ | exact Ren.ep _ | exact Ren.ptr _ _ _ _ rfl | exact Ren.bs _ _ _ _ _ rfl | exact Ren.nil _ | exact Ren.own _ _ _ _ ⟨_, rfl⟩ | refine zv ?_ | refine zx ?_ | refine zw ?_ | refine ⟨?_, ?_⟩)
end Go.Proofs.YtjamibeffalhaaaGreatDoor
namespace Go.Proofs.YtjamibeffalhaaaGreatDoor
open Go Go.RowKit
def devN (V : List Dv) (d : Int) : List UInt8 := match V[d.toNat]? with
  | some x => x.n.data.toList
  | none => []
def nodN (N : List Nd) (d : Int) : List UInt8 := match N[d.toNat]? with
  | some x => x.n.data.toList
  | none => []
def jQ (L : List (List UInt8)) : List UInt8 := L.flatMap fun l => l ++ [10]
def okC (c : UInt8) : Prop := 32 ≤ c.toNat ∧ c.toNat ≤ 126
def devI (s : List UInt8) : Int → List Dv → Int
  | _, [] => -1
  | i, d :: l => if d.n.data.toList = s then i else devI s (i + 1) l
def nodI (s : List UInt8) : Int → List Nd → Int
  | _, [] => -1
  | i, d :: l => if d.n.data.toList = s then i else nodI s (i + 1) l
def wAt (W : List (List UInt8)) (k : Nat) : List UInt8 := (W[k]?).getD []
/-- What a valid network says of its devices' names. -/
theorem nY (m : Int) : ∀ (V : List Dv) (U : List ByteArray), dvGo m U V = 0 → (∀ d ∈ V, jT d.n.data.toList = true ∧ d.n ∉ U) ∧ (V.map Dv.n).Nodup
  | [], _, _ => ⟨by simp, by simp⟩
  | d :: l, U, h => by
    rw [dvGo] at h
    split at h
    · cases h
    rename_i h1
    split at h
    · cases h
    rename_i h2
    split at h
    · cases h
    split at h
    · cases h
    split at h
    · cases h
    obtain ⟨i1, i2⟩ := nY m l (U ++ [d.n]) h
    have hu : d.n ∉ U := fun hin => h2 (by unfold jS; rw [List.any_eq_true]; exact ⟨d.n, hin, by simp⟩)
    refine ⟨fun x hx => ?_, ?_⟩
    · rcases List.mem_cons.1 hx with rfl | hx
      · exact ⟨by simpa using h1, hu⟩
      · exact ⟨(i1 x hx).1, fun hin => (i1 x hx).2 (by simp [hin])⟩
    · rw [List.map_cons, List.nodup_cons]
      refine ⟨fun hin => ?_, i2⟩
      obtain ⟨x, hx, e⟩ := List.mem_map.1 hin
      exact (i1 x hx).2 (by simp [e])
theorem lM {N : List Nd} {V : List Dv} (h : netE N V = 0) : (∀ d ∈ V, jT d.n.data.toList = true) ∧ (V.map Dv.n).Nodup := by
  unfold netE at h
  split at h
  · cases h
  split at h
  · rename_i h2; exact absurd h h2
  obtain ⟨i1, i2⟩ := nY _ _ _ h
  exact ⟨fun d hd => (i1 d hd).1, i2⟩
theorem tM {a b : ByteArray} (h : a.data.toList = b.data.toList) : a = b := by
  cases a; cases b
  congr 1
  exact Array.toList_inj.1 h
theorem bT {l : List UInt8} (h : jT l = true) : l ≠ [] ∧ (∀ c ∈ l, c ≠ 32) ∧ l.length ≤ 12 := by
  unfold jT at h
  simp only [Bool.and_eq_true, decide_eq_true_eq] at h
  obtain ⟨⟨h1, h2⟩, h3⟩ := h
  refine ⟨by rintro rfl; simp at h2, ?_, h3⟩
  have key : ∀ (l : List UInt8) (f : Bool), qK l f = true → ∀ c ∈ l, c ≠ 32 := by
    intro l
    induction l with
    | nil => intro f _ c hc; cases hc
    | cons x r ih =>
      intro f hf c hc
      rw [qK, Bool.and_eq_true] at hf
      rcases List.mem_cons.1 hc with rfl | hc
      · rintro rfl
        have : eW (32 : UInt8).toNat f = false := by cases f <;> decide +kernel
        rw [this] at hf; cases hf.1
      · exact ih _ hf.2 c hc
  exact key l true h1
theorem pV {d : Nat} (h : d < 10) : UInt8.ofNat (48 + d) ≠ 32 := by
  intro e
  have := congrArg UInt8.toNat e
  simp at this
  omega
theorem vX : ∀ n : Nat, ∀ c ∈ Lib.decDigits n, c ≠ (32 : UInt8) := by
  intro n
  induction n using Nat.strongRecOn with
  | _ n ih =>
    intro c hc
    rw [Lib.decDigits] at hc
    split at hc
    · rename_i h
      rw [List.mem_singleton.1 hc]
      exact pV h
    · rename_i h
      rcases List.mem_append.1 hc with hc | hc
      · exact ih (n / 10) (by omega) c hc
      · rw [List.mem_singleton.1 hc]
        exact pV (Nat.mod_lt _ (by decide))
theorem tI (n : Int) : ∀ c ∈ Lib.itoa n, c ≠ (32 : UInt8) := by
  intro c hc
  unfold Lib.itoa at hc
  split at hc
  · rcases List.mem_cons.1 hc with rfl | hc
    · decide
    · exact vX _ c hc
  · exact vX _ c hc
theorem iZ : ∀ (W : List (List UInt8)) (b : Nat), (∀ w ∈ W, w.length ≤ b) → (yW W).length ≤ W.length * (b + 1)
  | [], b, _ => by simp [lK]
  | [w], b, h => by have := h w (by simp); rw [jd]; simp; omega
  | w :: x :: r, b, h => by
    have h1 := h w (by simp)
    have h2 := iZ (x :: r) b (fun y hy => h y (List.mem_cons_of_mem _ hy))
    rw [yR, List.length_append]
    have e : (w :: x :: r).length = (x :: r).length + 1 := rfl
    rw [e, Nat.succ_mul]
    simp only [List.length_cons] at h2 ⊢
    omega
theorem mU {V : List Dv} {d : Int} (h : 0 ≤ d ∧ d < V.length) : ∃ x, V[d.toNat]? = some x ∧ devN V d = x.n.data.toList := by
  obtain ⟨x, hx⟩ := zc (L := V) (k := d.toNat) (by omega)
  exact ⟨x, hx, by unfold devN; rw [hx]⟩
instance (c : UInt8) : Decidable (okC c) := by unfold okC; infer_instance
theorem wR {c : UInt8} (h : bY c.toNat = true) : okC c ∧ c ≠ 35 ∧ c ≠ 32 := by
  unfold bY qE iC at h
  simp only [Bool.or_eq_true, Bool.and_eq_true, decide_eq_true_eq, beq_iff_eq] at h
  refine ⟨⟨by omega, by omega⟩, fun e => ?_, fun e => ?_⟩ <;> (subst e; simp at h)
theorem kN : ∀ {l : List UInt8}, qT l = true → ∀ c ∈ l, okC c ∧ c ≠ 35 ∧ c ≠ 32
  | [], _, c, hc => by cases hc
  | x :: r, h, c, hc => by
    rw [qT, Bool.and_eq_true] at h
    rcases List.mem_cons.1 hc with rfl | hc
    · exact wR h.1
    · exact kN h.2 c hc
theorem name_okC {l : List UInt8} (h : jT l = true) : ∀ c ∈ l, okC c ∧ c ≠ 35 ∧ c ≠ 32 := by
  rw [← nP] at h
  cases l with
  | nil => cases h
  | cons c r =>
    unfold cM at h
    simp only [Bool.and_eq_true] at h
    exact kN h.2
theorem kZ {d : Nat} (h : d < 10) : okC (UInt8.ofNat (48 + d)) := by
  have e : (UInt8.ofNat (48 + d)).toNat = 48 + d := by simp; omega
  unfold okC
  rw [e]
  omega
theorem sF : ∀ n : Nat, ∀ c ∈ Lib.decDigits n, okC c := by
  intro n
  induction n using Nat.strongRecOn with
  | _ n ih =>
    intro c hc
    rw [Lib.decDigits] at hc
    split at hc
    · rename_i h
      rw [List.mem_singleton.1 hc]
      exact kZ h
    · rename_i h
      rcases List.mem_append.1 hc with hc | hc
      · exact ih (n / 10) (by omega) c hc
      · rw [List.mem_singleton.1 hc]
        exact kZ (Nat.mod_lt _ (by decide))
theorem oE (n : Int) : ∀ c ∈ Lib.itoa n, okC c := by
  intro c hc
  unfold Lib.itoa at hc
  split at hc
  · rcases List.mem_cons.1 hc with rfl | hc
    · decide
    · exact sF _ c hc
  · exact sF _ c hc
theorem oK : ∀ {W : List (List UInt8)}, (∀ w ∈ W, ∀ c ∈ w, okC c) → ∀ c ∈ yW W, okC c
  | [], _, c, hc => by rw [lK] at hc; cases hc
  | [w], h, c, hc => by rw [jd] at hc; exact h w (by simp) c hc
  | w :: x :: r, h, c, hc => by
    rw [yR] at hc
    rcases List.mem_append.1 hc with hc | hc
    · exact h w (by simp) c hc
    · rcases List.mem_cons.1 hc with rfl | hc
      · decide
      · exact oK (fun y hy => h y (List.mem_cons_of_mem _ hy)) c hc
theorem kI {N : List Nd} {V : List Dv} (h : netE N V = 0) : (∀ d ∈ N, jT d.n.data.toList = true) ∧ (N.map Nd.n).Nodup := by
  have key : ∀ (N : List Nd) (U : List ByteArray), ndGo U N = 0 → (∀ d ∈ N, jT d.n.data.toList = true ∧ d.n ∉ U) ∧ (N.map Nd.n).Nodup := by
    intro N
    induction N with
    | nil => intro U _; exact ⟨by simp, by simp⟩
    | cons d l ih =>
      intro U h
      rw [ndGo] at h
      split at h
      · cases h
      rename_i h1
      split at h
      · cases h
      rename_i h2
      split at h
      · cases h
      obtain ⟨i1, i2⟩ := ih (U ++ [d.n]) h
      have hu : d.n ∉ U := fun hin => h2 (by unfold jS; rw [List.any_eq_true]; exact ⟨d.n, hin, by simp⟩)
      refine ⟨fun x hx => ?_, ?_⟩
      · rcases List.mem_cons.1 hx with rfl | hx
        · exact ⟨by simpa using h1, hu⟩
        · exact ⟨(i1 x hx).1, fun hin => (i1 x hx).2 (by simp [hin])⟩
      · rw [List.map_cons, List.nodup_cons]
        refine ⟨fun hin => ?_, i2⟩
        obtain ⟨x, hx, e⟩ := List.mem_map.1 hin
        exact (i1 x hx).2 (by simp [e])
  unfold netE at h
  split at h
  · cases h
  split at h
  · rename_i h2; exact absurd h h2
  rename_i h2
  have h3 : ndGo [] N = 0 := by simpa using h2
  obtain ⟨i1, i2⟩ := key N [] h3
  exact ⟨fun d hd => (i1 d hd).1, i2⟩
theorem lY {V : List Nd} {d : Int} (h : 0 ≤ d ∧ d < V.length) : ∃ x, V[d.toNat]? = some x ∧ nodN V d = x.n.data.toList := by
  obtain ⟨x, hx⟩ := zc (L := V) (k := d.toNat) (by omega)
  exact ⟨x, hx, by unfold nodN; rw [hx]⟩
/-- A word of a programme. -/
def WdOk (w : List UInt8) : Prop := w ≠ [] ∧ (∀ c ∈ w, c ≠ 32) ∧ (∀ c ∈ w, okC c) ∧ w.length ≤ 20
instance (w : List UInt8) : Decidable (∀ c ∈ w, okC c) := by unfold okC; infer_instance
instance (w : List UInt8) : Decidable (WdOk w) := by unfold WdOk; infer_instance
theorem gO {l : List UInt8} (h : jT l = true) : WdOk l :=
  ⟨(bT h).1, (bT h).2.1, fun c hc => (name_okC h c hc).1, by have := (bT h).2.2; omega⟩
theorem tT {n : Int} (h1 : 0 ≤ n) (h2 : n ≤ 65536) : WdOk (Lib.itoa n) := ⟨tL n, tI n, oE n, qG (by omega) (by omega)⟩
theorem qe {W : List (List UInt8)} (h : ∀ w ∈ W, WdOk w) : (∀ c ∈ yW W, okC c) ∧ (yW W).length ≤ W.length * 21 :=
  ⟨oK fun w hw => (h w hw).2.2.1, iZ W 20 fun w hw => (h w hw).2.2.2⟩
theorem gG : ∀ {L : List (List UInt8)} {b : Nat}, (∀ l ∈ L, l.length ≤ b) → (jQ L).length ≤ L.length * (b + 1)
  | [], b, _ => by simp [jQ]
  | l :: L, b, h => by
    have h1 := h l (by simp)
    have h2 := gG (L := L) (b := b) (fun x hx => h x (by simp [hx]))
    unfold jQ at h2 ⊢
    rw [List.flatMap_cons, List.length_append, List.length_append]
    have e : (l :: L).length = L.length + 1 := rfl
    rw [e, Nat.succ_mul]
    simp only [List.length_singleton]
    omega
theorem rJ : ∀ (l cur : List UInt8), ∀ w ∈ ll cur l, w.length ≤ cur.length + l.length
  | [], cur, w, h => by simp [ll] at h
  | c :: l, cur, w, h => by
    rw [ll] at h
    split at h
    · rcases List.mem_cons.1 h with rfl | h
      · simp
      · have := rJ l [] w h
        simp at this ⊢; omega
    · have := rJ l _ w h
      simp at this ⊢; omega
theorem rA : ∀ (l cur : List UInt8), (ll cur l).length ≤ l.length
  | [], cur => by simp [ll]
  | c :: l, cur => by
    rw [ll]
    split
    · have := rA l []
      simp; omega
    · have := rA l (cur ++ [c])
      simp; omega
theorem uO {l : List UInt8} : ((qm l).getD []).length ≤ l.length ∧ ∀ w ∈ (qm l).getD [], w.length ≤ l.length := by
  unfold qm
  split
  · simp
  split
  · simp
  split
  · refine ⟨rA l [], fun w hw => ?_⟩
    have := rJ l [] w hw
    simpa using this
  · simp
end Go.Proofs.YtjamibeffalhaaaGreatDoor
