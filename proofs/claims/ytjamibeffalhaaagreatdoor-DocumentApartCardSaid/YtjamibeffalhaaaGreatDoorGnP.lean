/- Texts of lines of words, names of a network found again, by plain functions; nothing of the program stands here. -/
import Derived.Test.YtjamibeffalhaaaGreatDoorLxA
import Derived.Test.YtjamibeffalhaaaGreatDoorWdP
import Derived.Test.YtjamibeffalhaaaGreatDoorLexP
import Derived.Test.YtjamibeffalhaaaGreatDoorNmA
import Derived.Test.YtjamibeffalhaaaGreatDoorLxB
set_option linter.unusedVariables false
set_option linter.unusedSimpArgs false
namespace Go.Proofs.YtjamibeffalhaaaGreatDoor
open Go Go.RowKit
def devN (V : List Dv) (d : Int) : List UInt8 := match V[d.toNat]? with
  | some x => x.n.data.toList
  | none => []
def nodN (N : List Nd) (d : Int) : List UInt8 := match N[d.toNat]? with
  | some x => x.n.data.toList
  | none => []
def yd (L : List (List UInt8)) : List UInt8 := L.flatMap fun l => l ++ [10]
def okC (c : UInt8) : Prop := 32 ≤ c.toNat ∧ c.toNat ≤ 126
theorem ll_line : ∀ (l cur r : List UInt8), (∀ c ∈ l, c ≠ 10) → ll cur (l ++ 10 :: r) = (cur ++ l) :: ll [] r
  | [], cur, r, _ => by simp [ll]
  | c :: l, cur, r, h => by
    rw [List.cons_append, ll, if_neg (h c (by simp)), ll_line l _ r (fun x hx => h x (by simp [hx]))]
    simp
theorem ll_txt : ∀ {L : List (List UInt8)}, (∀ l ∈ L, ∀ c ∈ l, c ≠ 10) → ll [] (yd L) = L
  | [], _ => rfl
  | l :: L, h => by
    unfold yd
    rw [List.flatMap_cons, List.append_assoc, List.singleton_append, ll_line l [] _ (h l (by simp))]
    have := ll_txt (L := L) (fun x hx => h x (by simp [hx]))
    unfold yd at this
    rw [this]; rfl
theorem txt_last : ∀ {L : List (List UInt8)}, L ≠ [] → (yd L).getLast? = some 10 := by
  intro L h
  obtain ⟨A, x, rfl⟩ : ∃ A x, L = A ++ [x] := ⟨L.dropLast, L.getLast h, (List.dropLast_concat_getLast h).symm⟩
  unfold yd
  rw [List.flatMap_append, List.flatMap_cons, List.flatMap_nil, List.append_nil, ← List.append_assoc]
  simp
def devI (s : List UInt8) : Int → List Dv → Int
  | _, [] => -1
  | i, d :: l => if d.n.data.toList = s then i else devI s (i + 1) l
def nodI (s : List UInt8) : Int → List Nd → Int
  | _, [] => -1
  | i, d :: l => if d.n.data.toList = s then i else nodI s (i + 1) l
def wAt (W : List (List UInt8)) (k : Nat) : List UInt8 := (W[k]?).getD []
/-- What a valid network says of its devices' names. -/
theorem dvGo_inv (m : Int) : ∀ (V : List Dv) (U : List ByteArray), dvGo m U V = 0 → (∀ d ∈ V, jG d.n.data.toList = true ∧ d.n ∉ U) ∧ (V.map Dv.n).Nodup
  | [], _, _ => ⟨by simp, by simp⟩
  | d :: l, U, h => by
    rw [dvGo] at h
    split at h
    · cases h
    rename_i h1
    split at h
    · cases h
    rename_i h2
    split at h
    · cases h
    split at h
    · cases h
    split at h
    · cases h
    obtain ⟨i1, i2⟩ := dvGo_inv m l (U ++ [d.n]) h
    have hu : d.n ∉ U := fun hin => h2 (by unfold jH; rw [List.any_eq_true]; exact ⟨d.n, hin, by simp⟩)
    refine ⟨fun x hx => ?_, ?_⟩
    · rcases List.mem_cons.1 hx with rfl | hx
      · exact ⟨by simpa using h1, hu⟩
      · exact ⟨(i1 x hx).1, fun hin => (i1 x hx).2 (by simp [hin])⟩
    · rw [List.map_cons, List.nodup_cons]
      refine ⟨fun hin => ?_, i2⟩
      obtain ⟨x, hx, e⟩ := List.mem_map.1 hin
      exact (i1 x hx).2 (by simp [e])
theorem net_names {N : List Nd} {V : List Dv} (h : netE N V = 0) : (∀ d ∈ V, jG d.n.data.toList = true) ∧ (V.map Dv.n).Nodup := by
  unfold netE at h
  split at h
  · cases h
  split at h
  · rename_i h2; exact absurd h h2
  obtain ⟨i1, i2⟩ := dvGo_inv _ _ _ h
  exact ⟨fun d hd => (i1 d hd).1, i2⟩
theorem ba_ext2 {a b : ByteArray} (h : a.data.toList = b.data.toList) : a = b := by
  cases a; cases b
  congr 1
  exact Array.toList_inj.1 h
theorem devI_at : ∀ (V : List Dv) (i : Int) (k : Nat) (d : Dv), (V.map Dv.n).Nodup → V[k]? = some d → devI d.n.data.toList i V = i + k
  | [], _, k, d, _, h => by simp at h
  | x :: l, i, k, d, hn, h => by
    simp only [List.map_cons, List.nodup_cons] at hn
    rw [devI]
    cases k with
    | zero => simp at h; subst h; simp
    | succ k =>
      have h' : l[k]? = some d := by simpa using h
      rw [if_neg (fun e => hn.1 (List.mem_map.2 ⟨d, List.mem_of_getElem? h', (ba_ext2 e).symm⟩)), devI_at l (i + 1) k d hn.2 h']
      omega
theorem name_sp {l : List UInt8} (h : jG l = true) : l ≠ [] ∧ (∀ c ∈ l, c ≠ 32) ∧ l.length ≤ 12 := by
  unfold jG at h
  simp only [Bool.and_eq_true, decide_eq_true_eq] at h
  obtain ⟨⟨h1, h2⟩, h3⟩ := h
  refine ⟨by rintro rfl; simp at h2, ?_, h3⟩
  have key : ∀ (l : List UInt8) (f : Bool), jt l f = true → ∀ c ∈ l, c ≠ 32 := by
    intro l
    induction l with
    | nil => intro f _ c hc; cases hc
    | cons x r ih =>
      intro f hf c hc
      rw [jt, Bool.and_eq_true] at hf
      rcases List.mem_cons.1 hc with rfl | hc
      · rintro rfl
        have : fitsB (32 : UInt8).toNat f = false := by cases f <;> decide +kernel
        rw [this] at hf; cases hf.1
      · exact ih _ hf.2 c hc
  exact key l true h1
theorem digit_sp {d : Nat} (h : d < 10) : UInt8.ofNat (48 + d) ≠ 32 := by
  intro e
  have := congrArg UInt8.toNat e
  simp at this
  omega
theorem dec_sp : ∀ n : Nat, ∀ c ∈ Lib.decDigits n, c ≠ (32 : UInt8) := by
  intro n
  induction n using Nat.strongRecOn with
  | _ n ih =>
    intro c hc
    rw [Lib.decDigits] at hc
    split at hc
    · rename_i h
      rw [List.mem_singleton.1 hc]
      exact digit_sp h
    · rename_i h
      rcases List.mem_append.1 hc with hc | hc
      · exact ih (n / 10) (by omega) c hc
      · rw [List.mem_singleton.1 hc]
        exact digit_sp (Nat.mod_lt _ (by decide))
theorem itoa_sp (n : Int) : ∀ c ∈ Lib.itoa n, c ≠ (32 : UInt8) := by
  intro c hc
  unfold Lib.itoa at hc
  split at hc
  · rcases List.mem_cons.1 hc with rfl | hc
    · decide
    · exact dec_sp _ c hc
  · exact dec_sp _ c hc
theorem joinW_len2 : ∀ (W : List (List UInt8)) (b : Nat), (∀ w ∈ W, w.length ≤ b) → (yh W).length ≤ W.length * (b + 1)
  | [], b, _ => by simp [joinW_nil]
  | [w], b, h => by have := h w (by simp); rw [joinW_one]; simp; omega
  | w :: x :: r, b, h => by
    have h1 := h w (by simp)
    have h2 := joinW_len2 (x :: r) b (fun y hy => h y (List.mem_cons_of_mem _ hy))
    rw [joinW_cons, List.length_append]
    have e : (w :: x :: r).length = (x :: r).length + 1 := rfl
    rw [e, Nat.succ_mul]
    simp only [List.length_cons] at h2 ⊢
    omega
theorem devN_at {V : List Dv} {d : Int} (h : 0 ≤ d ∧ d < V.length) : ∃ x, V[d.toNat]? = some x ∧ devN V d = x.n.data.toList := by
  obtain ⟨x, hx⟩ := zc (L := V) (k := d.toNat) (by omega)
  exact ⟨x, hx, by unfold devN; rw [hx]⟩
instance (c : UInt8) : Decidable (okC c) := by unfold okC; infer_instance
theorem txt_ok {L : List (List UInt8)} (h : ∀ l ∈ L, ∀ c ∈ l, okC c) : (yd L).all okB = true := by
  rw [List.all_eq_true]
  intro c hc
  unfold yd at hc
  obtain ⟨l, hl, hc⟩ := List.mem_flatMap.1 hc
  rcases List.mem_append.1 hc with hc | hc
  · exact okB_iff.2 (.inr (h l hl c hc))
  · simp at hc; subst hc; exact okB_iff.2 (.inl rfl)
theorem txt_lines {L : List (List UInt8)} (h : ∀ l ∈ L, ∀ c ∈ l, okC c) (hl : (yd L).length ≤ 65536) : jr (yd L) = some L := by
  by_cases h0 : L = []
  · subst h0; rfl
  · have hne : yd L ≠ [] := fun e => by have := txt_last h0; rw [e] at this; cases this
    rw [lines_some hne hl (txt_last h0) (txt_ok h), ll_txt (fun l hl c hc e => by have := (h l hl c hc).1; rw [e] at this; exact absurd this (by decide))]
theorem char_okC {c : UInt8} (h : charB c.toNat = true) : okC c ∧ c ≠ 35 ∧ c ≠ 32 := by
  unfold charB jv digitB at h
  simp only [Bool.or_eq_true, Bool.and_eq_true, decide_eq_true_eq, beq_iff_eq] at h
  refine ⟨⟨by omega, by omega⟩, fun e => ?_, fun e => ?_⟩ <;> (subst e; simp at h)
theorem chars_okC : ∀ {l : List UInt8}, qJ l = true → ∀ c ∈ l, okC c ∧ c ≠ 35 ∧ c ≠ 32
  | [], _, c, hc => by cases hc
  | x :: r, h, c, hc => by
    rw [qJ, Bool.and_eq_true] at h
    rcases List.mem_cons.1 hc with rfl | hc
    · exact char_okC h.1
    · exact chars_okC h.2 c hc
theorem name_okC {l : List UInt8} (h : jG l = true) : ∀ c ∈ l, okC c ∧ c ≠ 35 ∧ c ≠ 32 := by
  rw [← rname_eq] at h
  cases l with
  | nil => cases h
  | cons c r =>
    unfold rnameB at h
    simp only [Bool.and_eq_true] at h
    exact chars_okC h.2
theorem digit_okC {d : Nat} (h : d < 10) : okC (UInt8.ofNat (48 + d)) := by
  have e : (UInt8.ofNat (48 + d)).toNat = 48 + d := by simp; omega
  unfold okC
  rw [e]
  omega
theorem dec_okC : ∀ n : Nat, ∀ c ∈ Lib.decDigits n, okC c := by
  intro n
  induction n using Nat.strongRecOn with
  | _ n ih =>
    intro c hc
    rw [Lib.decDigits] at hc
    split at hc
    · rename_i h
      rw [List.mem_singleton.1 hc]
      exact digit_okC h
    · rename_i h
      rcases List.mem_append.1 hc with hc | hc
      · exact ih (n / 10) (by omega) c hc
      · rw [List.mem_singleton.1 hc]
        exact digit_okC (Nat.mod_lt _ (by decide))
theorem itoa_okC (n : Int) : ∀ c ∈ Lib.itoa n, okC c := by
  intro c hc
  unfold Lib.itoa at hc
  split at hc
  · rcases List.mem_cons.1 hc with rfl | hc
    · decide
    · exact dec_okC _ c hc
  · exact dec_okC _ c hc
theorem join_okC : ∀ {W : List (List UInt8)}, (∀ w ∈ W, ∀ c ∈ w, okC c) → ∀ c ∈ yh W, okC c
  | [], _, c, hc => by rw [joinW_nil] at hc; cases hc
  | [w], h, c, hc => by rw [joinW_one] at hc; exact h w (by simp) c hc
  | w :: x :: r, h, c, hc => by
    rw [joinW_cons] at hc
    rcases List.mem_append.1 hc with hc | hc
    · exact h w (by simp) c hc
    · rcases List.mem_cons.1 hc with rfl | hc
      · decide
      · exact join_okC (fun y hy => h y (List.mem_cons_of_mem _ hy)) c hc
theorem net_nodes {N : List Nd} {V : List Dv} (h : netE N V = 0) : (∀ d ∈ N, jG d.n.data.toList = true) ∧ (N.map Nd.n).Nodup := by
  have key : ∀ (N : List Nd) (U : List ByteArray), ndGo U N = 0 → (∀ d ∈ N, jG d.n.data.toList = true ∧ d.n ∉ U) ∧ (N.map Nd.n).Nodup := by
    intro N
    induction N with
    | nil => intro U _; exact ⟨by simp, by simp⟩
    | cons d l ih =>
      intro U h
      rw [ndGo] at h
      split at h
      · cases h
      rename_i h1
      split at h
      · cases h
      rename_i h2
      split at h
      · cases h
      obtain ⟨i1, i2⟩ := ih (U ++ [d.n]) h
      have hu : d.n ∉ U := fun hin => h2 (by unfold jH; rw [List.any_eq_true]; exact ⟨d.n, hin, by simp⟩)
      refine ⟨fun x hx => ?_, ?_⟩
      · rcases List.mem_cons.1 hx with rfl | hx
        · exact ⟨by simpa using h1, hu⟩
        · exact ⟨(i1 x hx).1, fun hin => (i1 x hx).2 (by simp [hin])⟩
      · rw [List.map_cons, List.nodup_cons]
        refine ⟨fun hin => ?_, i2⟩
        obtain ⟨x, hx, e⟩ := List.mem_map.1 hin
        exact (i1 x hx).2 (by simp [e])
  unfold netE at h
  split at h
  · cases h
  split at h
  · rename_i h2; exact absurd h h2
  rename_i h2
  have h3 : ndGo [] N = 0 := by simpa using h2
  obtain ⟨i1, i2⟩ := key N [] h3
  exact ⟨fun d hd => (i1 d hd).1, i2⟩
theorem nodI_at : ∀ (V : List Nd) (i : Int) (k : Nat) (d : Nd), (V.map Nd.n).Nodup → V[k]? = some d → nodI d.n.data.toList i V = i + k
  | [], _, k, d, _, h => by simp at h
  | x :: l, i, k, d, hn, h => by
    simp only [List.map_cons, List.nodup_cons] at hn
    rw [nodI]
    cases k with
    | zero => simp at h; subst h; simp
    | succ k =>
      have h' : l[k]? = some d := by simpa using h
      rw [if_neg (fun e => hn.1 (List.mem_map.2 ⟨d, List.mem_of_getElem? h', (ba_ext2 e).symm⟩)), nodI_at l (i + 1) k d hn.2 h']
      omega
theorem nodN_at {V : List Nd} {d : Int} (h : 0 ≤ d ∧ d < V.length) : ∃ x, V[d.toNat]? = some x ∧ nodN V d = x.n.data.toList := by
  obtain ⟨x, hx⟩ := zc (L := V) (k := d.toNat) (by omega)
  exact ⟨x, hx, by unfold nodN; rw [hx]⟩
/-- A word of a programme. -/
def WdOk (w : List UInt8) : Prop := w ≠ [] ∧ (∀ c ∈ w, c ≠ 32) ∧ (∀ c ∈ w, okC c) ∧ w.length ≤ 20
instance (w : List UInt8) : Decidable (∀ c ∈ w, okC c) := by unfold okC; infer_instance
instance (w : List UInt8) : Decidable (WdOk w) := by unfold WdOk; infer_instance
theorem name_wd {l : List UInt8} (h : jG l = true) : WdOk l :=
  ⟨(name_sp h).1, (name_sp h).2.1, fun c hc => (name_okC h c hc).1, by have := (name_sp h).2.2; omega⟩
theorem itoa_wd {n : Int} (h1 : 0 ≤ n) (h2 : n ≤ 65536) : WdOk (Lib.itoa n) := ⟨itoa_ne n, itoa_sp n, itoa_okC n, itoa_len (by omega) (by omega)⟩
theorem wd_words {W : List (List UInt8)} (h : ∀ w ∈ W, WdOk w) : yK (yh W) = W := words_join fun w hw => ⟨(h w hw).1, (h w hw).2.1⟩
theorem jj {W : List (List UInt8)} (h : ∀ w ∈ W, WdOk w) : (∀ c ∈ yh W, okC c) ∧ (yh W).length ≤ W.length * 21 :=
  ⟨join_okC fun w hw => (h w hw).2.2.1, joinW_len2 W 20 fun w hw => (h w hw).2.2.2⟩
theorem txt_len : ∀ {L : List (List UInt8)} {b : Nat}, (∀ l ∈ L, l.length ≤ b) → (yd L).length ≤ L.length * (b + 1)
  | [], b, _ => by simp [yd]
  | l :: L, b, h => by
    have h1 := h l (by simp)
    have h2 := txt_len (L := L) (b := b) (fun x hx => h x (by simp [hx]))
    unfold yd at h2 ⊢
    rw [List.flatMap_cons, List.length_append, List.length_append]
    have e : (l :: L).length = L.length + 1 := rfl
    rw [e, Nat.succ_mul]
    simp only [List.length_singleton]
    omega
theorem ll_mem : ∀ (l cur : List UInt8), ∀ w ∈ ll cur l, w.length ≤ cur.length + l.length
  | [], cur, w, h => by simp [ll] at h
  | c :: l, cur, w, h => by
    rw [ll] at h
    split at h
    · rcases List.mem_cons.1 h with rfl | h
      · simp
      · have := ll_mem l [] w h
        simp at this ⊢; omega
    · have := ll_mem l _ w h
      simp at this ⊢; omega
theorem ll_len : ∀ (l cur : List UInt8), (ll cur l).length ≤ l.length
  | [], cur => by simp [ll]
  | c :: l, cur => by
    rw [ll]
    split
    · have := ll_len l []
      simp; omega
    · have := ll_len l (cur ++ [c])
      simp; omega
theorem lines_len {l : List UInt8} : ((jr l).getD []).length ≤ l.length ∧ ∀ w ∈ (jr l).getD [], w.length ≤ l.length := by
  unfold jr
  split
  · simp
  split
  · simp
  split
  · refine ⟨ll_len l [], fun w hw => ?_⟩
    have := ll_mem l [] w hw
    simpa using this
  · simp
end Go.Proofs.YtjamibeffalhaaaGreatDoor
