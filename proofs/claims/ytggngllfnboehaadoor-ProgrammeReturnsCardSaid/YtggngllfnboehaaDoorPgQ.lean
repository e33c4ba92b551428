/- The text of a valid programme, read again; nothing of the program stands here. -/
import Derived.Test.YtggngllfnboehaaDoorPgP
import Derived.Test.YtggngllfnboehaaDoorLxB
set_option linter.unusedVariables false
set_option linter.unusedSimpArgs false
namespace Go.Proofs.YtggngllfnboehaaDoor
open Go Go.RowKit
instance (c : UInt8) : Decidable (okC c) := by unfold okC; infer_instance
theorem txt_ok {L : List (List UInt8)} (h : ∀ l ∈ L, ∀ c ∈ l, okC c) : (txtOf L).all okB = true := by
  rw [List.all_eq_true]
  intro c hc
  unfold txtOf at hc
  obtain ⟨l, hl, hc⟩ := List.mem_flatMap.1 hc
  rcases List.mem_append.1 hc with hc | hc
  · exact okB_iff.2 (.inr (h l hl c hc))
  · simp at hc; subst hc; exact okB_iff.2 (.inl rfl)
theorem txt_lines {L : List (List UInt8)} (h : ∀ l ∈ L, ∀ c ∈ l, okC c) (hl : (txtOf L).length ≤ 65536) : linesL (txtOf L) = some L := by
  by_cases h0 : L = []
  · subst h0; rfl
  · have hne : txtOf L ≠ [] := fun e => by have := txt_last h0; rw [e] at this; cases this
    rw [lines_some hne hl (txt_last h0) (txt_ok h), ll_txt (fun l hl c hc e => by have := (h l hl c hc).1; rw [e] at this; exact absurd this (by decide))]
theorem char_okC {c : UInt8} (h : charB c.toNat = true) : okC c ∧ c ≠ 35 ∧ c ≠ 32 := by
  unfold charB letterB digitB at h
  simp only [Bool.or_eq_true, Bool.and_eq_true, decide_eq_true_eq, beq_iff_eq] at h
  refine ⟨⟨by omega, by omega⟩, fun e => ?_, fun e => ?_⟩ <;> (subst e; simp at h)
theorem chars_okC : ∀ {l : List UInt8}, charsB l = true → ∀ c ∈ l, okC c ∧ c ≠ 35 ∧ c ≠ 32
  | [], _, c, hc => by cases hc
  | x :: r, h, c, hc => by
    rw [charsB, Bool.and_eq_true] at h
    rcases List.mem_cons.1 hc with rfl | hc
    · exact char_okC h.1
    · exact chars_okC h.2 c hc
theorem name_okC {l : List UInt8} (h : nameB l = true) : ∀ c ∈ l, okC c ∧ c ≠ 35 ∧ c ≠ 32 := by
  rw [← rname_eq] at h
  cases l with
  | nil => cases h
  | cons c r =>
    unfold rnameB at h
    simp only [Bool.and_eq_true] at h
    exact chars_okC h.2
theorem digit_okC {d : Nat} (h : d < 10) : okC (UInt8.ofNat (48 + d)) := by
  have e : (UInt8.ofNat (48 + d)).toNat = 48 + d := by simp; omega
  unfold okC
  rw [e]
  omega
theorem dec_okC : ∀ n : Nat, ∀ c ∈ Lib.decDigits n, okC c := by
  intro n
  induction n using Nat.strongRecOn with
  | _ n ih =>
    intro c hc
    rw [Lib.decDigits] at hc
    split at hc
    · rename_i h
      rw [List.mem_singleton.1 hc]
      exact digit_okC h
    · rename_i h
      rcases List.mem_append.1 hc with hc | hc
      · exact ih (n / 10) (by omega) c hc
      · rw [List.mem_singleton.1 hc]
        exact digit_okC (Nat.mod_lt _ (by decide))
theorem itoa_okC (n : Int) : ∀ c ∈ Lib.itoa n, okC c := by
  intro c hc
  unfold Lib.itoa at hc
  split at hc
  · rcases List.mem_cons.1 hc with rfl | hc
    · decide
    · exact dec_okC _ c hc
  · exact dec_okC _ c hc
theorem join_okC : ∀ {W : List (List UInt8)}, (∀ w ∈ W, ∀ c ∈ w, okC c) → ∀ c ∈ joinW W, okC c
  | [], _, c, hc => by rw [joinW_nil] at hc; cases hc
  | [w], h, c, hc => by rw [joinW_one] at hc; exact h w (by simp) c hc
  | w :: x :: r, h, c, hc => by
    rw [joinW_cons] at hc
    rcases List.mem_append.1 hc with hc | hc
    · exact h w (by simp) c hc
    · rcases List.mem_cons.1 hc with rfl | hc
      · decide
      · exact join_okC (fun y hy => h y (List.mem_cons_of_mem _ hy)) c hc
theorem net_nodes {N : List Nd} {V : List Dv} (h : netE N V = 0) : (∀ d ∈ N, nameB d.n.data.toList = true) ∧ (N.map Nd.n).Nodup := by
  have key : ∀ (N : List Nd) (U : List ByteArray), ndGo U N = 0 → (∀ d ∈ N, nameB d.n.data.toList = true ∧ d.n ∉ U) ∧ (N.map Nd.n).Nodup := by
    intro N
    induction N with
    | nil => intro U _; exact ⟨by simp, by simp⟩
    | cons d l ih =>
      intro U h
      rw [ndGo] at h
      split at h
      · cases h
      rename_i h1
      split at h
      · cases h
      rename_i h2
      split at h
      · cases h
      obtain ⟨i1, i2⟩ := ih (U ++ [d.n]) h
      have hu : d.n ∉ U := fun hin => h2 (by unfold usedB; rw [List.any_eq_true]; exact ⟨d.n, hin, by simp⟩)
      refine ⟨fun x hx => ?_, ?_⟩
      · rcases List.mem_cons.1 hx with rfl | hx
        · exact ⟨by simpa using h1, hu⟩
        · exact ⟨(i1 x hx).1, fun hin => (i1 x hx).2 (by simp [hin])⟩
      · rw [List.map_cons, List.nodup_cons]
        refine ⟨fun hin => ?_, i2⟩
        obtain ⟨x, hx, e⟩ := List.mem_map.1 hin
        exact (i1 x hx).2 (by simp [e])
  unfold netE at h
  split at h
  · cases h
  split at h
  · rename_i h2; exact absurd h h2
  rename_i h2
  have h3 : ndGo [] N = 0 := by simpa using h2
  obtain ⟨i1, i2⟩ := key N [] h3
  exact ⟨fun d hd => (i1 d hd).1, i2⟩
theorem nodI_at : ∀ (V : List Nd) (i : Int) (k : Nat) (d : Nd), (V.map Nd.n).Nodup → V[k]? = some d → nodI d.n.data.toList i V = i + k
  | [], _, k, d, _, h => by simp at h
  | x :: l, i, k, d, hn, h => by
    simp only [List.map_cons, List.nodup_cons] at hn
    rw [nodI]
    cases k with
    | zero => simp at h; subst h; simp
    | succ k =>
      have h' : l[k]? = some d := by simpa using h
      rw [if_neg (fun e => hn.1 (List.mem_map.2 ⟨d, List.mem_of_getElem? h', (ba_ext2 e).symm⟩)), nodI_at l (i + 1) k d hn.2 h']
      omega
theorem nodN_at {V : List Nd} {d : Int} (h : 0 ≤ d ∧ d < V.length) : ∃ x, V[d.toNat]? = some x ∧ nodN V d = x.n.data.toList := by
  obtain ⟨x, hx⟩ := some_at (L := V) (k := d.toNat) (by omega)
  exact ⟨x, hx, by unfold nodN; rw [hx]⟩
/-- A word of a programme. -/
def WdOk (w : List UInt8) : Prop := w ≠ [] ∧ (∀ c ∈ w, c ≠ 32) ∧ (∀ c ∈ w, okC c) ∧ w.length ≤ 20
instance (w : List UInt8) : Decidable (∀ c ∈ w, okC c) := by unfold okC; infer_instance
instance (w : List UInt8) : Decidable (WdOk w) := by unfold WdOk; infer_instance
theorem name_wd {l : List UInt8} (h : nameB l = true) : WdOk l :=
  ⟨(name_sp h).1, (name_sp h).2.1, fun c hc => (name_okC h c hc).1, by have := (name_sp h).2.2; omega⟩
theorem itoa_wd {n : Int} (h1 : 0 ≤ n) (h2 : n ≤ 65536) : WdOk (Lib.itoa n) := ⟨itoa_ne n, itoa_sp n, itoa_okC n, itoa_len (by omega) (by omega)⟩
theorem posW_wd (p : Int) : WdOk (posW p) := by unfold posW; split <;> decide
/-- A step that is right. -/
structure StOk (nN nV : Int) (s : St) : Prop where
  k : 1 ≤ s.k ∧ s.k ≤ 6
  d : s.k ≠ 5 → 0 ≤ s.d ∧ s.d < nV
  d0 : s.k = 5 → s.d = 0
  n : s.k = 5 → 0 ≤ s.n ∧ s.n < nN
  n0 : s.k ≠ 5 → s.n = 0
  p : s.k = 3 ∨ s.k = 6 → s.p = 1 ∨ s.p = 2
  p0 : ¬(s.k = 3 ∨ s.k = 6) → s.p = 0
  y : s.k = 3 ∨ s.k = 4 → 0 ≤ s.y ∧ s.y ≤ 65536
  y0 : ¬(s.k = 3 ∨ s.k = 4) → s.y = 0
theorem stepE_iff {nN nV : Int} {s : St} : stepE nN nV s = 0 ↔ StOk nN nV s := by
  unfold stepE
  constructor
  · intro h
    split at h
    · cases h
    split at h
    · cases h
    split at h
    · cases h
    split at h
    · cases h
    split at h
    · cases h
    split at h
    · cases h
    constructor <;> omega
  · intro h
    obtain ⟨k, d, d0, n, n0, p, p0, y, y0⟩ := h
    rw [if_neg (by omega), if_neg (by omega), if_neg (by omega), if_neg (by omega), if_neg (by omega), if_neg (by omega)]
theorem stepsE_iff {nN nV : Int} : ∀ {S : List St}, stepsE nN nV S = 0 ↔ ∀ s ∈ S, StOk nN nV s
  | [] => by simp [stepsE]
  | s :: l => by
    rw [stepsE, List.forall_mem_cons, ← stepE_iff, ← stepsE_iff (S := l)]
    by_cases h : stepE nN nV s = 0
    · rw [if_neg (by simpa using h)]; exact ⟨fun e => ⟨h, e⟩, fun e => e.2⟩
    · rw [if_pos h]; exact ⟨fun e => absurd e h, fun e => absurd e.1 h⟩
structure PgOk (N : List Nd) (V : List Dv) (P : Pg) : Prop where
  net : netE N V = 0
  n : nameB P.n.data.toList = true
  l : P.st.length ≤ 64
  s : ∀ s ∈ P.st, StOk N.length V.length s
theorem progE_iff {N : List Nd} {V : List Dv} {P : Pg} : progE N V P = 0 ↔ PgOk N V P := by
  unfold progE
  constructor
  · intro h
    split at h
    · rename_i h1; exact absurd h h1
    rename_i h1
    split at h
    · cases h
    rename_i h2
    split at h
    · cases h
    exact ⟨by simpa using h1, by simpa using h2, by omega, stepsE_iff.1 h⟩
  · rintro ⟨h1, h2, h3, h4⟩
    rw [if_neg (by simpa using h1), if_neg (by rw [h2]; simp), if_neg (by omega)]
    exact stepsE_iff.2 h4
theorem step_words {N : List Nd} {V : List Dv} {s : St} (hn : netE N V = 0) (h : StOk N.length V.length s) : (∀ w ∈ stepW N V s, WdOk w) ∧ (stepW N V s).length ≤ 5 ∧ (∀ w, (stepW N V s)[0]? = some w → w[0]? ≠ some 35) ∧ 0 < (stepW N V s).length := by
  have hd : s.k ≠ 5 → WdOk (devN V s.d) := fun e => by
    obtain ⟨x, hx, e⟩ := devN_at (h.d e)
    rw [e]
    exact name_wd ((net_names hn).1 x (List.mem_of_getElem? hx))
  have hp := posW_wd s.p
  unfold stepW
  split
  · rename_i h1
    refine ⟨?_, by simp, fun w hw => by simp at hw; subst hw; decide, by simp⟩
    simp only [List.mem_cons, List.not_mem_nil, or_false]
    rintro w (rfl | rfl)
    · decide
    · exact hd (by omega)
  split
  · refine ⟨?_, by simp, fun w hw => by simp at hw; subst hw; decide, by simp⟩
    simp only [List.mem_cons, List.not_mem_nil, or_false]
    rintro w (rfl | rfl)
    · decide
    · exact hd (by omega)
  split
  · rename_i h3
    have hy := h.y (.inl h3)
    refine ⟨?_, by simp, fun w hw => by simp at hw; subst hw; decide, by simp⟩
    simp only [List.mem_cons, List.not_mem_nil, or_false]
    rintro w (rfl | rfl | rfl | rfl | rfl)
    · decide
    · exact hd (by omega)
    · exact hp
    · decide
    · exact itoa_wd hy.1 hy.2
  split
  · rename_i h3
    have hy := h.y (.inr h3)
    refine ⟨?_, by simp, fun w hw => by simp at hw; subst hw; decide, by simp⟩
    simp only [List.mem_cons, List.not_mem_nil, or_false]
    rintro w (rfl | rfl | rfl | rfl)
    · decide
    · exact hd (by omega)
    · decide
    · exact itoa_wd hy.1 hy.2
  split
  · rename_i h3
    refine ⟨?_, by simp, fun w hw => by simp at hw; subst hw; decide, by simp⟩
    simp only [List.mem_cons, List.not_mem_nil, or_false]
    rintro w (rfl | rfl)
    · decide
    · obtain ⟨x, hx, e⟩ := nodN_at (h.n h3)
      rw [e]
      exact name_wd ((net_nodes hn).1 x (List.mem_of_getElem? hx))
  · refine ⟨?_, by simp, fun w hw => by simp at hw; subst hw; decide, by simp⟩
    simp only [List.mem_cons, List.not_mem_nil, or_false]
    rintro w (rfl | rfl | rfl)
    · decide
    · exact hd (by omega)
    · exact hp
theorem wd_words {W : List (List UInt8)} (h : ∀ w ∈ W, WdOk w) : wordsL (joinW W) = W := words_join fun w hw => ⟨(h w hw).1, (h w hw).2.1⟩
theorem wd_line {W : List (List UInt8)} (h : ∀ w ∈ W, WdOk w) : (∀ c ∈ joinW W, okC c) ∧ (joinW W).length ≤ W.length * 21 :=
  ⟨join_okC fun w hw => (h w hw).2.2.1, joinW_len2 W 20 fun w hw => (h w hw).2.2.2⟩
/-- The words of a step that is right are read as this step. -/
theorem step_read {N : List Nd} {V : List Dv} {s : St} (hn : netE N V = 0) (h : StOk N.length V.length s) : stepR N V (stepW N V s) = (s, 0) := by
  have hd : s.k ≠ 5 → devI (devN V s.d) 0 V = s.d := fun e => by
    obtain ⟨x, hx, e2⟩ := devN_at (h.d e)
    have := h.d e
    rw [e2, devI_at V 0 _ x (net_names hn).2 hx]; omega
  have hk := h.k
  have hn0 := h.n0
  have hp0 := h.p0
  have hy0 := h.y0
  have hdr := h.d
  have hpi : s.p = 1 ∨ s.p = 2 → posI (posW s.p) = s.p := by rintro (e | e) <;> rw [e] <;> decide
  have hnum : 0 ≤ s.y → s.y ≤ 65536 → numP (Lib.itoa s.y) 1073741824 = some s.y := fun a b => by rw [numP_itoa, if_neg (by omega), if_pos (by omega)]
  obtain ⟨k, d, n, p, y⟩ := s
  simp only at hd hk hn0 hp0 hy0 hdr hpi hnum
  rcases (by omega : k = 1 ∨ k = 2 ∨ k = 3 ∨ k = 4 ∨ k = 5 ∨ k = 6) with e | e | e | e | e | e
  · subst e
    have f : formR [openL, devN V d] = some (1, 0, 0) := by unfold formR; rw [if_pos ⟨rfl, rfl⟩]
    have w1 : wAt [openL, devN V d] 1 = devN V d := rfl
    show stepR N V [openL, devN V d] = _
    unfold stepR
    rw [f]
    simp only
    rw [if_neg (by decide), w1, hd (by decide), if_neg (by have := hdr (by decide); omega), hn0 (by decide), hp0 (by decide), hy0 (by decide)]
  · subst e
    have f : formR [closeL, devN V d] = some (2, 0, 0) := by unfold formR; rw [if_neg (fun h => absurd h.2 (show ¬(closeL = openL) by decide)), if_pos ⟨rfl, rfl⟩]
    have w1 : wAt [closeL, devN V d] 1 = devN V d := rfl
    show stepR N V [closeL, devN V d] = _
    unfold stepR
    rw [f]
    simp only
    rw [if_neg (by decide), w1, hd (by decide), if_neg (by have := hdr (by decide); omega), hn0 (by decide), hp0 (by decide), hy0 (by decide)]
  · subst e
    have hp := h.p (.inl rfl)
    have hy := h.y (.inl rfl)
    simp only at hp hy
    have f : formR [lockL, devN V d, posW p, keyL, Lib.itoa y] = some (3, p, y) := by
      unfold formR
      rw [if_neg (fun h => by have := h.1; simp at this), if_neg (fun h => by have := h.1; simp at this), if_pos ⟨rfl, rfl, by show posI (posW p) ≠ 0; rw [hpi hp]; omega, rfl⟩]
      show (numP (Lib.itoa y) 1073741824).map (fun n => (3, posI (posW p), n)) = _
      rw [hnum hy.1 hy.2, hpi hp]; rfl
    have w1 : wAt [lockL, devN V d, posW p, keyL, Lib.itoa y] 1 = devN V d := rfl
    show stepR N V [lockL, devN V d, posW p, keyL, Lib.itoa y] = _
    unfold stepR
    rw [f]
    simp only
    rw [if_neg (by decide), w1, hd (by decide), if_neg (by have := hdr (by decide); omega), hn0 (by decide)]
  · subst e
    have hy := h.y (.inr rfl)
    simp only at hy
    have f : formR [unlockL, devN V d, keyL, Lib.itoa y] = some (4, 0, y) := by
      unfold formR
      rw [if_neg (fun h => by have := h.1; simp at this), if_neg (fun h => by have := h.1; simp at this), if_neg (fun h => by have := h.1; simp at this), if_pos ⟨rfl, rfl, rfl⟩]
      show (numP (Lib.itoa y) 1073741824).map (fun n => (4, 0, n)) = _
      rw [hnum hy.1 hy.2]; rfl
    have w1 : wAt [unlockL, devN V d, keyL, Lib.itoa y] 1 = devN V d := rfl
    show stepR N V [unlockL, devN V d, keyL, Lib.itoa y] = _
    unfold stepR
    rw [f]
    simp only
    rw [if_neg (by decide), w1, hd (by decide), if_neg (by have := hdr (by decide); omega), hn0 (by decide), hp0 (by decide)]
  · subst e
    have hnn := h.n rfl
    have hd0 := h.d0 rfl
    simp only at hnn hd0
    obtain ⟨x, hx, e2⟩ := nodN_at hnn
    have hi : nodI (nodN N n) 0 N = n := by rw [e2, nodI_at N 0 _ x (net_nodes hn).2 hx]; omega
    have f : formR [proveL, nodN N n] = some (5, 0, 0) := by
      unfold formR
      rw [if_neg (fun h => absurd h.2 (show ¬(proveL = openL) by decide)), if_neg (fun h => absurd h.2 (show ¬(proveL = closeL) by decide)), if_neg (fun h => by have := h.1; simp at this), if_neg (fun h => by have := h.1; simp at this), if_pos ⟨rfl, rfl⟩]
    have w1 : wAt [proveL, nodN N n] 1 = nodN N n := rfl
    show stepR N V [proveL, nodN N n] = _
    unfold stepR
    rw [f]
    simp only
    rw [if_pos trivial, w1, hi, if_neg (by omega), hd0, hp0 (by decide), hy0 (by decide)]
  · subst e
    have hp := h.p (.inr rfl)
    simp only at hp
    have f : formR [checkL, devN V d, posW p] = some (6, p, 0) := by
      unfold formR
      rw [if_neg (fun h => by have := h.1; simp at this), if_neg (fun h => by have := h.1; simp at this), if_neg (fun h => by have := h.1; simp at this), if_neg (fun h => by have := h.1; simp at this), if_neg (fun h => by have := h.1; simp at this), if_pos ⟨rfl, rfl, by show posI (posW p) ≠ 0; rw [hpi hp]; omega⟩]
      show some ((6 : Int), posI (posW p), (0 : Int)) = _
      rw [hpi hp]
    have w1 : wAt [checkL, devN V d, posW p] 1 = devN V d := rfl
    show stepR N V [checkL, devN V d, posW p] = _
    unfold stepR
    rw [f]
    simp only
    rw [if_neg (by decide), w1, hd (by decide), if_neg (by have := hdr (by decide); omega), hn0 (by decide), hy0 (by decide)]
section
variable {N : List Nd} {V : List Dv}
theorem goL_cons (i : Nat) (nm : Option (List UInt8)) (S : List St) (l : List UInt8) (ls : List (List UInt8)) : goL N V i nm S (l :: ls) =
    if (wordsL l).length = 0 ∨ (wAt (wordsL l) 0)[0]? = some 35 then goL N V (i + 1) nm S ls
    else match nm with
      | none => if (wordsL l).length ≠ 2 ∨ wAt (wordsL l) 0 ≠ progL then .error ((i : Int) + 1, 2) else goL N V (i + 1) (some (wAt (wordsL l) 1)) S ls
      | some n => if (stepR N V (wordsL l)).2 ≠ 0 then .error ((i : Int) + 1, (stepR N V (wordsL l)).2) else goL N V (i + 1) (some n) (S ++ [(stepR N V (wordsL l)).1]) ls := by
  rw [goL.eq_def]
  rfl
theorem goL_nil (i : Nat) (nm : Option (List UInt8)) (S : List St) : goL N V i nm S [] = .ok (nm, S) := by rw [goL.eq_def]
theorem goL_app : ∀ (A : List (List UInt8)) {i : Nat} {nm : Option (List UInt8)} {S : List St} {B : List (List UInt8)} {nm' : Option (List UInt8)} {S' : List St}, goL N V i nm S A = .ok (nm', S') → goL N V i nm S (A ++ B) = goL N V (i + A.length) nm' S' B
  | [], i, nm, S, B, nm', S', h => by
    rw [goL_nil] at h
    injection h with h
    injection h with h1 h2
    subst h1; subst h2
    rfl
  | l :: A, i, nm, S, B, nm', S', h => by
    have e : i + (l :: A).length = i + 1 + A.length := by simp; omega
    rw [List.cons_append, e, goL_cons]
    rw [goL_cons] at h
    split at h
    · rename_i h1
      rw [if_pos h1]
      exact goL_app A h
    rename_i h1
    rw [if_neg h1]
    cases nm with
    | none =>
      simp only at h ⊢
      split at h
      · cases h
      rename_i h2
      rw [if_neg h2]
      exact goL_app A h
    | some n =>
      simp only at h ⊢
      split at h
      · cases h
      rename_i h2
      rw [if_neg h2]
      exact goL_app A h
theorem goL_skip {l : List UInt8} (h : (wordsL l).length = 0 ∨ (wAt (wordsL l) 0)[0]? = some 35) (i : Nat) (nm : Option (List UInt8)) (S : List St) (B : List (List UInt8)) : goL N V i nm S (l :: B) = goL N V (i + 1) nm S B := by
  rw [goL_cons, if_pos h]
theorem goL_head {P : Pg} (h : nameB P.n.data.toList = true) (i : Nat) (S : List St) (B : List (List UInt8)) : goL N V i none S (joinW (headL P) :: B) = goL N V (i + 1) (some P.n.data.toList) S B := by
  have hw : wordsL (joinW (headL P)) = headL P := wd_words fun w hw => by
    simp only [headL, List.mem_cons, List.not_mem_nil, or_false] at hw
    rcases hw with rfl | rfl
    · decide
    · exact name_wd h
  rw [goL_cons, hw, if_neg (by
    rintro (e | e)
    · exact absurd e (by simp [headL])
    · exact absurd e (by show ¬(progL[0]? = some 35); decide))]
  simp only
  rw [if_neg (by
    rintro (e | e)
    · exact e rfl
    · exact e rfl)]
  rfl
theorem goL_step {s : St} (hn : netE N V = 0) (h : StOk N.length V.length s) (i : Nat) (n : List UInt8) (S : List St) (B : List (List UInt8)) : goL N V i (some n) S (joinW (stepW N V s) :: B) = goL N V (i + 1) (some n) (S ++ [s]) B := by
  obtain ⟨h1, h2, h3, h4⟩ := step_words hn h
  have hw : wordsL (joinW (stepW N V s)) = stepW N V s := wd_words h1
  rw [goL_cons, hw, if_neg (by
    rintro (e | e)
    · omega
    · obtain ⟨w, hw⟩ := some_at (L := stepW N V s) (k := 0) h4
      unfold wAt at e
      rw [hw] at e
      exact h3 w hw e)]
  simp only
  rw [step_read hn h, if_neg (by simp)]
theorem goL_steps (hn : netE N V = 0) : ∀ (T : List St) (i : Nat) (n : List UInt8) (S : List St), (∀ s ∈ T, StOk N.length V.length s) → goL N V i (some n) S (T.map fun s => joinW (stepW N V s)) = .ok (some n, S ++ T)
  | [], i, n, S, h => by rw [List.map_nil, goL_nil, List.append_nil]
  | s :: T, i, n, S, h => by
    rw [List.map_cons, goL_step hn (h s (by simp)), goL_steps hn T (i + 1) n (S ++ [s]) (fun x hx => h x (by simp [hx]))]
    simp
/-- Lines that are read as a programme. -/
theorem parse_of {P : Pg} {L : List (List UInt8)} {s : List UInt8} (h : PgOk N V P) (hs : linesL s = some L) (hL : goL N V 0 none [] L = .ok (some P.n.data.toList, P.st)) : parseG N V s = (P, 0, 0) := by
  have h0 := progE_iff.2 h
  unfold parseG
  rw [if_neg (by simpa using h.net), hs]
  simp only
  rw [hL]
  unfold endG
  have e : (⟨⟨P.n.data.toList.toArray⟩, P.st⟩ : Pg) = P := rfl
  show (if progE N V ⟨⟨P.n.data.toList.toArray⟩, P.st⟩ ≠ 0 then (Pg.zer, 0, progE N V ⟨⟨P.n.data.toList.toArray⟩, P.st⟩) else ((⟨⟨P.n.data.toList.toArray⟩, P.st⟩ : Pg), (0 : Int), (0 : Int))) = _
  rw [e, if_neg (by simpa using h0)]
theorem lines_go {P : Pg} (h : PgOk N V P) : goL N V 0 none [] (linesP N V P) = .ok (some P.n.data.toList, P.st) := by
  unfold linesP
  rw [goL_head h.n, goL_steps h.net P.st 1 _ [] h.s]
  rfl
theorem head_wd {P : Pg} (h : nameB P.n.data.toList = true) : ∀ w ∈ headL P, WdOk w := by
  intro w hw
  simp only [headL, List.mem_cons, List.not_mem_nil, or_false] at hw
  rcases hw with rfl | rfl
  · decide
  · exact name_wd h
theorem lines_okP {P : Pg} (h : PgOk N V P) : ∀ l ∈ linesP N V P, (∀ c ∈ l, okC c) ∧ l.length ≤ 105 := by
  intro l hl
  unfold linesP at hl
  rcases List.mem_cons.1 hl with rfl | hl
  · have := wd_line (head_wd h.n)
    exact ⟨this.1, by have h2 := this.2; simp [headL] at h2 ⊢; omega⟩
  · obtain ⟨s, hs, rfl⟩ := List.mem_map.1 hl
    obtain ⟨h1, h2, _⟩ := step_words h.net (h.s s hs)
    have := wd_line h1
    exact ⟨this.1, by omega⟩
theorem txt_len : ∀ {L : List (List UInt8)} {b : Nat}, (∀ l ∈ L, l.length ≤ b) → (txtOf L).length ≤ L.length * (b + 1)
  | [], b, _ => by simp [txtOf]
  | l :: L, b, h => by
    have h1 := h l (by simp)
    have h2 := txt_len (L := L) (b := b) (fun x hx => h x (by simp [hx]))
    unfold txtOf at h2 ⊢
    rw [List.flatMap_cons, List.length_append, List.length_append]
    have e : (l :: L).length = L.length + 1 := rfl
    rw [e, Nat.succ_mul]
    simp only [List.length_singleton]
    omega
theorem text_len {P : Pg} (h : PgOk N V P) : (txtOf (linesP N V P)).length ≤ 6890 := by
  have h1 := txt_len fun l hl => (lines_okP h l hl).2
  have : (linesP N V P).length = P.st.length + 1 := by unfold linesP; simp
  have := h.l
  omega
/-- The text of a valid programme leads back to it. -/
theorem parse_text {P : Pg} (h : PgOk N V P) : parseG N V (txtOf (linesP N V P)) = (P, 0, 0) :=
  parse_of h (txt_lines (fun l hl => (lines_okP h l hl).1) (by have := text_len h; omega)) (lines_go h)
end
end Go.Proofs.YtggngllfnboehaaDoor
