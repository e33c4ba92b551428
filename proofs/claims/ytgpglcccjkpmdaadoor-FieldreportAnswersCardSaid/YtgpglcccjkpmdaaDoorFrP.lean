/- Messages of field reports, by plain functions: which are valid, their text, what a text is read as, and that the text leads back; nothing of the program stands here. -/
import Derived.Test.YtgpglcccjkpmdaaDoorNetP
import Derived.Test.YtgpglcccjkpmdaaDoorWdP
import Derived.Test.YtgpglcccjkpmdaaDoorCaU
set_option linter.unusedVariables false
set_option linter.unusedSimpArgs false
namespace Go.Proofs.YtgpglcccjkpmdaaDoor
open Go Go.RowKit
structure Rp where
  d : Int
  p : Int
  s : Int
  t : Int
  b : Bool
  deriving DecidableEq
structure Ms where
  cr : ByteArray
  t : Int
  rs : List Rp
def repE (m t : Int) : List Rp → Int
  | [] => 0
  | r :: l => if r.d < 0 ∨ m ≤ r.d then 8 else if r.p ≠ 1 ∧ r.p ≠ 2 then 10 else if r.s ≠ 2 then 6 else if r.t ≠ t then 11 else repE m t l
def msgE (N : List Nd) (V : List Dv) (M : Ms) : Int :=
  if netE N V ≠ 0 then netE N V else if nameB M.cr.data.toList = false then 3 else if M.t < 0 ∨ 16777216 < M.t then 11 else if M.rs.length = 0 then 16 else if 32 < M.rs.length then 1 else repE V.length M.t M.rs
def openL : List UInt8 := [111, 112, 101, 110]
def closedL : List UInt8 := [99, 108, 111, 115, 101, 100]
def seenL : List UInt8 := [115, 101, 101, 110, 59]
def toldL : List UInt8 := [116, 111, 108, 100, 59]
def atL : List UInt8 := [97, 116]
def devN (V : List Dv) (d : Int) : List UInt8 := match V[d.toNat]? with
  | some x => x.n.data.toList
  | none => []
def posW (p : Int) : List UInt8 := if p = 2 then closedL else openL
def howW (b : Bool) : List UInt8 := if b = true then toldL else seenL
def repW (V : List Dv) (r : Rp) : List (List UInt8) := [devN V r.d, posW r.p, howW r.b]
def headW (cr : ByteArray) (t : Int) : List (List UInt8) := [cr.data.toList, atL, (printP t).data.toList ++ [58]]
def msgW (V : List Dv) (M : Ms) : List (List UInt8) := headW M.cr M.t ++ M.rs.flatMap (repW V)
def ms0 : Ms := ⟨ByteArray.empty, 0, []⟩
def printM (N : List Nd) (V : List Dv) (M : Ms) : ByteArray × Int := if msgE N V M ≠ 0 then (ByteArray.empty, msgE N V M) else (⟨(joinW (msgW V M)).toArray⟩, 0)
def devI (s : List UInt8) : Int → List Dv → Int
  | _, [] => -1
  | i, d :: l => if d.n.data.toList = s then i else devI s (i + 1) l
def wAt (W : List (List UInt8)) (k : Nat) : List UInt8 := (W[k]?).getD []
def repR (t : Int) (a b c : List UInt8) : Option Rp :=
  if nameB a = true ∧ (b = openL ∨ b = closedL) ∧ (c = seenL ∨ c = toldL) then some ⟨0, if b = closedL then 2 else 1, 2, t, decide (c = toldL)⟩ else none
def readT (t : Int) : List (List UInt8) → Option (List Rp × List (List UInt8))
  | a :: b :: c :: l => match repR t a b c with
    | none => none
    | some r => match readT t l with
      | none => none
      | some q => some (r :: q.1, a :: q.2)
  | _ => some ([], [])
def timeW (w : List UInt8) : Option Int := if w.getLast? = some 58 ∧ (parseP w.dropLast).2 = 0 then some (parseP w.dropLast).1 else none
def readW (W : List (List UInt8)) : Option (Ms × List (List UInt8)) :=
  if W.length < 6 ∨ W.length % 3 ≠ 0 ∨ 33 < W.length / 3 ∨ nameB (wAt W 0) = false ∨ wAt W 1 ≠ atL then none else match timeW (wAt W 2) with
  | none => none
  | some t => match readT t (W.drop 3) with
    | none => none
    | some q => some (⟨⟨(wAt W 0).toArray⟩, t, q.1⟩, q.2)
def putD (V : List Dv) : List Rp → List (List UInt8) → Option (List Rp)
  | r :: R, n :: Ns => if devI n 0 V < 0 then none else match putD V R Ns with
    | none => none
    | some Q => some (⟨devI n 0 V, r.p, r.s, r.t, r.b⟩ :: Q)
  | R, _ => some R
def parseW (V : List Dv) (W : List (List UInt8)) : Ms × Int := match readW W with
  | none => (ms0, 2)
  | some q => match putD V q.1.rs q.2 with
    | none => (ms0, 8)
    | some R => (⟨q.1.cr, q.1.t, R⟩, 0)
def parseM (N : List Nd) (V : List Dv) (s : List UInt8) : Ms × Int := if netE N V ≠ 0 then (ms0, netE N V) else parseW V (wordsL s)
/-- What a valid network says of its devices' names. -/
theorem dvGo_inv (m : Int) : ∀ (V : List Dv) (U : List ByteArray), dvGo m U V = 0 → (∀ d ∈ V, nameB d.n.data.toList = true ∧ d.n ∉ U) ∧ (V.map Dv.n).Nodup
  | [], _, _ => ⟨by simp, by simp⟩
  | d :: l, U, h => by
    rw [dvGo] at h
    split at h
    · cases h
    rename_i h1
    split at h
    · cases h
    rename_i h2
    split at h
    · cases h
    split at h
    · cases h
    split at h
    · cases h
    obtain ⟨i1, i2⟩ := dvGo_inv m l (U ++ [d.n]) h
    have hu : d.n ∉ U := fun hin => h2 (by unfold usedB; rw [List.any_eq_true]; exact ⟨d.n, hin, by simp⟩)
    refine ⟨fun x hx => ?_, ?_⟩
    · rcases List.mem_cons.1 hx with rfl | hx
      · exact ⟨by simpa using h1, hu⟩
      · exact ⟨(i1 x hx).1, fun hin => (i1 x hx).2 (by simp [hin])⟩
    · rw [List.map_cons, List.nodup_cons]
      refine ⟨fun hin => ?_, i2⟩
      obtain ⟨x, hx, e⟩ := List.mem_map.1 hin
      exact (i1 x hx).2 (by simp [e])
theorem net_names {N : List Nd} {V : List Dv} (h : netE N V = 0) : (∀ d ∈ V, nameB d.n.data.toList = true) ∧ (V.map Dv.n).Nodup := by
  unfold netE at h
  split at h
  · cases h
  split at h
  · rename_i h2; exact absurd h h2
  obtain ⟨i1, i2⟩ := dvGo_inv _ _ _ h
  exact ⟨fun d hd => (i1 d hd).1, i2⟩
theorem ba_ext2 {a b : ByteArray} (h : a.data.toList = b.data.toList) : a = b := by
  cases a; cases b
  congr 1
  exact Array.toList_inj.1 h
theorem devI_at : ∀ (V : List Dv) (i : Int) (k : Nat) (d : Dv), (V.map Dv.n).Nodup → V[k]? = some d → devI d.n.data.toList i V = i + k
  | [], _, k, d, _, h => by simp at h
  | x :: l, i, k, d, hn, h => by
    simp only [List.map_cons, List.nodup_cons] at hn
    rw [devI]
    cases k with
    | zero => simp at h; subst h; simp
    | succ k =>
      have h' : l[k]? = some d := by simpa using h
      rw [if_neg (fun e => hn.1 (List.mem_map.2 ⟨d, List.mem_of_getElem? h', (ba_ext2 e).symm⟩)), devI_at l (i + 1) k d hn.2 h']
      omega
theorem name_sp {l : List UInt8} (h : nameB l = true) : l ≠ [] ∧ (∀ c ∈ l, c ≠ 32) ∧ l.length ≤ 12 := by
  unfold nameB at h
  simp only [Bool.and_eq_true, decide_eq_true_eq] at h
  obtain ⟨⟨h1, h2⟩, h3⟩ := h
  refine ⟨by rintro rfl; simp at h2, ?_, h3⟩
  have key : ∀ (l : List UInt8) (f : Bool), fitsAll l f = true → ∀ c ∈ l, c ≠ 32 := by
    intro l
    induction l with
    | nil => intro f _ c hc; cases hc
    | cons x r ih =>
      intro f hf c hc
      rw [fitsAll, Bool.and_eq_true] at hf
      rcases List.mem_cons.1 hc with rfl | hc
      · rintro rfl
        have : fitsB (32 : UInt8).toNat f = false := by cases f <;> decide +kernel
        rw [this] at hf; cases hf.1
      · exact ih _ hf.2 c hc
  exact key l true h1
theorem digit_sp {d : Nat} (h : d < 10) : UInt8.ofNat (48 + d) ≠ 32 := by
  intro e
  have := congrArg UInt8.toNat e
  simp at this
  omega
theorem dec_sp : ∀ n : Nat, ∀ c ∈ Lib.decDigits n, c ≠ (32 : UInt8) := by
  intro n
  induction n using Nat.strongRecOn with
  | _ n ih =>
    intro c hc
    rw [Lib.decDigits] at hc
    split at hc
    · rename_i h
      rw [List.mem_singleton.1 hc]
      exact digit_sp h
    · rename_i h
      rcases List.mem_append.1 hc with hc | hc
      · exact ih (n / 10) (by omega) c hc
      · rw [List.mem_singleton.1 hc]
        exact digit_sp (Nat.mod_lt _ (by decide))
theorem itoa_sp (n : Int) : ∀ c ∈ Lib.itoa n, c ≠ (32 : UInt8) := by
  intro c hc
  unfold Lib.itoa at hc
  split at hc
  · rcases List.mem_cons.1 hc with rfl | hc
    · decide
    · exact dec_sp _ c hc
  · exact dec_sp _ c hc
theorem two_sp (n : Int) : ∀ c ∈ (twoP n).data.toList, c ≠ (32 : UInt8) := by
  intro c hc
  unfold twoP at hc
  split at hc
  · rw [ByteArray.data_append, Array.toList_append, List.mem_append] at hc
    rcases hc with hc | hc
    · simp [zeroS] at hc; subst hc; decide
    · exact itoa_sp n c (by simpa [txtP] using hc)
  · exact itoa_sp n c (by simpa [txtP] using hc)
theorem print_sp (t : Int) : ∀ c ∈ (printP t).data.toList, c ≠ (32 : UInt8) := by
  intro c hc
  unfold printP at hc
  split at hc
  · simp only [ByteArray.data_append, Array.toList_append, List.mem_append] at hc
    rcases hc with (((hc | hc) | hc) | hc) | hc
    · exact itoa_sp _ c (by simpa [txtP] using hc)
    · simp [slashS] at hc; subst hc; decide
    · exact two_sp _ c hc
    · simp [colonS] at hc; subst hc; decide
    · exact two_sp _ c hc
  · simp at hc
theorem time_word {t : Int} (h : timeB t = true) : timeW ((printP t).data.toList ++ [58]) = some t := by
  obtain ⟨h1, _⟩ := print_parse h
  unfold timeW
  rw [List.dropLast_concat, h1]
  simp
/-- A valid message's words. -/
structure MsOk (V : List Dv) (M : Ms) : Prop where
  cr : nameB M.cr.data.toList = true
  t : timeB M.t = true
  l1 : 1 ≤ M.rs.length
  l2 : M.rs.length ≤ 32
  rs : ∀ r ∈ M.rs, (0 ≤ r.d ∧ r.d < V.length) ∧ (r.p = 1 ∨ r.p = 2) ∧ r.s = 2 ∧ r.t = M.t
theorem repE_iff (m t : Int) : ∀ R : List Rp, repE m t R = 0 ↔ ∀ r ∈ R, (0 ≤ r.d ∧ r.d < m) ∧ (r.p = 1 ∨ r.p = 2) ∧ r.s = 2 ∧ r.t = t
  | [] => by simp [repE]
  | r :: l => by
    rw [repE, List.forall_mem_cons, ← repE_iff m t l]
    by_cases h1 : r.d < 0 ∨ m ≤ r.d
    · rw [if_pos h1]; exact ⟨fun e => (by cases e), fun e => by omega⟩
    rw [if_neg h1]
    by_cases h2 : r.p ≠ 1 ∧ r.p ≠ 2
    · rw [if_pos h2]; exact ⟨fun e => (by cases e), fun e => by omega⟩
    rw [if_neg h2]
    by_cases h3 : r.s ≠ 2
    · rw [if_pos h3]; exact ⟨fun e => (by cases e), fun e => absurd e.1.2.2.1 h3⟩
    rw [if_neg h3]
    by_cases h4 : r.t ≠ t
    · rw [if_pos h4]; exact ⟨fun e => (by cases e), fun e => absurd e.1.2.2.2 h4⟩
    rw [if_neg h4]
    exact ⟨fun e => ⟨by omega, e⟩, fun e => e.2⟩
theorem msgE_iff {N : List Nd} {V : List Dv} {M : Ms} : msgE N V M = 0 ↔ netE N V = 0 ∧ MsOk V M := by
  unfold msgE
  by_cases h0 : netE N V = 0
  · rw [if_neg (by simpa using h0)]
    by_cases h1 : nameB M.cr.data.toList = true
    · rw [if_neg (by rw [h1]; simp)]
      by_cases h2 : M.t < 0 ∨ 16777216 < M.t
      · rw [if_pos h2]; exact ⟨fun e => (by cases e), fun e => by have := timeB_iff.1 e.2.t; omega⟩
      rw [if_neg h2]
      by_cases h3 : M.rs.length = 0
      · rw [if_pos h3]; exact ⟨fun e => (by cases e), fun e => by have := e.2.l1; omega⟩
      rw [if_neg h3]
      by_cases h4 : 32 < M.rs.length
      · rw [if_pos h4]; exact ⟨fun e => (by cases e), fun e => by have := e.2.l2; omega⟩
      rw [if_neg h4, repE_iff]
      exact ⟨fun e => ⟨h0, h1, timeB_iff.2 (by omega), by omega, by omega, e⟩, fun e => e.2.rs⟩
    · rw [if_pos (by simpa using h1)]; exact ⟨fun e => (by cases e), fun e => absurd e.2.cr h1⟩
  · rw [if_pos h0]; exact ⟨fun e => absurd e h0, fun e => absurd e.1 h0⟩
theorem devN_at {V : List Dv} {d : Int} (h : 0 ≤ d ∧ d < V.length) : ∃ x, V[d.toNat]? = some x ∧ devN V d = x.n.data.toList := by
  obtain ⟨x, hx⟩ := some_at (L := V) (k := d.toNat) (by omega)
  exact ⟨x, hx, by unfold devN; rw [hx]⟩
theorem posW_ok (p : Int) : posW p = openL ∨ posW p = closedL := by unfold posW; split <;> simp
theorem howW_ok (b : Bool) : howW b = seenL ∨ howW b = toldL := by unfold howW; split <;> simp
theorem msg_words {N : List Nd} {V : List Dv} {M : Ms} (hn : netE N V = 0) (h : MsOk V M) : ∀ w ∈ msgW V M, (w ≠ [] ∧ ∀ c ∈ w, c ≠ 32) ∧ w.length ≤ 101 := by
  obtain ⟨hN, _⟩ := net_names hn
  intro w hw
  unfold msgW headW at hw
  rcases List.mem_append.1 hw with hw | hw
  · simp only [List.mem_cons, List.not_mem_nil, or_false] at hw
    rcases hw with rfl | rfl | rfl
    · have := name_sp h.cr; exact ⟨⟨this.1, this.2.1⟩, by omega⟩
    · exact ⟨⟨by decide, by decide⟩, by decide⟩
    · refine ⟨⟨by simp, fun c hc => ?_⟩, ?_⟩
      · rcases List.mem_append.1 hc with hc | hc
        · exact print_sp _ c hc
        · simp at hc; subst hc; decide
      · have := (print_parse h.t).2.2.2
        have e : (printP M.t).size = (printP M.t).data.toList.length := by simp
        rw [List.length_append]
        simp only [List.length_cons, List.length_nil]
        omega
  · obtain ⟨r, hr, hw⟩ := List.mem_flatMap.1 hw
    obtain ⟨x, hx, e⟩ := devN_at (h.rs r hr).1
    simp only [repW, List.mem_cons, List.not_mem_nil, or_false] at hw
    rcases hw with rfl | rfl | rfl
    · rw [e]
      have := name_sp (hN x (List.mem_of_getElem? hx))
      exact ⟨⟨this.1, this.2.1⟩, by omega⟩
    · rcases posW_ok r.p with e | e <;> rw [e] <;> exact ⟨⟨by decide, by decide⟩, by decide⟩
    · rcases howW_ok r.b with e | e <;> rw [e] <;> exact ⟨⟨by decide, by decide⟩, by decide⟩
theorem flat3 (V : List Dv) : ∀ R : List Rp, (R.flatMap (repW V)).length = 3 * R.length
  | [] => rfl
  | r :: l => by rw [List.flatMap_cons, List.length_append, flat3 V l]; simp [repW]; omega
theorem readT_rep {N : List Nd} {V : List Dv} (hn : netE N V = 0) (t : Int) : ∀ R : List Rp, (∀ r ∈ R, (0 ≤ r.d ∧ r.d < V.length) ∧ (r.p = 1 ∨ r.p = 2) ∧ r.s = 2 ∧ r.t = t) →
    ∃ Q Ns, readT t (R.flatMap (repW V)) = some (Q, Ns) ∧ putD V Q Ns = some R
  | [], _ => ⟨[], [], rfl, rfl⟩
  | r :: l, h => by
    obtain ⟨hN, hD⟩ := net_names hn
    obtain ⟨Q, Ns, i1, i2⟩ := readT_rep hn t l (fun x hx => h x (by simp [hx]))
    obtain ⟨h1, h2, h3, h4⟩ := h r (by simp)
    obtain ⟨x, hx, e⟩ := devN_at h1
    have hrep : repR t (devN V r.d) (posW r.p) (howW r.b) = some ⟨0, r.p, 2, t, r.b⟩ := by
      unfold repR
      rw [if_pos ⟨by rw [e]; exact hN x (List.mem_of_getElem? hx), posW_ok _, howW_ok _⟩]
      have e1 : (if posW r.p = closedL then (2 : Int) else 1) = r.p := by
        unfold posW
        rcases h2 with h2 | h2 <;> rw [h2] <;> decide
      have e2 : decide (howW r.b = toldL) = r.b := by
        unfold howW
        cases r.b <;> decide
      rw [e1, e2]
    refine ⟨⟨0, r.p, 2, t, r.b⟩ :: Q, devN V r.d :: Ns, ?_, ?_⟩
    · rw [List.flatMap_cons]
      show readT t (devN V r.d :: posW r.p :: howW r.b :: l.flatMap (repW V)) = _
      rw [readT, hrep]
      simp only [i1]
    · have hd : devI (devN V r.d) 0 V = r.d := by
        rw [e, devI_at V 0 _ x hD hx]; omega
      rw [putD, hd, if_neg (by omega), i2]
      simp only
      rw [← h3, ← h4]
/-- The text of a valid message leads back to it. -/
theorem parse_msg {N : List Nd} {V : List Dv} {M : Ms} (h : msgE N V M = 0) {s : List UInt8} (hs : wordsL s = msgW V M) : parseM N V s = (M, 0) := by
  obtain ⟨hn, ok⟩ := msgE_iff.1 h
  unfold parseM
  rw [if_neg (by simpa using hn), hs]
  have hl : (msgW V M).length = 3 + 3 * M.rs.length := by unfold msgW headW; rw [List.length_append, flat3]; rfl
  have := ok.l1
  have := ok.l2
  obtain ⟨Q, Ns, i1, i2⟩ := readT_rep hn M.t M.rs ok.rs
  unfold parseW readW
  have w0 : wAt (msgW V M) 0 = M.cr.data.toList := rfl
  have w1 : wAt (msgW V M) 1 = atL := rfl
  have w2 : wAt (msgW V M) 2 = (printP M.t).data.toList ++ [58] := rfl
  have wd : (msgW V M).drop 3 = M.rs.flatMap (repW V) := rfl
  rw [if_neg (by rw [hl, w0, ok.cr, w1]; simp; omega), w2, time_word ok.t, wd]
  simp only [i1, i2]
  rw [w0]
theorem joinW_len2 : ∀ (W : List (List UInt8)) (b : Nat), (∀ w ∈ W, w.length ≤ b) → (joinW W).length ≤ W.length * (b + 1)
  | [], b, _ => by simp [joinW_nil]
  | [w], b, h => by have := h w (by simp); rw [joinW_one]; simp; omega
  | w :: x :: r, b, h => by
    have h1 := h w (by simp)
    have h2 := joinW_len2 (x :: r) b (fun y hy => h y (List.mem_cons_of_mem _ hy))
    rw [joinW_cons, List.length_append]
    have e : (w :: x :: r).length = (x :: r).length + 1 := rfl
    rw [e, Nat.succ_mul]
    simp only [List.length_cons] at h2 ⊢
    omega
theorem msg_len {N : List Nd} {V : List Dv} {M : Ms} (hn : netE N V = 0) (h : MsOk V M) : (joinW (msgW V M)).length ≤ 20000 := by
  have h1 := joinW_len2 (msgW V M) 101 (fun w hw => (msg_words hn h w hw).2)
  have hl : (msgW V M).length = 3 + 3 * M.rs.length := by unfold msgW headW; rw [List.length_append, flat3]; rfl
  have := h.l2
  omega
/-- The text of a valid message, read again. -/
theorem words_msg {N : List Nd} {V : List Dv} {M : Ms} (hn : netE N V = 0) (h : MsOk V M) : wordsL (joinW (msgW V M)) = msgW V M := words_join fun w hw => (msg_words hn h w hw).1
end Go.Proofs.YtgpglcccjkpmdaaDoor
