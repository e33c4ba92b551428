/- The texts of documents, by plain functions: what is printed, what a text is read as, and that the text of a valid document leads back to it; nothing of the program stands here / Texts with more spaces, and that different documents have different texts, by plain functions; nothing of the program stands here. -/
import Derived.Test.YtjamibeffalhaaaGreatDoorDcP
import Derived.Test.YtjamibeffalhaaaGreatDoorGnA
set_option linter.unusedVariables false
set_option linter.unusedSimpArgs false
namespace Go.Proofs.YtjamibeffalhaaaGreatDoor
open Go Go.RowKit
def permitL : List UInt8 := [112, 101, 114, 109, 105, 116]
def testL : List UInt8 := [116, 101, 115, 116]
def limitL : List UInt8 := [108, 105, 109, 105, 116, 97, 116, 105, 111, 110]
def prepL : List UInt8 := [112, 114, 101, 112, 97, 114, 101, 100]
def issuedL : List UInt8 := [105, 115, 115, 117, 101, 100]
def forceL : List UInt8 := [102, 111, 114, 99, 101]
def suspL : List UInt8 := [115, 117, 115, 112, 101, 110, 100, 101, 100]
def clearL : List UInt8 := [99, 108, 101, 97, 114, 101, 100]
def openL : List UInt8 := [111, 112, 101, 110]
def closedL : List UInt8 := [99, 108, 111, 115, 101, 100]
def lockL : List UInt8 := [108, 111, 99, 107]
def keyL : List UInt8 := [107, 101, 121]
def zoneL : List UInt8 := [122, 111, 110, 101]
def certL : List UInt8 := [99, 101, 114, 116, 105, 102, 105, 99, 97, 116, 101]
def stateL : List UInt8 := [115, 116, 97, 116, 101]
def roundL : List UInt8 := [114, 111, 117, 110, 100]
def safeL : List UInt8 := [115, 97, 102, 101]
def issuerL : List UInt8 := [105, 115, 115, 117, 101, 114]
def holderL : List UInt8 := [104, 111, 108, 100, 101, 114]
def fromL : List UInt8 := [102, 114, 111, 109]
def untilL : List UInt8 := [117, 110, 116, 105, 108]
def qC : List (List UInt8) := [[], permitL, testL, limitL]
def jX : List (List UInt8) := [[], prepL, issuedL, forceL, suspL, clearL]
def posL : List (List UInt8) := [[], openL, closedL]
def jM : List (List UInt8) := [[], [], stateL, [], roundL, [], safeL, [], issuerL, [], holderL, [], fromL, [], untilL, []]
def qG (d : Dc) : List (List UInt8) := [wAt qC d.kind.toNat, Lib.itoa d.num, stateL, wAt jX d.st.toNat, roundL, Lib.itoa d.rd, safeL, Lib.itoa d.safe, issuerL, d.iss.data.toList, holderL, d.hol.data.toList, fromL, Lib.itoa d.f, untilL, Lib.itoa d.u]
def qI (N : List Nd) (d : Dc) : List (List UInt8) := zoneL :: d.zone.map (nodN N)
def jd (V : List Dv) (k : Lk) : List (List UInt8) := [lockL, devN V k.d, wAt posL k.p.toNat, keyL, Lib.itoa k.k]
def qe (c : Int) : List (List UInt8) := [certL, Lib.itoa c]
def yx (N : List Nd) (V : List Dv) (d : Dc) : List (List UInt8) := yh (qG d) :: yh (qI N d) :: (d.lk.map (fun k => yh (jd V k)) ++ d.ce.map (fun c => yh (qe c)))
def jq (N : List Nd) (V : List Dv) (d : Dc) : ByteArray × Int := if docE N V d ≠ 0 then (⟨#[]⟩, docE N V d) else (strL (yd (yx N V d)), 0)
def Dc.zer : Dc := ⟨0, 0, 0, 0, [], 0, [], ⟨#[]⟩, ⟨#[]⟩, 0, 0, []⟩
def numT (w : List UInt8) : Option Int := numP w 16777216
/-- The words at the open places of a pattern, where the others agree. -/
def valR : List (List UInt8) → List (List UInt8) → List (List UInt8) → Option (List (List UInt8))
  | [], _, A => some A
  | _ :: _, [], _ => none
  | p :: P, w :: W, A => if p = [] then valR P W (A ++ [w]) else if p = w then valR P W A else none
def okI (i : Int) (e : Int) : Int := if i < 1 then 2 else e
def okN (q : Option Int) (e : Int) : Int := if q.isSome then e else 2
/-- The document of nine words, and its error. -/
def valD (A : List (List UInt8)) : Dc := ⟨(numT (wAt A 1)).getD 0, idxL (wAt A 0) 0 qC, idxL (wAt A 2) 0 jX, (numT (wAt A 3)).getD 0, [], (numT (wAt A 4)).getD 0, [], strL (wAt A 5), strL (wAt A 6), (numT (wAt A 7)).getD 0, (numT (wAt A 8)).getD 0, []⟩
def valE (A : List (List UInt8)) : Int := okN (numT (wAt A 8)) (okN (numT (wAt A 7)) (okN (numT (wAt A 4)) (okN (numT (wAt A 3)) (okI (idxL (wAt A 2) 0 jX) (okN (numT (wAt A 1)) (okI (idxL (wAt A 0) 0 qC) 0))))))
def firstS (d : Dc) (W : List (List UInt8)) : Dc × Int := if W.length ≠ 16 then (d, 2) else match valR jM W [] with
  | none => (d, 2)
  | some A => (valD A, valE A)
def zGo (N : List Nd) : List (List UInt8) → List Int → List Int × Int
  | [], Z => (Z, 0)
  | w :: l, Z => if nodI w 0 N < 0 then (Z, 7) else zGo N l (Z ++ [nodI w 0 N])
def zoneS (N : List Nd) (Z : List Int) (W : List (List UInt8)) : List Int × Int := if wAt W 0 ≠ zoneL then (Z, 2) else zGo N (W.drop 1) Z
def lockE (i : Int) (q : Option Int) (v : Int) : Int := if okN q (okI i 0) = 0 ∧ v < 0 then 8 else okN q (okI i 0)
def jn (V : List Dv) (K : List Lk) (C : List Int) (W : List (List UInt8)) : List Lk × Int :=
  if W.length ≠ 5 ∨ wAt W 3 ≠ keyL ∨ C ≠ [] then (K, 2) else (K ++ [⟨devI (wAt W 1) 0 V, idxL (wAt W 2) 0 posL, (numT (wAt W 4)).getD 0⟩], lockE (idxL (wAt W 2) 0 posL) (numT (wAt W 4)) (devI (wAt W 1) 0 V))
def certS (C : List Int) (W : List (List UInt8)) : List Int × Int := if W.length ≠ 2 then (C, 2) else (C ++ [(numT (wAt W 1)).getD 0], okN (numT (wAt W 1)) 0)
/-- One more line of locks or certificates. -/
def je (V : List Dv) (K : List Lk) (C : List Int) (W : List (List UInt8)) : List Lk × List Int × Int :=
  if W.length = 0 then (K, C, 2) else if wAt W 0 = lockL then ((jn V K C W).1, C, (jn V K C W).2) else if wAt W 0 = certL then (K, (certS C W).1, (certS C W).2) else (K, C, 2)
/-- The locks and certificates of lines from a number on. -/
def jw (V : List Dv) : Nat → List Lk → List Int → List (List UInt8) → Except (Int × Int) (List Lk × List Int)
  | _, K, C, [] => .ok (K, C)
  | i, K, C, l :: ls => if (je V K C (yK l)).2.2 ≠ 0 then .error ((i : Int) + 1, (je V K C (yK l)).2.2) else jw V (i + 1) (je V K C (yK l)).1 (je V K C (yK l)).2.1 ls
def jK (W : List (List UInt8)) : Dc × Int := if W.length = 0 then (Dc.zer, 2) else firstS Dc.zer W
def qT (N : List Nd) (W : List (List UInt8)) : List Int × Int := if W.length = 0 then ([], 2) else zoneS N [] W
def goD (N : List Nd) (V : List Dv) : List (List UInt8) → Except (Int × Int) Dc
  | [] => .error (1, 2)
  | a :: l => if (jK (yK a)).2 ≠ 0 then .error (1, (jK (yK a)).2) else match l with
    | [] => .error (2, 2)
    | b :: ls => if (qT N (yK b)).2 ≠ 0 then .error (2, (qT N (yK b)).2) else match jw V 2 [] [] ls with
      | .error e => .error e
      | .ok (K, C) => .ok { (jK (yK a)).1 with zone := (qT N (yK b)).1, lk := K, ce := C }
def endD (N : List Nd) (V : List Dv) : Except (Int × Int) Dc → Dc × Int × Int
  | .error (i, e) => (Dc.zer, i, e)
  | .ok d => if docE N V d ≠ 0 then (Dc.zer, 0, docE N V d) else (d, 0, 0)
def jm (N : List Nd) (V : List Dv) (s : List UInt8) : Dc × Int × Int :=
  if netE N V ≠ 0 then (Dc.zer, 0, netE N V) else match jr s with
  | none => (Dc.zer, 0, 2)
  | some L => endD N V (goD N V L)
theorem itoa_wd2 {n : Int} (h1 : 0 ≤ n) (h2 : n ≤ 16777216) : WdOk (Lib.itoa n) := ⟨itoa_ne n, itoa_sp n, itoa_okC n, itoa_len (by omega) (by omega)⟩
theorem qM {n : Int} (h1 : 0 ≤ n) (h2 : n ≤ 16777216) : numT (Lib.itoa n) = some n := by unfold numT; rw [numP_itoa, if_neg (by omega), if_pos (by omega)]
theorem kind_at {k : Int} (h : 1 ≤ k ∧ k ≤ 3) : WdOk (wAt qC k.toNat) ∧ idxL (wAt qC k.toNat) 0 qC = k := by
  rcases (by omega : k = 1 ∨ k = 2 ∨ k = 3) with e | e | e <;> subst e <;> exact ⟨by decide, by decide⟩
theorem state_at {k : Int} (h : 1 ≤ k ∧ k ≤ 5) : WdOk (wAt jX k.toNat) ∧ idxL (wAt jX k.toNat) 0 jX = k := by
  rcases (by omega : k = 1 ∨ k = 2 ∨ k = 3 ∨ k = 4 ∨ k = 5) with e | e | e | e | e <;> subst e <;> exact ⟨by decide, by decide⟩
theorem pos_at {k : Int} (h : k = 1 ∨ k = 2) : WdOk (wAt posL k.toNat) ∧ idxL (wAt posL k.toNat) 0 posL = k := by
  rcases h with e | e <;> subst e <;> exact ⟨by decide, by decide⟩
theorem span_ok {f u : Int} (h : spanB f u = true) : 0 ≤ f ∧ f < u ∧ u ≤ 16777216 := by
  unfold spanB at h
  simp only [Bool.and_eq_true, decide_eq_true_eq] at h
  omega
section
variable {N : List Nd} {V : List Dv} {d : Dc}
theorem head_wd (h : DcOk N V d) : ∀ w ∈ qG d, WdOk w := by
  have hk := h.kind
  have hs := span_ok h.span
  unfold qG
  simp only [List.mem_cons, List.not_mem_nil, or_false]
  rintro w (rfl | rfl | rfl | rfl | rfl | rfl | rfl | rfl | rfl | rfl | rfl | rfl | rfl | rfl | rfl | rfl)
  · exact (kind_at h.kind).1
  · exact itoa_wd2 (by have := h.num; omega) (by have := h.num; omega)
  · decide
  · exact (state_at h.st).1
  · decide
  · exact itoa_wd2 (by have := h.rd; omega) (by have := h.rd; omega)
  · decide
  · exact itoa_wd2 (by have := h.safe; omega) (by have := h.safe; omega)
  · decide
  · exact name_wd h.iss
  · decide
  · exact name_wd h.hol
  · decide
  · exact itoa_wd2 (by omega) (by omega)
  · decide
  · exact itoa_wd2 (by omega) (by omega)
theorem zone_wd (h : DcOk N V d) : ∀ w ∈ qI N d, WdOk w := by
  intro w hw
  unfold qI at hw
  rcases List.mem_cons.1 hw with rfl | hw
  · decide
  · obtain ⟨z, hz, rfl⟩ := List.mem_map.1 hw
    obtain ⟨x, hx, e⟩ := nodN_at ((zone_ok h.zone).2.1 z hz)
    rw [e]
    exact name_wd ((net_nodes h.net).1 x (List.mem_of_getElem? hx))
theorem lock_wd (h : DcOk N V d) {k : Lk} (hk : k ∈ d.lk) : ∀ w ∈ jd V k, WdOk w := by
  obtain ⟨h1, h2, h3, h4⟩ := (lks_ok h.lk).2 k hk
  unfold jd
  simp only [List.mem_cons, List.not_mem_nil, or_false]
  rintro w (rfl | rfl | rfl | rfl | rfl)
  · decide
  · obtain ⟨x, hx, e⟩ := devN_at h1
    rw [e]
    exact name_wd ((net_names h.net).1 x (List.mem_of_getElem? hx))
  · exact (pos_at h2).1
  · decide
  · exact itoa_wd h3 h4
theorem cert_wd (h : DcOk N V d) {c : Int} (hc : c ∈ d.ce) : ∀ w ∈ qe c, WdOk w := by
  have h1 := (ces_ok h.ce).2 c hc
  unfold qe
  simp only [List.mem_cons, List.not_mem_nil, or_false]
  rintro w (rfl | rfl)
  · decide
  · exact itoa_wd (by omega) (by omega)
theorem ju (P W : List (List UInt8)) (w : List UInt8) (A : List (List UInt8)) : valR ([] :: P) (w :: W) A = valR P W (A ++ [w]) := by rw [valR, if_pos rfl]
theorem valR_eq {p : List UInt8} (h : p ≠ []) (P W : List (List UInt8)) (A : List (List UInt8)) : valR (p :: P) (p :: W) A = valR P W A := by rw [valR, if_neg h, if_pos rfl]
theorem head_val (d : Dc) : valR jM (qG d) [] = some [wAt qC d.kind.toNat, Lib.itoa d.num, wAt jX d.st.toNat, Lib.itoa d.rd, Lib.itoa d.safe, d.iss.data.toList, d.hol.data.toList, Lib.itoa d.f, Lib.itoa d.u] := by
  have e1 : stateL ≠ [] := by decide
  have e2 : roundL ≠ [] := by decide
  have e3 : safeL ≠ [] := by decide
  have e4 : issuerL ≠ [] := by decide
  have e5 : holderL ≠ [] := by decide
  have e6 : fromL ≠ [] := by decide
  have e7 : untilL ≠ [] := by decide
  unfold jM qG
  rw [ju, ju, valR_eq e1, ju, valR_eq e2, ju, valR_eq e3, ju, valR_eq e4, ju, valR_eq e5, ju, valR_eq e6, ju, valR_eq e7, ju, valR]
  rfl
theorem head_read (h : DcOk N V d) : jK (qG d) = ({ d with zone := [], lk := [], ce := [] }, 0) := by
  have hs := span_ok h.span
  have h1 := h.num
  have h2 := h.rd
  have h3 := h.safe
  unfold jK firstS
  rw [if_neg (show ¬ (qG d).length = 0 by simp [qG]), if_neg (show ¬ (qG d).length ≠ 16 by simp [qG]), head_val]
  have n1 := qM (n := d.num) (by omega) (by omega)
  have n2 := qM (n := d.rd) (by omega) (by omega)
  have n3 := qM (n := d.safe) (by omega) (by omega)
  have n4 := qM (n := d.f) (by omega) (by omega)
  have n5 := qM (n := d.u) (by omega) (by omega)
  have k1 := (kind_at h.kind).2
  have k2 := (state_at h.st).2
  have h4 := h.kind
  have h5 := h.st
  dsimp only
  unfold valD valE
  simp only [wAt, List.getElem?_cons_zero, List.getElem?_cons_succ, Option.getD_some]
  unfold wAt at k1 k2
  rw [n1, n2, n3, n4, n5, k1, k2]
  unfold okI
  rw [if_neg (by omega), if_neg (by omega)]
  rfl
theorem zGo_read (h : netE N V = 0) : ∀ (Z A : List Int), (∀ x ∈ Z, 0 ≤ x ∧ x < N.length) → zGo N (Z.map (nodN N)) A = (A ++ Z, 0)
  | [], A, _ => by simp [zGo]
  | z :: Z, A, hz => by
    obtain ⟨h0, h1⟩ := hz z (by simp)
    obtain ⟨x, hx, e⟩ := nodN_at ⟨h0, h1⟩
    have hi : nodI (nodN N z) 0 N = z := by rw [e, nodI_at N 0 _ x (net_nodes h).2 hx]; omega
    rw [List.map_cons, zGo, hi, if_neg (by omega), zGo_read h Z (A ++ [z]) (fun y hy => hz y (by simp [hy]))]
    simp
theorem zone_read (h : DcOk N V d) : qT N (qI N d) = (d.zone, 0) := by
  unfold qT zoneS
  rw [if_neg (by unfold qI; simp), if_neg (by simp [qI, wAt])]
  have := zGo_read h.net d.zone [] (zone_ok h.zone).2.1
  unfold qI
  rw [List.drop_succ_cons, List.drop_zero, this]
  simp
theorem lock_read (h : DcOk N V d) {k : Lk} (hk : k ∈ d.lk) (K : List Lk) : je V K [] (jd V k) = (K ++ [k], [], 0) := by
  obtain ⟨h1, h2, h3, h4⟩ := (lks_ok h.lk).2 k hk
  obtain ⟨x, hx, e⟩ := devN_at h1
  have hd : devI (devN V k.d) 0 V = k.d := by rw [e, devI_at V 0 _ x (net_names h.net).2 hx]; omega
  have hp := (pos_at h2).2
  have hn := qM h3 (by omega)
  have w0 : wAt (jd V k) 0 = lockL := rfl
  have w1 : wAt (jd V k) 1 = devN V k.d := rfl
  have w2 : wAt (jd V k) 2 = wAt posL k.p.toNat := rfl
  have w3 : wAt (jd V k) 3 = keyL := rfl
  have w4 : wAt (jd V k) 4 = Lib.itoa k.k := rfl
  unfold je jn
  rw [if_neg (by simp [jd]), if_pos w0, w1, w2, w3, w4, if_neg (by simp [jd]), hd, hp, hn]
  unfold lockE okN okI
  rw [if_neg (by omega)]
  simp only [Option.isSome_some, if_true, Option.getD_some]
  rw [if_neg (by omega)]
theorem cert_read (h : DcOk N V d) {c : Int} (hc : c ∈ d.ce) (K : List Lk) (C : List Int) : je V K C (qe c) = (K, C ++ [c], 0) := by
  have h1 := (ces_ok h.ce).2 c hc
  have hn := qM (n := c) (by omega) (by omega)
  have w0 : wAt (qe c) 0 = certL := rfl
  have w1 : wAt (qe c) 1 = Lib.itoa c := rfl
  unfold je certS
  rw [if_neg (by simp [qe]), if_neg (by rw [w0]; decide), if_pos w0, w1, if_neg (by simp [qe]), hn]
  rfl
theorem qX (i : Nat) (K : List Lk) (C : List Int) (l : List UInt8) (ls : List (List UInt8)) : jw V i K C (l :: ls) = if (je V K C (yK l)).2.2 ≠ 0 then .error ((i : Int) + 1, (je V K C (yK l)).2.2) else jw V (i + 1) (je V K C (yK l)).1 (je V K C (yK l)).2.1 ls := rfl
theorem locks_read (h : DcOk N V d) : ∀ (M K : List Lk) (i : Nat) (B : List (List UInt8)), (∀ k ∈ M, k ∈ d.lk) → jw V i K [] (M.map (fun k => yh (jd V k)) ++ B) = jw V (i + M.length) (K ++ M) [] B
  | [], K, i, B, _ => by simp
  | k :: M, K, i, B, hM => by
    have hk := hM k (by simp)
    rw [List.map_cons, List.cons_append, qX, wd_words (lock_wd h hk), lock_read h hk, if_neg (by simp), locks_read h M (K ++ [k]) (i + 1) B (fun x hx => hM x (by simp [hx]))]
    simp only [List.append_assoc, List.singleton_append, List.length_cons]
    congr 1
    omega
theorem certs_read (h : DcOk N V d) : ∀ (M C : List Int) (K : List Lk) (i : Nat), (∀ c ∈ M, c ∈ d.ce) → jw V i K C (M.map (fun c => yh (qe c))) = .ok (K, C ++ M)
  | [], C, K, i, _ => by simp [jw]
  | c :: M, C, K, i, hM => by
    have hc := hM c (by simp)
    rw [List.map_cons, qX, wd_words (cert_wd h hc), cert_read h hc, if_neg (by simp), certs_read h M (C ++ [c]) K (i + 1) (fun x hx => hM x (by simp [hx]))]
    simp
theorem lines_read (h : DcOk N V d) : goD N V (yx N V d) = .ok d := by
  unfold yx goD
  dsimp only
  rw [wd_words (head_wd h), head_read h, if_neg (by simp)]
  simp only
  rw [wd_words (zone_wd h), zone_read h, if_neg (by simp), locks_read h d.lk [] 2 _ (fun k hk => hk), certs_read h d.ce [] _ _ (fun c hc => hc)]
  rfl
theorem parse_lines {L : List (List UInt8)} {s : List UInt8} (h : DcOk N V d) (hs : jr s = some L) (hL : goD N V L = .ok d) : jm N V s = (d, 0, 0) := by
  unfold jm
  rw [if_neg (by simpa using h.net), hs]
  simp only
  rw [hL]
  unfold endD
  dsimp only
  rw [if_neg (by simpa using docE_iff.2 h)]
theorem lines_okD (h : DcOk N V d) : ∀ l ∈ yx N V d, ∀ c ∈ l, okC c := by
  intro l hl
  unfold yx at hl
  rcases List.mem_cons.1 hl with rfl | hl
  · exact (jj (head_wd h)).1
  rcases List.mem_cons.1 hl with rfl | hl
  · exact (jj (zone_wd h)).1
  rcases List.mem_append.1 hl with hl | hl
  · obtain ⟨k, hk, rfl⟩ := List.mem_map.1 hl
    exact (jj (lock_wd h hk)).1
  · obtain ⟨k, hk, rfl⟩ := List.mem_map.1 hl
    exact (jj (cert_wd h hk)).1
theorem txtOf_app (A B : List (List UInt8)) : yd (A ++ B) = yd A ++ yd B := by unfold yd; rw [List.flatMap_append]
theorem text_lenD (h : DcOk N V d) : (yd (yx N V d)).length ≤ 16000 := by
  have e : yx N V d = [yh (qG d), yh (qI N d)] ++ (d.lk.map (fun k => yh (jd V k)) ++ d.ce.map (fun c => yh (qe c))) := rfl
  have hn : N.length ≤ 32 := by
    have := h.net
    unfold netE at this
    split at this
    · cases this
    · omega
  have l1 := (jj (head_wd h)).2
  have l2 := (jj (zone_wd h)).2
  have c1 : (qG d).length = 16 := rfl
  have c2 : (qI N d).length ≤ 33 := by have := (zone_ok h.zone).2.2; unfold qI; simp; omega
  have t1 := txt_len (L := [yh (qG d), yh (qI N d)]) (b := 693) (fun l hl => by
    simp only [List.mem_cons, List.not_mem_nil, or_false] at hl
    rcases hl with rfl | rfl <;> omega)
  have t2 := txt_len (L := d.lk.map (fun k => yh (jd V k))) (b := 105) (fun l hl => by
    obtain ⟨k, hk, rfl⟩ := List.mem_map.1 hl
    have := (jj (lock_wd h hk)).2
    have e : (jd V k).length = 5 := rfl
    omega)
  have t3 := txt_len (L := d.ce.map (fun c => yh (qe c))) (b := 42) (fun l hl => by
    obtain ⟨k, hk, rfl⟩ := List.mem_map.1 hl
    have := (jj (cert_wd h hk)).2
    have e : (qe k).length = 2 := rfl
    omega)
  have h1 := (lks_ok h.lk).1
  have h2 := (ces_ok h.ce).1
  rw [List.length_map] at t2 t3
  have e3 : ([yh (qG d), yh (qI N d)] : List (List UInt8)).length = 2 := rfl
  rw [e3] at t1
  rw [e, txtOf_app, txtOf_app, List.length_append, List.length_append]
  omega
/-- The text of a valid document leads back to it. -/
theorem parse_text (h : DcOk N V d) : jm N V (yd (yx N V d)) = (d, 0, 0) :=
  parse_lines h (txt_lines (lines_okD h) (by have := text_lenD h; omega)) (lines_read h)
end
end Go.Proofs.YtjamibeffalhaaaGreatDoor
namespace Go.Proofs.YtjamibeffalhaaaGreatDoor
open Go Go.RowKit
/-- The second text is the first one with some of its spaces doubled. -/
inductive Wide : List UInt8 → List UInt8 → Prop
  | nil : Wide [] []
  | same (c : UInt8) {a b : List UInt8} : Wide a b → Wide (c :: a) (c :: b)
  | more {a b : List UInt8} : Wide a b → Wide (32 :: a) (32 :: 32 :: b)
theorem Wide.app {a b : List UInt8} (h : Wide a b) {c d : List UInt8} (h2 : Wide c d) : Wide (a ++ c) (b ++ d) := by
  induction h with
  | nil => exact h2
  | same c _ ih => exact .same c ih
  | more _ ih => exact .more ih
theorem Wide.snoc {a b : List UInt8} (h : Wide a b) (c : UInt8) : Wide (a ++ [c]) (b ++ [c]) := h.app (.same c .nil)
theorem Wide.snoc2 {a b : List UInt8} (h : Wide a b) : Wide (a ++ [32]) (b ++ [32, 32]) := h.app (.more .nil)
theorem Wide.refl : ∀ a : List UInt8, Wide a a
  | [] => .nil
  | c :: a => .same c (Wide.refl a)
theorem Wide.len {a b : List UInt8} (h : Wide a b) : b.length ≤ 2 * a.length := by
  induction h with
  | nil => simp
  | same c _ ih => simp; omega
  | more _ ih => simp; omega
theorem Wide.mem {a b : List UInt8} (h : Wide a b) : ∀ c ∈ b, c ∈ a ∨ c = 32 := by
  induction h with
  | nil => intro c hc; cases hc
  | same x _ ih =>
    intro c hc
    rcases List.mem_cons.1 hc with rfl | hc
    · simp
    · rcases ih c hc with e | e <;> simp [e]
  | more _ ih =>
    intro c hc
    simp only [List.mem_cons] at hc
    rcases hc with rfl | rfl | hc
    · simp
    · simp
    · rcases ih c hc with e | e <;> simp [e]
theorem wide_wl {a b : List UInt8} (h : Wide a b) : ∀ cur, wl cur b = wl cur a := by
  induction h with
  | nil => intro cur; rfl
  | same c _ ih => intro cur; rw [wl, wl, ih, ih]
  | more _ ih => intro cur; rw [wl, if_pos rfl, wl_space, wl, if_pos rfl, ih]
theorem wide_split : ∀ (l r : List UInt8) {w : List UInt8}, Wide (l ++ r) w → ∃ l' r', w = l' ++ r' ∧ Wide l l' ∧ Wide r r'
  | [], r, w, h => ⟨[], w, rfl, .nil, h⟩
  | c :: l, r, w, h => by
    rw [List.cons_append] at h
    cases h with
    | same _ h =>
      obtain ⟨l', r', e, h1, h2⟩ := wide_split l r h
      exact ⟨c :: l', r', by rw [e]; rfl, .same c h1, h2⟩
    | more h =>
      obtain ⟨l', r', e, h1, h2⟩ := wide_split l r h
      exact ⟨32 :: 32 :: l', r', by rw [e]; rfl, .more h1, h2⟩
inductive WideL : List (List UInt8) → List (List UInt8) → Prop
  | nil : WideL [] []
  | cons {a b : List UInt8} {A B : List (List UInt8)} : Wide a b → WideL A B → WideL (a :: A) (b :: B)
theorem wide_lines : ∀ (L : List (List UInt8)) {w : List UInt8}, Wide (yd L) w → ∃ M, w = yd M ∧ WideL L M
  | [], w, h => by
    have e : yd [] = [] := rfl
    rw [e] at h
    cases h
    exact ⟨[], rfl, .nil⟩
  | l :: L, w, h => by
    have e : yd (l :: L) = l ++ ([10] ++ yd L) := by simp [yd]
    rw [e] at h
    obtain ⟨l', r, e1, h1, h2⟩ := wide_split l _ h
    obtain ⟨n', r', e2, h3, h4⟩ := wide_split [10] _ h2
    obtain ⟨M, e3, h5⟩ := wide_lines L h4
    have en : n' = [10] := by
      cases h3 with
      | same _ h => cases h; rfl
    exact ⟨l' :: M, by rw [e1, e2, e3, en]; simp [yd], .cons h1 h5⟩
theorem WideL.ok {L M : List (List UInt8)} (h : WideL L M) (hl : ∀ l ∈ L, ∀ c ∈ l, okC c) : ∀ l ∈ M, ∀ c ∈ l, okC c := by
  induction h with
  | nil => intro l h; cases h
  | cons h1 h2 ih =>
    intro l hm c hc
    rcases List.mem_cons.1 hm with rfl | hm
    · rcases h1.mem c hc with e | e
      · exact hl _ (by simp) c e
      · rw [e]; decide
    · exact ih (fun x hx => hl x (by simp [hx])) l hm c hc
variable {N : List Nd} {V : List Dv} {d : Dc}
theorem wide_rest {L M : List (List UInt8)} (h : WideL L M) : ∀ (i : Nat) (K : List Lk) (C : List Int), jw V i K C M = jw V i K C L := by
  induction h with
  | nil => intro i K C; rfl
  | cons h1 h2 ih =>
    intro i K C
    have e := wide_wl h1 []
    rw [qX, qX]
    unfold yK
    rw [e, ih]
theorem wide_go {L M : List (List UInt8)} (h : WideL L M) : goD N V M = goD N V L := by
  cases h with
  | nil => rfl
  | cons h1 h2 =>
    have e := wide_wl h1 []
    unfold goD
    unfold yK
    dsimp only
    rw [e]
    cases h2 with
    | nil => rfl
    | cons h3 h4 =>
      have e2 := wide_wl h3 []
      dsimp only
      rw [e2, wide_rest h4]
/-- The text of a valid document with more spaces leads back to it. -/
theorem parse_wide (h : DcOk N V d) {w : List UInt8} (hw : Wide (yd (yx N V d)) w) : jm N V w = (d, 0, 0) := by
  obtain ⟨M, e, hm⟩ := wide_lines _ hw
  have hl := hw.len
  have ht := text_lenD h
  rw [e] at hl ⊢
  exact parse_lines h (txt_lines (hm.ok (lines_okD h)) (by omega)) (by rw [wide_go hm]; exact lines_read h)
/-- Different documents have different texts. -/
theorem text_apart {e : Dc} (h : DcOk N V d) (h2 : DcOk N V e) : yd (yx N V d) = yd (yx N V e) ↔ d = e := by
  refine ⟨fun q => ?_, fun q => by rw [q]⟩
  have h1 := parse_text h
  rw [q, parse_text h2] at h1
  exact (congrArg Prod.fst h1).symm
end Go.Proofs.YtjamibeffalhaaaGreatDoor
