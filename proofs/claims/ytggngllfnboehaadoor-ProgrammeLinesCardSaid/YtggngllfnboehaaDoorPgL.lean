/- permitofficelaw17.ProgrammeLines, by the abstract machine: it answers true for all lists and numbers; conditions: the tables of classes, powers and places and a cell of the library stand. -/
import Derived.Test.YtggngllfnboehaaDoorPgJ
set_option linter.unusedVariables false
set_option linter.unusedSimpArgs false
namespace Go.Proofs.YtggngllfnboehaaDoor
open Go Go.RowKit
set_option maxRecDepth 10000
variable {G : Nat → Option (List Value)}
def remL : List UInt8 := [32, 32, 35, 32, 114, 101, 109, 97, 114, 107]
def rmT : List UInt8 := [32, 32, 35, 32, 114, 101, 109, 97, 114, 107, 10, 10]
/-- A text with remarks behind its lines, as the deck wants it. -/
def wsS (x : List UInt8 × Nat × Dk) (c : UInt8) : List UInt8 × Nat × Dk :=
  if c = 10 then (if x.2.2.val 3 = 0 then (x.1 ++ [10] ++ rmT, x.2.1 + 3, x.2.2.next) else (x.1 ++ [10], x.2.1 + 1, x.2.2.next)) else (x.1 ++ [c], x.2.1, x.2.2)
def wsN (L : List UInt8) (D : Dk) (i : Nat) : List UInt8 × Nat × Dk := (L.take i).foldl wsS ([10], 1, D)
theorem wsN_next {L : List UInt8} {D : Dk} {i : Nat} {c : UInt8} (h : L[i]? = some c) : wsN L D (i + 1) = wsS (wsN L D i) c := by
  unfold wsN
  rw [take_at h, List.foldl_append]; rfl
theorem wsS_ok {x : List UInt8 × Nat × Dk} {c : UInt8} (h : DkOk x.2.2) : DkOk (wsS x c).2.2 := by
  unfold wsS
  split
  · split <;> exact h.next
  · exact h
theorem wsN_ok {L : List UInt8} {D : Dk} (h : DkOk D) : ∀ i, DkOk (wsN L D i).2.2
  | 0 => h
  | i + 1 => by
    cases hc : L[i]? with
    | none =>
      have : L.length ≤ i := by simpa using hc
      unfold wsN
      rw [List.take_of_length_le (by omega)]
      have h2 := wsN_ok h (L := L) i
      unfold wsN at h2
      rwa [List.take_of_length_le this] at h2
    | some c => rw [wsN_next hc]; exact wsS_ok (wsN_ok h i)
theorem wsN_len (L : List UInt8) (D : Dk) : ∀ i, i ≤ L.length → (wsN L D i).1.length ≤ 13 * i + 1 ∧ (wsN L D i).2.1 ≤ 3 * i + 1
  | 0, _ => ⟨by simp [wsN], by simp [wsN]⟩
  | i + 1, hi => by
    obtain ⟨c, hc⟩ := some_at (L := L) (k := i) (by omega)
    obtain ⟨i1, i2⟩ := wsN_len L D i (by omega)
    rw [wsN_next hc]
    unfold wsS
    split
    · split
      · simp only [List.length_append, List.length_cons, List.length_nil, rmT]; omega
      · simp only [List.length_append, List.length_cons, List.length_nil]; omega
    · simp only [List.length_append, List.length_cons, List.length_nil]; omega
theorem fold_plain : ∀ (l : List UInt8) (w : List UInt8) (n : Nat) (D : Dk), (∀ c ∈ l, c ≠ 10) → l.foldl wsS (w, n, D) = (w ++ l, n, D)
  | [], w, n, D, _ => by simp
  | c :: l, w, n, D, h => by
    have e : wsS (w, n, D) c = (w ++ [c], n, D) := by unfold wsS; rw [if_neg (h c (by simp))]
    rw [List.foldl_cons, e, fold_plain l _ n D (fun x hx => h x (by simp [hx]))]
    simp
section
variable {N : List Nd} {V : List Dv}
theorem goL_split {i : Nat} {nm : Option (List UInt8)} {S : List St} {l : List UInt8} {L : List (List UInt8)} {r : Option (List UInt8) × List St} (h : goL N V i nm S (l :: L) = .ok r) :
    ∃ nm' S', (∀ i', goL N V i' nm S [l] = .ok (nm', S')) ∧ goL N V (i + 1) nm' S' L = .ok r := by
  rw [goL_cons] at h
  split at h
  · rename_i h1
    exact ⟨nm, S, fun i' => by rw [goL_cons, if_pos h1, goL_nil], h⟩
  rename_i h1
  cases nm with
  | none =>
    simp only at h
    split at h
    · cases h
    rename_i h2
    exact ⟨_, _, fun i' => by rw [goL_cons, if_neg h1]; simp only; rw [if_neg h2, goL_nil], h⟩
  | some n =>
    simp only at h
    split at h
    · cases h
    rename_i h2
    exact ⟨_, _, fun i' => by rw [goL_cons, if_neg h1]; simp only; rw [if_neg h2, goL_nil], h⟩
theorem skip_rem : (wordsL remL).length = 0 ∨ (wAt (wordsL remL) 0)[0]? = some 35 := by decide +kernel
theorem skip_nil : (wordsL []).length = 0 ∨ (wAt (wordsL []) 0)[0]? = some 35 := by decide +kernel
def LnOk (l : List UInt8) : Prop := (∀ c ∈ l, okC c) ∧ l.length ≤ 105
instance (l : List UInt8) : Decidable (LnOk l) := by unfold LnOk; infer_instance
theorem rem_ok : LnOk remL := by decide
theorem nil_ok : LnOk [] := by decide
theorem wide_lines : ∀ (L : List (List UInt8)), (∀ l ∈ L, LnOk l) → ∀ (w : List UInt8) (n : Nat) (D : Dk), ∃ W' D', (txtOf L).foldl wsS (w, n, D) = (w ++ txtOf W', n + W'.length, D') ∧ W'.length ≤ 3 * L.length ∧ (∀ l ∈ W', LnOk l) ∧
    ∀ nm S r i, goL N V i nm S L = .ok r → ∀ i', goL N V i' nm S W' = .ok r
  | [], _, w, n, D => ⟨[], D, by simp [txtOf], by simp, by simp, fun nm S r i h i' => by rw [goL_nil] at h ⊢; exact h⟩
  | l :: L, h, w, n, D => by
    have hl := h l (by simp)
    have hno : ∀ c ∈ l, c ≠ 10 := fun c hc e => by
      have := (hl.1 c hc).1
      rw [e] at this
      exact absurd this (by decide)
    have et : txtOf (l :: L) = l ++ ([10] ++ txtOf L) := by unfold txtOf; rw [List.flatMap_cons, List.append_assoc]
    rw [et, List.foldl_append, fold_plain l w n D hno, List.foldl_append]
    by_cases hv : D.val 3 = 0
    · have e : [(10 : UInt8)].foldl wsS (w ++ l, n, D) = (w ++ l ++ [10] ++ rmT, n + 3, D.next) := by
        show wsS (w ++ l, n, D) 10 = _
        unfold wsS
        rw [if_pos rfl, if_pos hv]
      rw [e]
      obtain ⟨W', D', i1, i2, i3, i4⟩ := wide_lines L (fun x hx => h x (by simp [hx])) (w ++ l ++ [10] ++ rmT) (n + 3) D.next
      refine ⟨l :: remL :: [] :: W', D', ?_, by simp only [List.length_cons]; omega, ?_, fun nm S r i hg i' => ?_⟩
      · rw [i1]
        simp only [Prod.mk.injEq, List.length_cons]
        exact ⟨by simp [txtOf, remL, rmT], by omega, trivial⟩
      · intro x hx
        rcases List.mem_cons.1 hx with rfl | hx
        · exact hl
        rcases List.mem_cons.1 hx with rfl | hx
        · exact rem_ok
        rcases List.mem_cons.1 hx with rfl | hx
        · exact nil_ok
        exact i3 x hx
      · obtain ⟨nm', S', h1, h2⟩ := goL_split hg
        have := goL_app [l] (B := remL :: [] :: W') (h1 i')
        rw [List.singleton_append] at this
        rw [this, goL_skip skip_rem, goL_skip skip_nil]
        exact i4 _ _ _ _ h2 _
    · have e : [(10 : UInt8)].foldl wsS (w ++ l, n, D) = (w ++ l ++ [10], n + 1, D.next) := by
        show wsS (w ++ l, n, D) 10 = _
        unfold wsS
        rw [if_pos rfl, if_neg hv]
      rw [e]
      obtain ⟨W', D', i1, i2, i3, i4⟩ := wide_lines L (fun x hx => h x (by simp [hx])) (w ++ l ++ [10]) (n + 1) D.next
      refine ⟨l :: W', D', ?_, by simp only [List.length_cons]; omega, ?_, fun nm S r i hg i' => ?_⟩
      · rw [i1]
        simp only [Prod.mk.injEq, List.length_cons]
        exact ⟨by simp [txtOf], by omega, trivial⟩
      · intro x hx
        rcases List.mem_cons.1 hx with rfl | hx
        · exact hl
        exact i3 x hx
      · obtain ⟨nm', S', h1, h2⟩ := goL_split hg
        have := goL_app [l] (B := W') (h1 i')
        rw [List.singleton_append] at this
        rw [this]
        exact i4 _ _ _ _ h2 _
/-- The wide text of a programme. -/
theorem wide_spec {P : Pg} (h : PgOk N V P) (D : Dk) : ∃ W : List (List UInt8), (wsN (txtOf (linesP N V P)) D (txtOf (linesP N V P)).length).1 = txtOf W ∧ (wsN (txtOf (linesP N V P)) D (txtOf (linesP N V P)).length).2.1 = W.length ∧ W.length ≤ 200 ∧ (∀ l ∈ W, LnOk l) ∧ goL N V 0 none [] W = .ok (some P.n.data.toList, P.st) := by
  obtain ⟨W', D', i1, i2, i3, i4⟩ := wide_lines (N := N) (V := V) (linesP N V P) (lines_okP h) [10] 1 D
  have hl : (linesP N V P).length = P.st.length + 1 := by unfold linesP; simp
  have := h.l
  refine ⟨[] :: W', ?_, ?_, by rw [List.length_cons]; omega, ?_, ?_⟩
  · unfold wsN
    rw [List.take_length, i1]; rfl
  · unfold wsN
    rw [List.take_length, i1, List.length_cons]; exact Nat.add_comm _ _
  · intro x hx
    rcases List.mem_cons.1 hx with rfl | hx
    · exact nil_ok
    · exact i3 x hx
  · rw [goL_skip skip_nil]
    exact i4 _ _ _ _ (lines_go h) _
theorem W_lines {W : List (List UInt8)} (h : ∀ l ∈ W, LnOk l) (hl : W.length ≤ 210) : linesL (txtOf W) = some W ∧ (txtOf W).length ≤ 22260 := by
  have h1 := txt_len (L := W) (b := 105) (fun l hl => (h l hl).2)
  have h2 := Nat.mul_le_mul_right 106 hl
  exact ⟨txt_lines (fun l hl => (h l hl).1) (by omega), by omega⟩
theorem wide_parse {P : Pg} (h : PgOk N V P) {W : List (List UInt8)} (hW : ∀ l ∈ W, LnOk l) (hl : W.length ≤ 200) (hg : goL N V 0 none [] W = .ok (some P.n.data.toList, P.st)) : parseG N V (txtOf W) = (P, 0, 0) :=
  parse_of h (W_lines hW (by omega)).1 hg
theorem bad_parse {P : Pg} (h : PgOk N V P) {W : List (List UInt8)} (hW : ∀ l ∈ W, LnOk l) (hl : W.length ≤ 200) (hg : goL N V 0 none [] W = .ok (some P.n.data.toList, P.st)) {b : List UInt8} {e : Int} (hb : LnOk b) (hm : ¬((wordsL b).length = 0 ∨ (wAt (wordsL b) 0)[0]? = some 35)) (he : (stepR N V (wordsL b)).2 = e) (h0 : e ≠ 0) :
    parseG N V (txtOf W ++ (b ++ [10]) ++ (b ++ [10])) = (Pg.zer, (W.length : Int) + 1, e) := by
  have et : txtOf W ++ (b ++ [10]) ++ (b ++ [10]) = txtOf (W ++ [b, b]) := by unfold txtOf; rw [List.flatMap_append]; simp
  rw [et]
  refine parseG_go h.net ?_
  rw [(W_lines (W := W ++ [b, b]) (fun l hl => by
    rcases List.mem_append.1 hl with hl | hl
    · exact hW l hl
    · simp at hl; subst hl; exact hb) (by simp; omega)).1, Option.getD_some, goL_app W hg, goL_cons, if_neg hm]
  simp only
  rw [he, if_pos h0]
  simp
end
def badL : Fin 6 → List UInt8
  | 0 => [111, 112, 101, 110, 32, 88, 57, 57]
  | 1 => [112, 114, 111, 118, 101, 32, 88, 57, 57]
  | 2 => [108, 111, 99, 107, 32, 83, 48, 48, 32, 97, 106, 97, 114, 32, 107, 101, 121, 32, 51]
  | 3 => [117, 110, 108, 111, 99, 107, 32, 83, 48, 48, 32, 107, 101, 121, 32, 45, 51]
  | 4 => [99, 104, 101, 99, 107, 32, 83, 48, 48]
  | 5 => [112, 114, 111, 103, 114, 97, 109, 109, 101, 32, 81]
def badE : Fin 6 → Int
  | 0 => 8
  | 1 => 7
  | _ => 2
theorem bad_ok : ∀ r : Fin 6, LnOk (badL r) ∧ ¬((wordsL (badL r)).length = 0 ∨ (wAt (wordsL (badL r)) 0)[0]? = some 35) ∧ badE r ≠ 0 := by decide +kernel
theorem bad_form : formR (wordsL (badL 2)) = none ∧ formR (wordsL (badL 3)) = none ∧ formR (wordsL (badL 4)) = none ∧ formR (wordsL (badL 5)) = none ∧ formR (wordsL (badL 0)) = some (1, 0, 0) ∧ formR (wordsL (badL 1)) = some (5, 0, 0) := by decide +kernel
theorem bad_w : wAt (wordsL (badL 0)) 1 = [88, 57, 57] ∧ wAt (wordsL (badL 1)) 1 = [88, 57, 57] := by decide +kernel
theorem devI_no {s : List UInt8} : ∀ (V : List Dv) (i : Int), (∀ d ∈ V, d.n.data.toList ≠ s) → devI s i V = -1
  | [], i, _ => rfl
  | d :: l, i, h => by rw [devI, if_neg (h d (by simp)), devI_no l _ (fun x hx => h x (by simp [hx]))]
theorem nodI_no {s : List UInt8} : ∀ (V : List Nd) (i : Int), (∀ d ∈ V, d.n.data.toList ≠ s) → nodI s i V = -1
  | [], i, _ => rfl
  | d :: l, i, h => by rw [nodI, if_neg (h d (by simp)), nodI_no l _ (fun x hx => h x (by simp [hx]))]
theorem bad_step {N : List Nd} {V : List Dv} (hN : ∀ d ∈ N, d.n.data.toList ≠ [88, 57, 57]) (hV : ∀ d ∈ V, d.n.data.toList ≠ [88, 57, 57]) : ∀ r : Fin 6, (stepR N V (wordsL (badL r))).2 = badE r := by
  obtain ⟨f2, f3, f4, f5, f0, f1⟩ := bad_form
  obtain ⟨w0, w1⟩ := bad_w
  intro r
  match r with
  | 0 => unfold stepR; rw [f0]; simp only; rw [if_neg (by decide), w0, devI_no V 0 hV, if_pos (by decide)]; rfl
  | 1 => unfold stepR; rw [f1]; simp only; rw [if_pos trivial, w1, nodI_no N 0 hN, if_pos (by decide)]; rfl
  | 2 => unfold stepR; rw [f2]; rfl
  | 3 => unfold stepR; rw [f3]; rfl
  | 4 => unfold stepR; rw [f4]; rfl
  | 5 => unfold stepR; rw [f5]; rfl
theorem no_X {l : List Int} (h : l.length ≤ 400) {nodes : Int} {m : Nat} (h1 : 1 ≤ nodes) (h2 : nodes ≤ 30) : (∀ d ∈ (net1 (dk0 l) nodes).1, d.n.data.toList ≠ [88, 57, 57]) ∧ ∀ d ∈ (net5 (dk0 l) nodes m).1, d.n.data.toList ≠ [88, 57, 57] := by
  have hv := net5_ok (DkOk.new h) m h1 (by omega)
  have key : ∀ (c : UInt8) (k : Nat), c ≠ 88 → (nmS c k).data.toList ≠ [88, 57, 57] := fun c k hc e => by
    unfold nmS at e
    simp at e
    exact hc e.1
  refine ⟨fun d hd => ?_, fun d hd => ?_⟩
  · obtain ⟨j, hj⟩ := List.getElem?_of_mem hd
    rw [(nodesD_at _ _ j d hj).1]
    exact key _ _ (by decide)
  · obtain ⟨j, hj⟩ := List.getElem?_of_mem hd
    rw [(hv.at_ j d hj).nm]
    refine key _ _ ?_
    unfold kindC
    repeat' split
    all_goals decide
theorem ba_sub (s : ByteArray) (a b : Nat) : (s.extract a b).data.toList = (s.data.toList.take b).drop a := by
  rw [ByteArray.data_extract, Array.toList_extract, List.extract_eq_take_drop, List.drop_take]
theorem one_byte (L : List UInt8) {i : Nat} {c : UInt8} (hc : L[i]? = some c) : (strL L).extract i (i + 1) = strL [c] := by
  refine ba_ext2 ?_
  have hlt := lt_at hc
  rw [ba_sub, strL_data, strL_data, take_at hc, List.drop_append_of_le_length (by rw [List.length_take]; omega), List.drop_of_length_le (by rw [List.length_take]; omega)]; rfl
theorem str_app (a b : List UInt8) : strL a ++ strL b = strL (a ++ b) := by
  refine ba_ext2 ?_
  simp [strL]
set_option maxHeartbeats 16000000 in
theorem lines_law (l : List Int) (u : Int) (hu0 : 0 ≤ u) (hu1 : u ≤ 255) (hG : GCls G) (hP : GPow G) (hPl : GPlc G) (hM : GMax G) : ACalls Tryd.prog G 4 [.sl 1 (l.map iv), .v (.int .u8 u)] [] (.v (.bool true)) [] := by
  have m1 : u.tmod 6 = u % 6 := Int.tmod_eq_emod_of_nonneg hu0
  obtain ⟨r, hr⟩ : ∃ r : Fin 6, u.tmod 6 = (r.val : Int) := ⟨⟨(u % 6).toNat, by omega⟩, by simp only; omega⟩
  refine acalls_of tbOk (enter_of Tryd.func4 (by kernel_rfl) rfl) Tryd.func4 rfl _ Tryd.ntmps4 (Nat.le_of_ble_eq_true rfl) fun X hX => ?_
  subst hX
  repeat (first | ((with_reducible refine k_move ?_); refine m_move rfl ?_) | ((with_reducible refine k_assign ?_); refine m_assign rfl ?_)  | refine e_nrm ?_ | refine x_none rfl ?_ | with_reducible refine q_then ?_ | with_reducible refine awp_seq ?_ | ((with_reducible refine w_region ?_ ?_); kernel_rfl))
  refine x_call0 (few_A (l.map iv)) (by repeat' (first | exact trivial | exact Ren.v _ | exact Ren.sl _ _ | exact Ren.ep _ | exact Ren.ptr _ _ _ _ rfl | exact Ren.bs _ _ _ _ _ rfl | exact Ren.nil _ | exact Ren.own _ _ _ _ ⟨_, rfl⟩ | refine ren_ag ?_ | refine ren_tu ?_ | refine ren_fn ?_ | refine ⟨?_, ?_⟩)) (by repeat' (first | exact trivial | exact RenB.v _ | exact RenB.sl _ _ | exact RenB.ep _ | exact RenB.ptr _ _ _ _ rfl | refine renb_ag ?_ | refine renb_tu ?_ | refine ⟨?_, ?_⟩)) ?_
  repeat (first | ((with_reducible refine k_un ?_); refine x_not rfl ?_)  | refine e_nrm ?_ | refine x_none rfl ?_ | with_reducible refine q_then ?_ )
  refine w_cond rfl (fun h => ?_) (fun h => ?_)
  · repeat (first   | refine x_none rfl ?_ | with_reducible refine awp_seq ?_ | ((with_reducible refine w_region ?_ ?_); kernel_rfl))
    refine x_call0 (awake_A hG hP hPl hM) (by repeat' (first | exact trivial | exact Ren.v _ | exact Ren.sl _ _ | exact Ren.ep _ | exact Ren.ptr _ _ _ _ rfl | exact Ren.bs _ _ _ _ _ rfl | exact Ren.nil _ | exact Ren.own _ _ _ _ ⟨_, rfl⟩ | refine ren_ag ?_ | refine ren_tu ?_ | refine ren_fn ?_ | refine ⟨?_, ?_⟩)) (by repeat' (first | exact trivial | exact RenB.v _ | exact RenB.sl _ _ | exact RenB.ep _ | exact RenB.ptr _ _ _ _ rfl | refine renb_ag ?_ | refine renb_tu ?_ | refine ⟨?_, ?_⟩)) ?_
    repeat (first | ((with_reducible refine k_assign ?_); refine m_assign rfl ?_)  | refine e_nrm ?_ | refine x_none rfl ?_ | with_reducible refine q_then ?_ | with_reducible refine q_then_ret ?_ | with_reducible refine awp_ret ?_ )
    refine ret_v (by first | exact .inr rfl | exact .inl rfl) rfl rfl ?_
    rfl
  have hl : l.length ≤ 400 := by simp at h; omega
  obtain ⟨hx1, hx2⟩ := no_X hl (nodes := 5) (m := 8) (by decide) (by decide)
  have dk := DkOk.new hl
  have hv := net5_ok dk 8 (nodes := 5) (by decide) (by decide)
  have hvp := net5_pos (dk0 l) 5 (m := 8) (by decide)
  have ok : NwOk (net1 (dk0 l) 5).1 (net5 (dk0 l) 5 8).1 := nw_ok hl (nodes := 5) (m := 8) (by decide) (by decide) (by decide)
  have h0 : netE (net1 (dk0 l) 5).1 (net5 (dk0 l) 5 8).1 = 0 := nw_valid hl (nodes := 5) (m := 8) (by decide) (by decide) (by decide)
  have hnp : 1 ≤ (net1 (dk0 l) 5).1.length := nD_len (l := l) (nodes := 5) (by decide) (by decide)
  have hnet := network_A (G := X.G) (dk0 l) 5 8 dk (by decide) (by decide) (by decide)
  have hdk := hv.dk
  obtain ⟨N, hN⟩ : ∃ N, N = (net1 (dk0 l) 5).1 := ⟨_, rfl⟩
  obtain ⟨V, hV⟩ : ∃ V, V = (net5 (dk0 l) 5 8).1 := ⟨_, rfl⟩
  obtain ⟨E, hE⟩ : ∃ E, E = (net5 (dk0 l) 5 8).2 := ⟨_, rfl⟩
  rw [← hN, ← hV, ← hE] at hnet
  rw [← hN, ← hV] at ok h0
  rw [← hV] at hvp
  rw [← hN] at hnp
  rw [← hE] at hdk
  have hnl := net_len h0
  have hnl9 : N.length ≤ 9223372036854775807 ∧ V.length ≤ 9223372036854775807 := by omega
  rw [← hN] at hx1
  rw [← hV] at hx2
  obtain ⟨hpo, hpm⟩ := progD_ok E (most := 8) h0 hnp hvp (by decide)
  have hpd := progD_dk (nN := N.length) (nV := V.length) (most := 8) hdk
  have hprog := mkprog_A (G := X.G) N V 8 E hdk (by omega) (by omega) (by decide)
  obtain ⟨P, hPg⟩ : ∃ P, P = (progD N.length V.length 8 E).1 := ⟨_, rfl⟩
  obtain ⟨D, hD⟩ : ∃ D, D = (progD N.length V.length 8 E).2 := ⟨_, rfl⟩
  rw [← hPg, ← hD] at hprog
  rw [← hPg] at hpo hpm
  rw [← hD] at hpd
  have hpl := hpo.l
  have hplm : P.st.length ≤ maxLen := by unfold maxLen; omega
  have hpn : P.n.size ≤ maxLen := by have := name_sz hpo.n; unfold maxLen; omega
  have hpr := rprint_A (G := X.G) N V P hP ok hpn hplm hG
  rw [print_ok hpo] at hpr
  obtain ⟨W, w1, w2, w3, w4, w5⟩ := wide_spec hpo D
  have hpa := pparse_A (G := X.G) N V (strL (txtOf W)) hG hP hPl hM ok (by rw [strL_size]; have := (W_lines w4 (by omega)).2; omega)
  rw [strL_data, wide_parse hpo w4 w3 w5] at hpa
  obtain ⟨b1, b2, b3⟩ := bad_ok r
  have hbs := bad_step hx1 hx2 r
  have hbl : (badL r).length ≤ 105 := b1.2
  have hWt := (W_lines w4 (by omega)).2
  have hpb := pparse_A (G := X.G) N V (strL (txtOf W ++ (badL r ++ [10]) ++ (badL r ++ [10]))) hG hP hPl hM ok (by rw [strL_size]; simp only [List.length_append, List.length_singleton]; omega)
  rw [strL_data, bad_parse hpo w4 w3 w5 b1 b2 hbs b3] at hpb
  have hsr := prsame_A (G := X.G) P P hplm hplm
  rw [psameB_refl] at hsr
  have hrn := rnet_A (G := X.G) N V ok.n ok.v ok.l1 ok.l2
  rw [h0] at hrn
  obtain ⟨T, hT⟩ : ∃ T, T = txtOf (linesP N V P) := ⟨_, rfl⟩
  have hTl := text_len hpo
  rw [← hT] at hpr hTl w1 w2
  have hTs : (strL T).size = T.length := strL_size T
  repeat (first | ((with_reducible refine k_move ?_); refine m_move rfl ?_)  | refine x_none rfl ?_ | with_reducible refine q_then ?_ | with_reducible refine awp_seq ?_ | with_reducible refine awp_skip ?_ | ((with_reducible refine w_region ?_ ?_); kernel_rfl))
  refine x_call_new (new_A l) (by repeat' (first | exact trivial | exact Ren.v _ | exact Ren.sl _ _ | exact Ren.ep _ | exact Ren.ptr _ _ _ _ rfl | exact Ren.bs _ _ _ _ _ rfl | exact Ren.nil _ | exact Ren.own _ _ _ _ ⟨_, rfl⟩ | refine ren_ag ?_ | refine ren_tu ?_ | refine ren_fn ?_ | refine ⟨?_, ?_⟩)) ⟨.sl _ _, .v _, .v _, trivial⟩ rfl ?_
  repeat (first | ((with_reducible refine k_move ?_); refine m_move rfl ?_) | ((with_reducible refine k_assign ?_); refine m_assign rfl ?_)  | refine e_nrm ?_ | refine x_none rfl ?_ | with_reducible refine q_then ?_ | with_reducible refine awp_seq ?_ | ((with_reducible refine w_region ?_ ?_); kernel_rfl))
  refine x_call (y := .ag [.sl 3 (N.map Nd.av), .sl 5 (V.map Dv.av)]) (ss := [(26, 1)]) (hnet) (by repeat' (first | exact trivial | exact Ren.v _ | exact Ren.sl _ _ | exact Ren.ep _ | exact Ren.ptr _ _ _ _ rfl | exact Ren.bs _ _ _ _ _ rfl | exact Ren.nil _ | exact Ren.own _ _ _ _ ⟨_, rfl⟩ | refine ren_ag ?_ | refine ren_tu ?_ | refine ren_fn ?_ | refine ⟨?_, ?_⟩)) (by simp) (in1 rfl rfl) rfl (back1 rfl) (by repeat' (first | exact trivial | exact RenB.v _ | exact RenB.sl _ _ | exact RenB.ep _ | exact RenB.ptr _ _ _ _ rfl | refine renb_ag ?_ | refine renb_tu ?_ | refine ⟨?_, ?_⟩)) ?_
  repeat (first | ((with_reducible refine k_move ?_); refine m_move rfl ?_) | ((with_reducible refine k_load ?_); refine x_load_agg tbOk rfl rfl rfl rfl (Nat.le_of_ble_eq_true rfl) ?_) | ((with_reducible refine k_store ?_); refine m_store tbOk rfl rfl rfl rfl rfl rfl rfl (Nat.le_of_ble_eq_true rfl) rfl ?_) | ((with_reducible refine k_alloc ?_); refine x_alloc tbOk rfl rfl ?_)  | refine e_nrm ?_ | refine x_none rfl ?_ | with_reducible refine q_then ?_ | with_reducible refine awp_seq ?_ | ((with_reducible refine w_region ?_ ?_); kernel_rfl))
  refine x_call (y := .ag [.v (.string P.n), .sl 5 (P.st.map St.av)]) (ss := [(26, 1)]) (hprog) (by repeat' (first | exact trivial | exact Ren.v _ | exact Ren.sl _ _ | exact Ren.ep _ | exact Ren.ptr _ _ _ _ rfl | exact Ren.bs _ _ _ _ _ rfl | exact Ren.nil _ | exact Ren.own _ _ _ _ ⟨_, rfl⟩ | refine ren_ag ?_ | refine ren_tu ?_ | refine ren_fn ?_ | refine ⟨?_, ?_⟩)) (by simp) (in1 rfl rfl) rfl (back1 rfl) (by repeat' (first | exact trivial | exact RenB.v _ | exact RenB.sl _ _ | exact RenB.ep _ | exact RenB.ptr _ _ _ _ rfl | refine renb_ag ?_ | refine renb_tu ?_ | refine ⟨?_, ?_⟩)) ?_
  repeat (first | ((with_reducible refine k_load ?_); refine x_load_agg tbOk rfl rfl rfl rfl (Nat.le_of_ble_eq_true rfl) ?_) | ((with_reducible refine k_store ?_); refine m_store tbOk rfl rfl rfl rfl rfl rfl rfl (Nat.le_of_ble_eq_true rfl) rfl ?_) | ((with_reducible refine k_alloc ?_); refine x_alloc tbOk rfl rfl ?_)  | refine e_nrm ?_ | refine x_none rfl ?_ | with_reducible refine q_then ?_ | with_reducible refine awp_seq ?_ | ((with_reducible refine w_region ?_ ?_); kernel_rfl))
  refine x_call0 (hpr) (by repeat' (first | exact trivial | exact Ren.v _ | exact Ren.sl _ _ | exact Ren.ep _ | exact Ren.ptr _ _ _ _ rfl | exact Ren.bs _ _ _ _ _ rfl | exact Ren.nil _ | exact Ren.own _ _ _ _ ⟨_, rfl⟩ | refine ren_ag ?_ | refine ren_tu ?_ | refine ren_fn ?_ | refine ⟨?_, ?_⟩)) (by repeat' (first | exact trivial | exact RenB.v _ | exact RenB.sl _ _ | exact RenB.ep _ | exact RenB.ptr _ _ _ _ rfl | refine renb_ag ?_ | refine renb_tu ?_ | refine ⟨?_, ?_⟩)) ?_
  repeat (first | ((with_reducible refine k_move ?_); refine m_move rfl ?_) | ((with_reducible refine k_assign ?_); refine m_assign rfl ?_) | ((with_reducible refine k_extract ?_); refine x_extract rfl rfl ?_)  | refine e_nrm ?_ | refine x_none rfl ?_ | with_reducible refine q_then ?_ | with_reducible refine awp_seq ?_ | with_reducible refine awp_block ?_ | ((with_reducible refine w_region ?_ ?_); kernel_rfl))
  refine awp_loop (ι := Nat) (fun k => k ≤ T.length) (fun k => T.length - k) (fun v k => [(1, .v (.int .u8 u)), (5, .ptr 26 (v 26) 0), (6, .ptr 6 (v 6) 0), (7, .ptr 7 (v 7) 0), (8, .v (.string (strL T))), (10, .v (.string (strL (wsN T D k).1))), (11, .v (.int .i64 ((wsN T D k).2.1 : Nat))), (12, .v (.int .i64 (k : Nat)))]) (fun v k => [(26, .box (wsN T D k).2.2.cells), (6, .box [.sl 3 (N.map Nd.av), .sl 5 (V.map Dv.av)]), (7, .box [.v (.string P.n), .sl 5 (P.st.map St.av)])]) ?_ ?_
  · exact ⟨0, Nat.zero_le _, trivial, ⟨rfl, rfl, rfl, rfl, rfl, rfl, rfl, rfl, trivial⟩, ⟨rfl, rfl, rfl, trivial⟩⟩
  rintro v k hk
  have hwl := wsN_len T D k hk
  have hok := wsN_ok hpd (L := T) k
  have hws : (strL (wsN T D k).1).size = (wsN T D k).1.length := strL_size _
  repeat (first | ((with_reducible refine k_move ?_); refine m_move rfl ?_) | ((with_reducible refine k_call ?_); refine x_len_str (by exact Tryd.underlying9) rfl ?_) | ((with_reducible refine k_bin ?_); refine m_binI rfl rfl rfl ?_)  | refine e_nrm ?_ | refine x_none rfl ?_ | with_reducible refine q_then ?_ | with_reducible refine awp_seq ?_ | ((with_reducible refine w_region ?_ ?_); kernel_rfl))
  refine w_cond rfl (fun h => ?_) (fun h => ?_)
  · have hlt : k < T.length := by rw [hTs] at h; simpa using h
    obtain ⟨c, hc⟩ := some_at hlt
    have ix := nidxS (strL T) k c (by rw [strL_data]; exact hc)
    have hone : (strL T).extract (k : Int).toNat ((k : Int) + 1).toNat = strL [c] := by
      rw [Int.toNat_natCast, show ((k : Int) + 1).toNat = k + 1 by omega]; exact one_byte T hc
    have eS := wsN_next (D := D) hc
    obtain ⟨p, hpp⟩ : ∃ p, p = wsN T D k := ⟨_, rfl⟩
    rw [← hpp] at eS hwl hok hws ⊢
    repeat (first | ((with_reducible refine k_move ?_); refine m_move rfl ?_) | ((with_reducible refine k_slice ?_); refine x_sliceS (by exact Tryd.underlying9) rfl rfl rfl (by refine ⟨?_, ?_, ?_⟩ <;> omega) ?_) | ((with_reducible refine k_bin ?_); refine x_add_in rfl rfl (by omega) ?_)  | refine x_none rfl ?_ | with_reducible refine q_then ?_ | with_reducible refine awp_seq ?_ | with_reducible refine awp_block ?_ | with_reducible refine awp_skip ?_ | ((with_reducible refine w_region ?_ ?_); kernel_rfl))
    rw [hone]
    with_reducible refine k_bin ?_
    refine x_add_s rfl rfl (by rw [hws, strL_size]; simp only [List.length_cons, List.length_nil]; omega) ?_
    rw [str_app]
    repeat (first | ((with_reducible refine k_move ?_); refine m_move rfl ?_) | ((with_reducible refine k_assign ?_); refine m_assign rfl ?_) | ((with_reducible refine k_index ?_); refine x_index rfl rfl (by assumption) ?_) | ((with_reducible refine k_bin ?_); refine m_binI rfl rfl rfl ?_)  | refine e_nrm ?_ | refine x_none rfl ?_ | with_reducible refine q_then ?_ | with_reducible refine awp_seq ?_ | ((with_reducible refine w_region ?_ ?_); kernel_rfl))
    refine w_cond rfl (fun b => ?_) (fun b => ?_)
    · have hc10 : c = 10 := by
        have h1 : (c.toNat : Int) = 10 := by simpa using b
        exact UInt8.toNat_inj.1 (by show c.toNat = 10; omega)
      have eS' : wsS p c = (if p.2.2.val 3 = 0 then (p.1 ++ [c] ++ rmT, p.2.1 + 3, p.2.2.next) else (p.1 ++ [c], p.2.1 + 1, p.2.2.next)) := by unfold wsS; rw [if_pos hc10, hc10]
      repeat (first | ((with_reducible refine k_move ?_); refine m_move rfl ?_) | ((with_reducible refine k_assign ?_); refine m_assign rfl ?_) | ((with_reducible refine k_bin ?_); refine x_add_in rfl rfl (by omega) ?_)  | refine e_nrm ?_ | refine x_none rfl ?_ | with_reducible refine q_then ?_ | with_reducible refine awp_seq ?_ | ((with_reducible refine w_region ?_ ?_); kernel_rfl))
      refine x_call (ss := [(26, v 26)]) (one_A p.2.2 3 hok (by omega) (by omega)) (by repeat' (first | exact trivial | exact Ren.v _ | exact Ren.sl _ _ | exact Ren.ep _ | exact Ren.ptr _ _ _ _ rfl | exact Ren.bs _ _ _ _ _ rfl | exact Ren.nil _ | exact Ren.own _ _ _ _ ⟨_, rfl⟩ | refine ren_ag ?_ | refine ren_tu ?_ | refine ren_fn ?_ | refine ⟨?_, ?_⟩)) (by simp) (in1 rfl rfl) rfl (back1 rfl) (by repeat' (first | exact trivial | exact RenB.v _ | exact RenB.sl _ _ | exact RenB.ep _ | exact RenB.ptr _ _ _ _ rfl | refine renb_ag ?_ | refine renb_tu ?_ | refine ⟨?_, ?_⟩)) ?_
      repeat (first   | refine e_nrm ?_ | with_reducible refine q_then ?_ )
      refine w_cond rfl (fun q => ?_) (fun q => ?_)
      · have q' : p.2.2.val 3 = 0 := by simpa using q
        rw [if_pos q'] at eS'
        repeat (first | ((with_reducible refine k_move ?_); refine m_move rfl ?_)  | refine x_none rfl ?_ | with_reducible refine awp_seq ?_ | ((with_reducible refine w_region ?_ ?_); kernel_rfl))
        with_reducible refine k_bin ?_
        refine x_add_s rfl rfl (by rw [strL_size, List.length_append]; simp only [sz_mk, List.size_toArray, List.length_cons, List.length_nil]; omega) ?_
        repeat (first | ((with_reducible refine k_move ?_); refine m_move rfl ?_) | ((with_reducible refine k_assign ?_); refine m_assign rfl ?_) | ((with_reducible refine k_bin ?_); refine x_add_in rfl rfl (by omega) ?_)  | refine e_nrm ?_ | refine x_none rfl ?_ | with_reducible refine q_then ?_ | with_reducible refine q_block ?_ | ((with_reducible refine w_region ?_ ?_); kernel_rfl))
        exact ⟨k + 1, by omega, by omega, ⟨rfl, rfl, rfl, rfl, rfl, congrArg (fun z => AV.v (.string z)) (by rw [eS, eS']; exact str_app (p.1 ++ [c]) rmT), congrArg (fun z : Int => AV.v (.int .i64 z)) (by rw [eS, eS']; simp only; omega), rfl, trivial⟩, ⟨hc_box (by rw [eS, eS']), rfl, rfl, trivial⟩⟩
      · have q' : ¬ p.2.2.val 3 = 0 := by simpa using q
        rw [if_neg q'] at eS'
        repeat (first | ((with_reducible refine k_move ?_); refine m_move rfl ?_) | ((with_reducible refine k_assign ?_); refine m_assign rfl ?_) | ((with_reducible refine k_bin ?_); refine x_add_in rfl rfl (by omega) ?_)  | refine e_nrm ?_ | refine x_none rfl ?_ | with_reducible refine q_then ?_ | with_reducible refine q_block ?_ | with_reducible refine awp_skip ?_ | ((with_reducible refine w_region ?_ ?_); kernel_rfl))
        exact ⟨k + 1, by omega, by omega, ⟨rfl, rfl, rfl, rfl, rfl, congrArg (fun z => AV.v (.string z)) (by rw [eS, eS']), congrArg (fun z : Int => AV.v (.int .i64 z)) (by rw [eS, eS']; simp only; omega), rfl, trivial⟩, ⟨hc_box (by rw [eS, eS']), rfl, rfl, trivial⟩⟩
    · have hc10 : ¬ c = 10 := fun e => by
        have h1 : ¬ (c.toNat : Int) = 10 := by simpa using b
        exact h1 (by rw [e]; rfl)
      have eS' : wsS p c = (p.1 ++ [c], p.2.1, p.2.2) := by unfold wsS; rw [if_neg hc10]
      repeat (first | ((with_reducible refine k_move ?_); refine m_move rfl ?_) | ((with_reducible refine k_assign ?_); refine m_assign rfl ?_) | ((with_reducible refine k_bin ?_); refine x_add_in rfl rfl (by omega) ?_)  | refine e_nrm ?_ | refine x_none rfl ?_ | with_reducible refine q_then ?_ | with_reducible refine q_block ?_ | with_reducible refine awp_skip ?_ | ((with_reducible refine w_region ?_ ?_); kernel_rfl))
      exact ⟨k + 1, by omega, by omega, ⟨rfl, rfl, rfl, rfl, rfl, congrArg (fun z => AV.v (.string z)) (by rw [eS, eS']), congrArg (fun z : Int => AV.v (.int .i64 z)) (by rw [eS, eS']), rfl, trivial⟩, ⟨hc_box (by rw [eS, eS']), rfl, rfl, trivial⟩⟩
  have hkT : k = T.length := by rw [hTs] at h; simp at h; omega
  rw [hkT, w1, w2]
  have hzB : ([.v (.string ⟨#[111, 112, 101, 110, 32, 88, 57, 57, 10]⟩), .v (.string ⟨#[112, 114, 111, 118, 101, 32, 88, 57, 57, 10]⟩), .v (.string ⟨#[108, 111, 99, 107, 32, 83, 48, 48, 32, 97, 106, 97, 114, 32, 107, 101, 121, 32, 51, 10]⟩), .v (.string ⟨#[117, 110, 108, 111, 99, 107, 32, 83, 48, 48, 32, 107, 101, 121, 32, 45, 51, 10]⟩), .v (.string ⟨#[99, 104, 101, 99, 107, 32, 83, 48, 48, 10]⟩), .v (.string ⟨#[112, 114, 111, 103, 114, 97, 109, 109, 101, 32, 81, 10]⟩)] : List AV)[(u.tmod 6).toNat]? = some (.v (.string (strL (badL r ++ [10])))) := by
    rw [hr, Int.toNat_natCast]
    match r with
    | 0 => rfl
    | 1 => rfl
    | 2 => rfl
    | 3 => rfl
    | 4 => rfl
    | 5 => rfl
  have hzE : ([.v (.int .i64 8), .v (.int .i64 7), .v (.int .i64 2), .v (.int .i64 2), .v (.int .i64 2), .v (.int .i64 2)] : List AV)[(u.tmod 6).toNat]? = some (.v (.int .i64 (badE r))) := by
    rw [hr, Int.toNat_natCast]
    match r with
    | 0 => rfl
    | 1 => rfl
    | 2 => rfl
    | 3 => rfl
    | 4 => rfl
    | 5 => rfl
  have hr0 : 0 ≤ u.tmod 6 ∧ u.tmod 6 ≤ 5 := by have := r.isLt; omega
  have hbz : (strL (badL r ++ [10])).size = (badL r).length + 1 := by rw [strL_size]; simp
  have hwz : (strL (txtOf W)).size = (txtOf W).length := strL_size _
  obtain ⟨B, hB⟩ : ∃ B, B = strL (badL r ++ [10]) := ⟨_, rfl⟩
  have hpb2 : strL (txtOf W ++ (badL r ++ [10]) ++ (badL r ++ [10])) = strL (txtOf W) ++ B ++ B := by rw [hB, str_app, str_app]
  rw [hpb2] at hpb
  rw [← hB] at hzB hbz
  have d1 : decide (badE r = badE r) = true := decide_eq_true rfl
  have d2 : decide (((W.length : Nat) : Int) + 1 = ((W.length : Nat) : Int) + 1) = true := decide_eq_true rfl
  repeat (first | ((with_reducible refine k_move ?_); refine m_move rfl ?_) | ((with_reducible refine k_load ?_); refine x_load_agg tbOk rfl rfl rfl rfl (Nat.le_of_ble_eq_true rfl) ?_)  | refine x_none rfl ?_ | with_reducible refine q_then ?_ | with_reducible refine q_then_exit ?_ | with_reducible refine awp_seq ?_ | with_reducible refine awp_exit ?_ | ((with_reducible refine q_block_exit ?_ ?_); rfl) | ((with_reducible refine w_region ?_ ?_); kernel_rfl))
  refine x_call0 (hpa) (by repeat' (first | exact trivial | exact Ren.v _ | exact Ren.sl _ _ | exact Ren.ep _ | exact Ren.ptr _ _ _ _ rfl | exact Ren.bs _ _ _ _ _ rfl | exact Ren.nil _ | exact Ren.own _ _ _ _ ⟨_, rfl⟩ | refine ren_ag ?_ | refine ren_tu ?_ | refine ren_fn ?_ | refine ⟨?_, ?_⟩)) (by repeat' (first | exact trivial | exact RenB.v _ | exact RenB.sl _ _ | exact RenB.ep _ | exact RenB.ptr _ _ _ _ rfl | refine renb_ag ?_ | refine renb_tu ?_ | refine ⟨?_, ?_⟩)) ?_
  repeat (first | ((with_reducible refine k_move ?_); refine m_move rfl ?_) | ((with_reducible refine k_assign ?_); refine m_assign rfl ?_) | ((with_reducible refine k_load ?_); refine x_load_agg tbOk rfl rfl rfl rfl (Nat.le_of_ble_eq_true rfl) ?_) | ((with_reducible refine k_load ?_); refine x_load_ep_one tbOk rfl rfl rfl ?_) | ((with_reducible refine k_store ?_); refine m_store tbOk rfl rfl rfl rfl rfl rfl rfl (Nat.le_of_ble_eq_true rfl) rfl ?_) | ((with_reducible refine k_alloc ?_); refine x_alloc tbOk rfl rfl ?_) | ((with_reducible refine k_extract ?_); refine x_extract rfl rfl ?_) | ((with_reducible refine k_indexAddr ?_); refine x_indexAddr tbOk rfl rfl rfl rfl (by omega) (by assumption) ?_) | ((with_reducible refine k_bin ?_); refine x_rem rfl rfl (by first | decide | assumption | omega) ?_) | ((with_reducible refine k_buildSlice ?_); refine m_buildSlice tbOk rfl rfl rfl rfl rfl (by omega) rfl rfl rfl ?_) | refine e_nrm ?_ | refine x_none rfl ?_ | with_reducible refine q_then ?_ | with_reducible refine awp_seq ?_ | ((with_reducible refine w_region ?_ ?_); kernel_rfl))
  with_reducible refine k_bin ?_
  refine x_add_s rfl rfl (by omega) ?_
  repeat (first | ((with_reducible refine k_move ?_); refine m_move rfl ?_)  | refine x_none rfl ?_  )
  with_reducible refine k_bin ?_
  refine x_add_s rfl rfl (by rw [ByteArray.size_append]; omega) ?_
  repeat (first   | refine x_none rfl ?_  )
  refine x_call0 (hpb) (by repeat' (first | exact trivial | exact Ren.v _ | exact Ren.sl _ _ | exact Ren.ep _ | exact Ren.ptr _ _ _ _ rfl | exact Ren.bs _ _ _ _ _ rfl | exact Ren.nil _ | exact Ren.own _ _ _ _ ⟨_, rfl⟩ | refine ren_ag ?_ | refine ren_tu ?_ | refine ren_fn ?_ | refine ⟨?_, ?_⟩)) (by repeat' (first | exact trivial | exact RenB.v _ | exact RenB.sl _ _ | exact RenB.ep _ | exact RenB.ptr _ _ _ _ rfl | refine renb_ag ?_ | refine renb_tu ?_ | refine ⟨?_, ?_⟩)) ?_
  repeat (first | ((with_reducible refine k_move ?_); refine m_move rfl ?_) | ((with_reducible refine k_assign ?_); refine m_assign rfl ?_) | ((with_reducible refine k_load ?_); refine x_load_agg tbOk rfl rfl rfl rfl (Nat.le_of_ble_eq_true rfl) ?_) | ((with_reducible refine k_store ?_); refine m_store tbOk rfl rfl rfl rfl rfl rfl rfl (Nat.le_of_ble_eq_true rfl) rfl ?_) | ((with_reducible refine k_alloc ?_); refine x_alloc tbOk rfl rfl ?_) | ((with_reducible refine k_extract ?_); refine x_extract rfl rfl ?_) | ((with_reducible refine k_pick ?_); refine m_pickt rfl (by first | rfl | assumption) rfl ?_) | ((with_reducible refine k_bin ?_); refine m_binI rfl rfl rfl ?_)  | refine e_nrm ?_ | refine x_none rfl ?_ | refine x_run_t rfl rfl (by first | rfl | assumption) ?_ | with_reducible refine q_then ?_ | with_reducible refine awp_seq ?_ | ((with_reducible refine w_region ?_ ?_); kernel_rfl))
  refine x_call0 (hsr) (by repeat' (first | exact trivial | exact Ren.v _ | exact Ren.sl _ _ | exact Ren.ep _ | exact Ren.ptr _ _ _ _ rfl | exact Ren.bs _ _ _ _ _ rfl | exact Ren.nil _ | exact Ren.own _ _ _ _ ⟨_, rfl⟩ | refine ren_ag ?_ | refine ren_tu ?_ | refine ren_fn ?_ | refine ⟨?_, ?_⟩)) (by repeat' (first | exact trivial | exact RenB.v _ | exact RenB.sl _ _ | exact RenB.ep _ | exact RenB.ptr _ _ _ _ rfl | refine renb_ag ?_ | refine renb_tu ?_ | refine ⟨?_, ?_⟩)) ?_
  repeat (first | ((with_reducible refine k_move ?_); refine m_move rfl ?_) | ((with_reducible refine k_load ?_); refine x_load_agg tbOk rfl rfl rfl rfl (Nat.le_of_ble_eq_true rfl) ?_) | ((with_reducible refine k_pick ?_); refine m_pickt rfl (by first | rfl | assumption) rfl ?_) | ((with_reducible refine k_bin ?_); refine x_add_in rfl rfl (by omega) ?_) | ((with_reducible refine k_bin ?_); refine m_binI rfl rfl rfl ?_)  | refine x_none rfl ?_ | refine x_run_t rfl rfl (by first | rfl | assumption) ?_  )
  refine x_call0 (hrn) (by repeat' (first | exact trivial | exact Ren.v _ | exact Ren.sl _ _ | exact Ren.ep _ | exact Ren.ptr _ _ _ _ rfl | exact Ren.bs _ _ _ _ _ rfl | exact Ren.nil _ | exact Ren.own _ _ _ _ ⟨_, rfl⟩ | refine ren_ag ?_ | refine ren_tu ?_ | refine ren_fn ?_ | refine ⟨?_, ?_⟩)) (by repeat' (first | exact trivial | exact RenB.v _ | exact RenB.sl _ _ | exact RenB.ep _ | exact RenB.ptr _ _ _ _ rfl | refine renb_ag ?_ | refine renb_tu ?_ | refine ⟨?_, ?_⟩)) ?_
  repeat (first | ((with_reducible refine k_move ?_); refine m_move rfl ?_) | ((with_reducible refine k_pick ?_); refine m_pickt rfl (by first | rfl | assumption) rfl ?_) | ((with_reducible refine k_bin ?_); refine m_binI rfl rfl rfl ?_)  | refine x_none rfl ?_ | refine x_run_t rfl rfl (by first | rfl | assumption) ?_  )
  refine x_call0 (awake_A hG hP hPl hM) (by repeat' (first | exact trivial | exact Ren.v _ | exact Ren.sl _ _ | exact Ren.ep _ | exact Ren.ptr _ _ _ _ rfl | exact Ren.bs _ _ _ _ _ rfl | exact Ren.nil _ | exact Ren.own _ _ _ _ ⟨_, rfl⟩ | refine ren_ag ?_ | refine ren_tu ?_ | refine ren_fn ?_ | refine ⟨?_, ?_⟩)) (by repeat' (first | exact trivial | exact RenB.v _ | exact RenB.sl _ _ | exact RenB.ep _ | exact RenB.ptr _ _ _ _ rfl | refine renb_ag ?_ | refine renb_tu ?_ | refine ⟨?_, ?_⟩)) ?_
  repeat (first | ((with_reducible refine k_assign ?_); refine m_assign rfl ?_) | ((with_reducible refine k_pick ?_); refine m_pickt rfl (by first | rfl | assumption) rfl ?_)  | refine e_nrm ?_ | refine x_none rfl ?_ | with_reducible refine q_then ?_ | with_reducible refine awp_ret ?_ )
  refine ret_v (by first | exact .inr rfl | exact .inl rfl) rfl rfl ?_
  rfl
end Go.Proofs.YtggngllfnboehaaDoor
