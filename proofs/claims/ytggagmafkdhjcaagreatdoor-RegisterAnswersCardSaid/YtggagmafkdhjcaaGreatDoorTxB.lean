/- The texts of registers, by plain functions: what is printed, what a text is read as, and that people's lines in any order lead back to the register; nothing of the program stands here but the letters of skills / The reference of Text, by the abstract machine: the numeral of every integer; conditions: none. -/
import Derived.Test.YtggagmafkdhjcaaGreatDoorCaU
import Derived.Test.YtggagmafkdhjcaaGreatDoorNetP
import Derived.Test.YtggagmafkdhjcaaGreatDoorRtA
import Derived.Test.YtggagmafkdhjcaaGreatDoorTxA
set_option linter.unusedVariables false
set_option linter.unusedSimpArgs false
namespace Go.Proofs.YtggagmafkdhjcaaGreatDoor
open Go Go.RowKit
def personL : List UInt8 := [112, 101, 114, 115, 111, 110]
def companyL : List UInt8 := [99, 111, 109, 112, 97, 110, 121]
def skillsL : List UInt8 := [115, 107, 105, 108, 108, 115]
def fromL : List UInt8 := [102, 114, 111, 109]
def untilL : List UInt8 := [117, 110, 116, 105, 108]
def skL (s : Int) : List UInt8 := (skillsS s).data.toList
def tmL (t : Int) : List UInt8 := (printP t).data.toList
def lineP (p : Per) : List (List UInt8) := [personL, p.n.data.toList, companyL, Lib.itoa p.c, skillsL, skL p.s, fromL, tmL p.f, untilL, tmL p.u]
def regT (L : List Per) : List UInt8 := txtOf (L.map fun p => joinW (lineP p))
def bitsGo (s : ByteArray) : Nat → Nat → Int × Bool
  | 0, _ => (0, false)
  | m + 1, n => if skillsS (n : Int) = s then ((n : Int), true) else bitsGo s m (n + 1)
def bitsP (s : ByteArray) : Int × Bool := bitsGo s 32 0
theorem sk_fin : ∀ n : Fin 32, skL (n.val : Int) ≠ [] ∧ (∀ c ∈ skL (n.val : Int), c ≠ 32 ∧ 32 ≤ c.toNat ∧ c.toNat ≤ 126) ∧ (skL (n.val : Int)).length ≤ 5 := by decide +kernel
def Per.zer : Per := ⟨⟨#[]⟩, 0, 0, 0, 0⟩
def personF (W : List (List UInt8)) : Prop := W.length = 10 ∧ wAt W 0 = personL ∧ wAt W 2 = companyL ∧ wAt W 4 = skillsL ∧ wAt W 6 = fromL ∧ wAt W 8 = untilL
instance (W : List (List UInt8)) : Decidable (personF W) := by unfold personF; infer_instance
def personP (W : List (List UInt8)) : Per × Bool :=
  if personF W then (⟨strL (wAt W 1), (numP (wAt W 3) 1073741824).getD 0, (bitsP (strL (wAt W 5))).1, (parseP (wAt W 7)).1, (parseP (wAt W 9)).1⟩,
    (numP (wAt W 3) 1073741824).isSome && (bitsP (strL (wAt W 5))).2 && decide ((parseP (wAt W 7)).2 = 0) && decide ((parseP (wAt W 9)).2 = 0))
  else (Per.zer, false)
/-- Whether a line matters. -/
def matB (W : List (List UInt8)) : Bool := !decide (W.length = 0 ∨ (wAt W 0)[0]? = some 35)
def regGo : Nat → List Per → List (List UInt8) → Except (Int × Int) (List Per)
  | _, R, [] => .ok R
  | i, R, l :: ls => if matB (wordsL l) = false then regGo (i + 1) R ls else if (personP (wordsL l)).2 = false then .error ((i : Int) + 1, 2)
    else if (addK R (personP (wordsL l)).1).2 ≠ 0 then .error ((i : Int) + 1, (addK R (personP (wordsL l)).1).2) else regGo (i + 1) (addK R (personP (wordsL l)).1).1 ls
theorem regGo_cons (i : Nat) (R : List Per) (l : List UInt8) (ls : List (List UInt8)) : regGo i R (l :: ls) = if matB (wordsL l) = false then regGo (i + 1) R ls else if (personP (wordsL l)).2 = false then .error ((i : Int) + 1, 2)
    else if (addK R (personP (wordsL l)).1).2 ≠ 0 then .error ((i : Int) + 1, (addK R (personP (wordsL l)).1).2) else regGo (i + 1) (addK R (personP (wordsL l)).1).1 ls := rfl
def endR : Except (Int × Int) (List Per) → List Per × Int × Int
  | .error (i, e) => ([], i, e)
  | .ok R => (R, 0, 0)
def parseR (s : List UInt8) : List Per × Int × Int := match linesL s with
  | none => ([], 0, 2)
  | some L => endR (regGo 0 [] L)
/-- What a valid person is. -/
structure PvOk (p : Per) : Prop where
  n : nameB p.n.data.toList = true
  c : 0 ≤ p.c ∧ p.c ≤ 7
  s : 0 ≤ p.s ∧ p.s ≤ 31
  t : 0 ≤ p.f ∧ p.f < p.u ∧ p.u ≤ 16777216
theorem pv_ok {p : Per} (h : pvalidE p = 0) (hs : I64 p.s) : PvOk p := by
  unfold pvalidE at h
  split at h
  · cases h
  rename_i h1
  split at h
  · cases h
  rename_i h2
  split at h
  · rename_i h3
    have h4 := andNot31_only hs (Classical.byContradiction fun e => h2 (.inr (.inr e)))
    unfold spanB at h3
    simp only [Bool.and_eq_true, decide_eq_true_eq] at h3
    exact ⟨by simpa using h1, by omega, h4, by omega⟩
  · cases h
theorem tmB_of {t : Int} (h0 : 0 ≤ t) (h1 : t ≤ 16777216) : timeB t = true := timeB_iff.2 ⟨h0, h1⟩
theorem txt_chars {n : Int} : ∀ c ∈ (txtP n).data.toList, okC c ∧ c ≠ 32 := fun c hc => by
  have e : (txtP n).data.toList = Lib.itoa n := by unfold txtP; simp
  rw [e] at hc
  exact ⟨itoa_okC n c hc, itoa_sp n c hc⟩
theorem ba_apL (a b : ByteArray) : (a ++ b).data.toList = a.data.toList ++ b.data.toList := by simp
theorem two_chars {n : Int} : ∀ c ∈ (twoP n).data.toList, okC c ∧ c ≠ 32 := fun c hc => by
  unfold twoP at hc
  split at hc
  · rw [ba_apL] at hc
    rcases List.mem_append.1 hc with hc | hc
    · have : c = 48 := by simpa [zeroS] using hc
      subst this; decide
    · exact txt_chars c hc
  · exact txt_chars c hc
theorem tm_chars {t : Int} (h : timeB t = true) : ∀ c ∈ tmL t, okC c ∧ c ≠ 32 := fun c hc => by
  unfold tmL printP at hc
  rw [if_pos h, ba_apL, ba_apL, ba_apL, ba_apL] at hc
  rcases List.mem_append.1 hc with hc | hc
  · rcases List.mem_append.1 hc with hc | hc
    · rcases List.mem_append.1 hc with hc | hc
      · rcases List.mem_append.1 hc with hc | hc
        · exact txt_chars c hc
        · have : c = 47 := by simpa [slashS] using hc
          subst this; decide
      · exact two_chars c hc
    · have : c = 58 := by simpa [colonS] using hc
      subst this; decide
  · exact two_chars c hc
theorem line_wd {p : Per} (h : PvOk p) : ∀ w ∈ lineP p, w ≠ [] ∧ (∀ c ∈ w, okC c ∧ c ≠ 32) ∧ w.length ≤ 100 := by
  have ht := h.t
  have hs := h.s
  have hc := h.c
  have lit : ∀ w : List UInt8, w ∈ [personL, companyL, skillsL, fromL, untilL] → w ≠ [] ∧ (∀ c ∈ w, okC c ∧ c ≠ 32) ∧ w.length ≤ 100 := by
    intro w hw
    simp only [List.mem_cons, List.not_mem_nil, or_false] at hw
    rcases hw with rfl | rfl | rfl | rfl | rfl <;> exact ⟨by decide, by decide, by decide⟩
  have tm : ∀ t, 0 ≤ t → t ≤ 16777216 → tmL t ≠ [] ∧ (∀ c ∈ tmL t, okC c ∧ c ≠ 32) ∧ (tmL t).length ≤ 100 := fun t h0 h1 => by
    have hb := tmB_of h0 h1
    obtain ⟨-, -, h2, h3⟩ := print_parse hb
    have hz : (tmL t).length = (printP t).size := Array.length_toList
    exact ⟨fun e => by rw [e] at hz; simp at hz; omega, tm_chars hb, by omega⟩
  unfold lineP
  simp only [List.mem_cons, List.not_mem_nil, or_false]
  rintro w (rfl | rfl | rfl | rfl | rfl | rfl | rfl | rfl | rfl | rfl)
  · exact lit _ (by simp)
  · have hn := name_sp h.n
    exact ⟨hn.1, fun c hc => ⟨(name_okC h.n c hc).1, hn.2.1 c hc⟩, by omega⟩
  · exact lit _ (by simp)
  · exact ⟨itoa_ne _, fun c hc => ⟨itoa_okC _ c hc, itoa_sp _ c hc⟩, by have := itoa_len (n := p.c) (by omega) (by omega); omega⟩
  · exact lit _ (by simp)
  · have hk := sk_fin ⟨p.s.toNat, by omega⟩
    dsimp only at hk
    rw [Int.toNat_of_nonneg hs.1] at hk
    exact ⟨hk.1, fun c hc => ⟨(hk.2.1 c hc).2, (hk.2.1 c hc).1⟩, by omega⟩
  · exact lit _ (by simp)
  · exact tm _ ht.1 (by omega)
  · exact lit _ (by simp)
  · exact tm _ (by omega) ht.2.2
theorem line_ok {p : Per} (h : PvOk p) : (∀ c ∈ joinW (lineP p), okC c) ∧ (joinW (lineP p)).length ≤ 1010 := by
  have h10 : (lineP p).length = 10 := rfl
  have := joinW_len2 (lineP p) 100 (fun w hw => (line_wd h w hw).2.2)
  exact ⟨join_okC fun w hw c hc => ((line_wd h w hw).2.1 c hc).1, by omega⟩
theorem txtOf_app (A B : List (List UInt8)) : txtOf (A ++ B) = txtOf A ++ txtOf B := by unfold txtOf; rw [List.flatMap_append]
theorem regT_app (A B : List Per) : regT (A ++ B) = regT A ++ regT B := by unfold regT; rw [List.map_append, txtOf_app]
theorem regT_len {M : List Per} (h : ∀ p ∈ M, PvOk p) : (regT M).length ≤ M.length * 1011 := by
  have := txt_len (L := M.map fun p => joinW (lineP p)) (b := 1010) (fun l hl => by
    obtain ⟨p, hp, rfl⟩ := List.mem_map.1 hl
    exact (line_ok (h p hp)).2)
  rw [List.length_map] at this
  exact this
end Go.Proofs.YtggagmafkdhjcaaGreatDoor
namespace Go.Proofs.YtggagmafkdhjcaaGreatDoor
open Go Go.RowKit
set_option maxRecDepth 10000
variable {G : Nat → Option (List Value)}
theorem tdm (m : Int) : (m.tdiv 10).natAbs = m.natAbs / 10 ∧ (m.tmod 10).natAbs = m.natAbs % 10 ∧ (0 ≤ m → 0 ≤ m.tdiv 10 ∧ 0 ≤ m.tmod 10) ∧ (m ≤ 0 → m.tdiv 10 ≤ 0 ∧ m.tmod 10 ≤ 0) := by
  rcases Int.le_total 0 m with h | h
  · rw [Int.tdiv_eq_ediv_of_nonneg h, Int.tmod_eq_emod_of_nonneg h]
    refine ⟨by omega, by omega, by omega, by omega⟩
  · obtain ⟨p, rfl⟩ : ∃ p, m = -p := ⟨-m, by omega⟩
    have hp : 0 ≤ p := by omega
    rw [Int.neg_tdiv, Int.neg_tmod, Int.tdiv_eq_ediv_of_nonneg hp, Int.tmod_eq_emod_of_nonneg hp]
    refine ⟨by omega, by omega, by omega, by omega⟩
theorem ba_ext {s : ByteArray} {l : List UInt8} (h : s.data.toList = l) : s = ⟨l.toArray⟩ := by
  subst h; rfl
theorem ba_app (a b : ByteArray) : (a ++ b).data.toList = a.data.toList ++ b.data.toList := by simp
set_option maxHeartbeats 2000000 in
theorem rtext_A (n : Int) (h1 : -9223372036854775808 ≤ n) (h2 : n ≤ 9223372036854775807) : ACalls Tryz.prog G 37 [.v (.int .i64 n)] [] (.v (.string (txtP n))) [] := by
  have hi := itoa_digs n
  have hln : (digs n.natAbs).length ≤ 19 := digs_len 19 _ (by omega)
  refine acalls_of tbOk (enter_of Tryz.func37 (by kernel_rfl) rfl) Tryz.func37 rfl _ Tryz.ntmps37 (Nat.le_of_ble_eq_true rfl) fun X hX => ?_
  subst hX
  repeat (first | ((with_reducible refine k_move ?_); refine m_move rfl ?_) | ((with_reducible refine k_assign ?_); refine m_assign rfl ?_) | ((with_reducible refine k_bin ?_); refine m_binI rfl rfl rfl ?_)  | refine e_nrm ?_ | refine x_none rfl ?_ | with_reducible (first | refine q_then ?_ | refine awp_seq ?_) | ((with_reducible refine w_region ?_ ?_); kernel_rfl))
  refine w_cond rfl (fun h => ?_) (fun h => ?_)
  · have h0 : n = 0 := by simpa using h
    rw [if_pos h0] at hi
    repeat (first | ((with_reducible refine k_assign ?_); refine m_assign rfl ?_)  | refine e_nrm ?_ | refine x_none rfl ?_ | with_reducible (first | refine q_then ?_ | refine q_then_ret ?_ | refine awp_seq ?_ | refine awp_ret ?_) | ((with_reducible refine w_region ?_ ?_); kernel_rfl))
    refine ret_v (by first | exact .inr rfl | exact .inl rfl) rfl rfl ?_
    unfold txtP
    rw [hi]
  · have h0 : n ≠ 0 := by simpa using h
    rw [if_neg h0] at hi
    repeat (first | ((with_reducible refine k_move ?_); refine m_move rfl ?_) | ((with_reducible refine k_assign ?_); refine m_assign rfl ?_)  | refine e_nrm ?_ | refine x_none rfl ?_ | with_reducible (first | refine q_then ?_ | refine awp_seq ?_ | refine awp_block ?_ | refine awp_skip ?_) | ((with_reducible refine w_region ?_ ?_); kernel_rfl))
    refine awp_loop (ι := Int × ByteArray) (fun q => (n < 0 → q.1 ≤ 0) ∧ (0 < n → 0 ≤ q.1) ∧ q.1.natAbs ≤ n.natAbs ∧ digs q.1.natAbs ++ q.2.data.toList = digs n.natAbs) (fun q => q.1.natAbs) (fun v q => [(0, .v (.int .i64 n)), (3, .v (.string q.2)), (4, .v (.int .i64 q.1))]) (fun v q => []) ?_ ?_
    · exact ⟨(n, ⟨#[]⟩), ⟨by show n < 0 → n ≤ 0; omega, by show 0 < n → 0 ≤ n; omega, Nat.le_refl _, by simp⟩, trivial, ⟨rfl, rfl, rfl, trivial⟩, trivial⟩
    rintro v ⟨m, s⟩ ⟨hm1, hm2, hm3, hf⟩
    simp only at hm1 hm2 hm3 hf
    dsimp only
    have hsl : s.size ≤ 19 := by
      have := congrArg List.length hf
      rw [List.length_append] at this
      have e : s.size = s.data.toList.length := by simp
      omega
    repeat (first | ((with_reducible refine k_move ?_); refine m_move rfl ?_) | ((with_reducible refine k_bin ?_); refine m_binI rfl rfl rfl ?_)  | refine e_nrm ?_ | refine x_none rfl ?_ | with_reducible (first | refine q_then ?_ | refine awp_seq ?_) | ((with_reducible refine w_region ?_ ?_); kernel_rfl))
    refine w_cond rfl (fun h => ?_) (fun h => ?_)
    · have hm0 : m ≠ 0 := by simpa using h
      obtain ⟨t1, t2, t3, t4⟩ := tdm m
      rw [digs_step (by omega), List.append_assoc] at hf
      have hwq : IntKind.i64.wrap (m.tdiv 10) = m.tdiv 10 := wrap_i64_in (by omega)
      repeat (first | ((with_reducible refine k_move ?_); refine m_move rfl ?_) | ((with_reducible refine k_assign ?_); refine m_assign rfl ?_) | ((with_reducible refine k_bin ?_); (first | refine m_binI rfl rfl rfl ?_ | refine x_rem rfl rfl (by first | decide | assumption | omega) ?_))  | refine e_nrm ?_ | refine x_none rfl ?_ | with_reducible (first | refine q_then ?_ | refine awp_seq ?_ | refine awp_block ?_ | refine awp_skip ?_) | ((with_reducible refine w_region ?_ ?_); kernel_rfl))
      refine w_cond rfl (fun hd => ?_) (fun hd => ?_)
      · have hd2 : m.tmod 10 < 0 := by simpa using hd
        have hw : IntKind.i64.wrap (0 - m.tmod 10) = ((m.natAbs % 10 : Nat) : Int) := by rw [wrap_i64_in (by omega)]; omega
        repeat (first | ((with_reducible refine k_move ?_); refine m_move rfl ?_) | ((with_reducible refine k_assign ?_); refine m_assign rfl ?_) | ((with_reducible refine k_un ?_); refine x_neg rfl ?_) | ((with_reducible refine k_convert ?_); refine x_conv_in tbOk rfl rfl rfl (by first | assumption | exact wrap_u64_in (by omega) | exact wrap_i64_in (by omega) | exact wrap_u8_in (by omega)) ?_) | ((with_reducible refine k_bin ?_); refine x_add_in rfl rfl (by omega) ?_) | ((with_reducible refine k_buildSlice ?_); refine m_buildSlice tbOk rfl rfl rfl rfl rfl (by omega) rfl rfl rfl ?_) | refine e_nrm ?_ | refine x_none rfl ?_ | with_reducible refine q_then ?_ | ((with_reducible refine w_region ?_ ?_); kernel_rfl))
        refine x_conv_bytes Tryz.underlying54 Tryz.underlying5 Tryz.underlying9 rfl rfl (by simp) ?_
        repeat (first | ((with_reducible refine k_move ?_); refine m_move rfl ?_)  | refine x_none rfl ?_  )
        refine x_add_s rfl rfl (by rw [strOfNums_size]; simp; omega) ?_
        repeat (first | ((with_reducible refine k_move ?_); refine m_move rfl ?_) | ((with_reducible refine k_assign ?_); refine m_assign rfl ?_) | ((with_reducible refine k_bin ?_); refine x_quo rfl rfl (by first | decide | assumption | omega) ?_)  | refine e_nrm ?_ | refine x_none rfl ?_ | with_reducible (first | refine q_then ?_ | refine q_block ?_) | ((with_reducible refine w_region ?_ ?_); kernel_rfl))
        refine ⟨(IntKind.i64.wrap (m.tdiv 10), strOfNums [48 + IntKind.i64.wrap (0 - m.tmod 10)] ++ s), ?_, ?_, ⟨rfl, rfl, rfl, trivial⟩, trivial⟩
        · dsimp only
          rw [hwq]
          refine ⟨by omega, by omega, by omega, ?_⟩
          rw [← hf, t1, ba_app, strOfNums_data, hw]
          refine congrArg (_ ++ ·) (congrArg (· ++ _) ?_)
          show [_] = [_]
          congr 2
        · dsimp only
          rw [hwq]
          omega
      · have hd2 : ¬ m.tmod 10 < 0 := by simpa using hd
        have hw : m.tmod 10 = ((m.natAbs % 10 : Nat) : Int) := by omega
        repeat (first | ((with_reducible refine k_move ?_); refine m_move rfl ?_) | ((with_reducible refine k_convert ?_); refine x_conv_in tbOk rfl rfl rfl (by first | assumption | exact wrap_u64_in (by omega) | exact wrap_i64_in (by omega) | exact wrap_u8_in (by omega)) ?_) | ((with_reducible refine k_bin ?_); refine x_add_in rfl rfl (by omega) ?_) | ((with_reducible refine k_buildSlice ?_); refine m_buildSlice tbOk rfl rfl rfl rfl rfl (by omega) rfl rfl rfl ?_) | refine x_none rfl ?_ | with_reducible (first | refine q_then ?_ | refine awp_skip ?_) | ((with_reducible refine w_region ?_ ?_); kernel_rfl))
        refine x_conv_bytes Tryz.underlying54 Tryz.underlying5 Tryz.underlying9 rfl rfl (by simp) ?_
        repeat (first | ((with_reducible refine k_move ?_); refine m_move rfl ?_)  | refine x_none rfl ?_  )
        refine x_add_s rfl rfl (by rw [strOfNums_size]; simp; omega) ?_
        repeat (first | ((with_reducible refine k_move ?_); refine m_move rfl ?_) | ((with_reducible refine k_assign ?_); refine m_assign rfl ?_) | ((with_reducible refine k_bin ?_); refine x_quo rfl rfl (by first | decide | assumption | omega) ?_)  | refine e_nrm ?_ | refine x_none rfl ?_ | with_reducible (first | refine q_then ?_ | refine q_block ?_) | ((with_reducible refine w_region ?_ ?_); kernel_rfl))
        refine ⟨(IntKind.i64.wrap (m.tdiv 10), strOfNums [48 + m.tmod 10] ++ s), ?_, ?_, ⟨rfl, rfl, rfl, trivial⟩, trivial⟩
        · dsimp only
          rw [hwq]
          refine ⟨by omega, by omega, by omega, ?_⟩
          rw [← hf, t1, ba_app, strOfNums_data, hw]
          refine congrArg (_ ++ ·) (congrArg (· ++ _) ?_)
          show [_] = [_]
          congr 2
        · dsimp only
          rw [hwq]
          omega
    · have hm0 : m = 0 := by simpa using h
      have hf2 : s.data.toList = digs n.natAbs := by rw [← hf, hm0]; rfl
      repeat (first | ((with_reducible refine k_move ?_); refine m_move rfl ?_) | ((with_reducible refine k_bin ?_); refine m_binI rfl rfl rfl ?_)  | refine e_nrm ?_ | refine x_none rfl ?_ | with_reducible (first | refine q_then ?_ | refine q_then_exit ?_ | refine awp_seq ?_ | refine awp_exit ?_) | ((with_reducible refine q_block_exit ?_ ?_); rfl) | ((with_reducible refine w_region ?_ ?_); kernel_rfl))
      refine w_cond rfl (fun hd => ?_) (fun hd => ?_)
      · rw [if_pos (by simpa using hd)] at hi
        repeat (first | ((with_reducible refine k_move ?_); refine m_move rfl ?_)  | refine x_none rfl ?_  | ((with_reducible refine w_region ?_ ?_); kernel_rfl))
        refine x_add_s rfl rfl (by show 1 + s.size ≤ _; omega) ?_
        repeat (first | ((with_reducible refine k_move ?_); refine m_move rfl ?_) | ((with_reducible refine k_assign ?_); refine m_assign rfl ?_)  | refine e_nrm ?_ | refine x_none rfl ?_ | with_reducible (first | refine q_then ?_ | refine awp_seq ?_ | refine awp_ret ?_) | ((with_reducible refine w_region ?_ ?_); kernel_rfl))
        refine ret_v (by first | exact .inr rfl | exact .inl rfl) rfl rfl ?_
        unfold txtP
        rw [hi, ← hf2]
        refine congrArg (fun s => AV.v (.string s)) (Eq.symm (ba_ext ?_))
        rw [ba_app]; rfl
      · rw [if_neg (by simpa using hd)] at hi
        repeat (first | ((with_reducible refine k_move ?_); refine m_move rfl ?_) | ((with_reducible refine k_assign ?_); refine m_assign rfl ?_)  | refine e_nrm ?_ | refine x_none rfl ?_ | with_reducible (first | refine q_then ?_ | refine awp_seq ?_ | refine awp_skip ?_ | refine awp_ret ?_) | ((with_reducible refine w_region ?_ ?_); kernel_rfl))
        refine ret_v (by first | exact .inr rfl | exact .inl rfl) rfl rfl ?_
        unfold txtP
        rw [hi, ← hf2]
end Go.Proofs.YtggagmafkdhjcaaGreatDoor
