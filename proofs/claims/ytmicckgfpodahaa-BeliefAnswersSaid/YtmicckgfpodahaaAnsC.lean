/- belief.All and its reference at any beliefs; conditions: slices read as lists, marks are Go integers. -/
import Derived.Test.YtmicckgfpodahaaAnsB
set_option linter.unusedVariables false
set_option linter.unusedSimpArgs false
namespace Go.Proofs.Ytmicckgfpodahaa
open Go Go.RowKit
def allL (L : List Bel) (R : List Rep) : List Bel := if checkE L = 0 then (allA L R).1 else []
def allN (L : List Bel) (R : List Rep) : Int := if checkE L = 0 then (allA L R).2 else R.length
def AllPost (L : List Bel) (R : List Rep) (w : World) (e : Ending) (w' : World) : Prop := ∃ v, e = .returned (.tuple #[v, .int .i64 (allN L R)]) ∧ ResL w w' v (allL L R) ∧ Below w.heap.size w w'
set_option maxHeartbeats 2000000 in
theorem all_bad (A B : Option Addr) (c d m : Nat) (L : List Bel) (w : World) (S : Nat → Prop) (hS : ∀ b, S b → b < w.heap.size) (h : Rd w S A 3 Bel.cells L) (E : Int) (hE : checkE L = E) (h0 : (E != 0) = true) :
    Calls Try.prog 22 #[.slice A L.length c, .slice B m d] w fun e w' => e = .returned (.tuple #[.slice none 0 0, .int .i64 m]) ∧ Below w.heap.size w w' := by
  have hce := fun W hS' hR => check_any A c L W S hS' hR
  rw [hE] at hce
  have HCE := hide hce
  clear hce hE
  go_enter Try.func22, Try.ntmps22
  go_wp2_with fail
  refine (HCE.out _ hS h).mono ?_
  rintro e w1 ⟨rfl, hb1⟩
  go_wp2_with fail
  go_ret2
  exact ⟨rfl, hb1⟩
set_option maxHeartbeats 2000000 in
theorem rall_bad (A B : Option Addr) (c d m : Nat) (L : List Bel) (w : World) (S : Nat → Prop) (hS : ∀ b, S b → b < w.heap.size) (h : Rd w S A 3 Bel.cells L) (E : Int) (hE : rcheckE L = E) (h0 : (E != 0) = true) :
    Calls Try.prog 26 #[.slice A L.length c, .slice B m d] w fun e w' => e = .returned (.tuple #[.slice none 0 0, .int .i64 m]) ∧ Below w.heap.size w w' := by
  have hce := fun W hS' hR => rcheck_any A c L W S hS' hR
  rw [hE] at hce
  have HCE := hide hce
  clear hce hE
  go_enter Try.func26, Try.ntmps26
  go_wp2_with fail
  refine (HCE.out _ hS h).mono ?_
  rintro e w1 ⟨rfl, hb1⟩
  go_wp2_with fail
  go_ret2
  exact ⟨rfl, hb1⟩
theorem report_none (d p s t : Int) (b : Bool) : reportE d p s t b 0 = 8 := report_dev (by omega)
theorem allA_nil (R : List Rep) : ∀ n : Int, R.foldl (stepA 0) (([] : List Bel), n) = ([], n + R.length) := by
  induction R with
  | nil => intro n; simp
  | cons r R ih =>
    intro n
    rw [List.foldl_cons, stepA, if_neg (by rw [report_none]; decide), ih]
    simp
    omega
set_option maxHeartbeats 4000000 in
theorem all_none (A B : Option Addr) (c d : Nat) (R : List Rep) (w : World) (S : Nat → Prop) (hS : ∀ b, S b → b < w.heap.size) (hA : A = none → c = 0) (hR : Rd w S B 5 Rep.cells R) (hm : R.length < 4611686018427387904) :
    Calls Try.prog 22 #[.slice A 0 c, .slice B R.length d] w fun e w' => ∃ A' c', e = .returned (.tuple #[.slice A' 0 c', .int .i64 R.length]) ∧ Below w.heap.size w w' := by
  have hnil : Rd w S A 3 Bel.cells ([] : List Bel) := Rd.nil _ _ _ _ _
  have hce := fun W hS' hR => check_any A c ([] : List Bel) W S hS' hR
  rw [show checkE [] = 0 from rfl] at hce
  have HCE := hide hce
  have hra := fun d p s t b W => report_any d p s t b 0 W
  have hra2 : ∀ d p s t b W, Calls Try.prog 38 #[.agg #[.int .i64 d, .int .i64 p, .int .i64 s, .int .i64 t, .bool b], .int .i64 0] W fun e w' => e = .returned (.int .i64 8) ∧ Below W.heap.size W w' := fun d p s t b W => by
    have := hra d p s t b W
    rw [report_none] at this
    exact this
  have HRA := hide hra2
  have hcl := fun W hS' => clone_any A c ([] : List Bel) W S (Rd.nil _ _ _ _ _) hA (by simp) hS'
  have HCL := hide hcl
  clear hce hra hra2 hcl
  simp only [List.length_nil] at HCE HCL
  go_enter Try.func22, Try.ntmps22
  go_wp2_with fail
  refine (HCE.out _ hS (Rd.nil _ _ _ _ _)).mono ?_
  rintro e w1 ⟨rfl, hb1⟩
  have z1 := hb1.size
  go_wp2_with fail
  refine (HCL.out w1 (fun b hb => Nat.lt_of_lt_of_le (hS b hb) z1)).mono ?_
  rintro e w2 ⟨v, rfl, hown, hb2⟩
  obtain ⟨g, cap, rfl, -⟩ := own_shape hown
  have z2 := hb2.size
  have b2 := hb1.trans (hb2.mono z1)
  have HR := hide hR
  clear hown hR hb1 hb2 HCE HCL hnil
  go_wp2_with fail
  go_loopw [7, 19] (fun n i wr => ∃ (k : Nat), n = .int .i64 k ∧ i = .int .i64 k ∧ k ≤ R.length ∧ Below w.heap.size w wr) (fun _ i _ => R.length - (intOf i).toNat)
  case atStart => exact ⟨0, rfl, rfl, Nat.zero_le _, b2⟩
  case round =>
    obtain ⟨k, rfl, rfl, hk, hb⟩ := hrel
    by_cases hlt : k < R.length
    · have hlt' : (k : Int) < (R.length : Int) := by omega
      obtain ⟨⟨dd, p, s, t, bb⟩, hx⟩ := some_at hlt
      obtain ⟨b, o, rfl, hsb, hcc⟩ := (HR.out.below hb hS).at_ hx
      have c0 := hcc 0 _ rfl
      have c1 := hcc 1 _ rfl
      have c2 := hcc 2 _ rfl
      have c3 := hcc 3 _ rfl
      have c4 := hcc 4 _ rfl
      simp only [Nat.add_zero] at c0 c1 c2 c3 c4
      clear hx hcc
      go_wp2_with fail
      refine (HRA.out dd p s t bb _).mono ?_
      rintro e w3 ⟨rfl, hb3⟩
      have bb3 := (hb.alloc (by have := hb.size; omega) (.cells #[.int .i64 dd, .int .i64 p, .int .i64 s, .int .i64 t, .bool bb] 33)).trans (hb3.mono (by simp; have := hb.size; omega))
      clear c0 c1 c2 c3 c4 hb3
      go_wp2_with fail
      go_roundw
      case rel => exact ⟨k + 1, by go_num, by go_num, by omega, bb3⟩
      case measure => simp [intOf]; omega
    · obtain rfl : k = R.length := by omega
      go_wp2_with fail
      go_ret2
      exact ⟨_, _, rfl, hb⟩
theorem all_any (A B : Option Addr) (c d : Nat) (L : List Bel) (R : List Rep) (w : World) (S : Nat → Prop) (hS : ∀ b, S b → b < w.heap.size) (h : Rd w S A 3 Bel.cells L) (hA : A = none → c = 0) (hR : Rd w S B 5 Rep.cells R) (hm : R.length < 4611686018427387904) :
    Calls Try.prog 22 #[.slice A L.length c, .slice B R.length d] w (AllPost L R w) := by
  unfold AllPost allN allL
  by_cases hE : checkE L = 0
  · rw [if_pos hE, if_pos hE]
    by_cases hp : 0 < L.length
    · exact (all_good A B c d L R w S hS h hA hR hE hm hp).mono fun e w' ⟨A', c', he, hr, hb⟩ => ⟨_, he, ⟨A', c', by rw [show (allA L R).1.length = L.length from foldA_len _ _ _], hr⟩, hb⟩
    · have hL : L = [] := List.eq_nil_of_length_eq_zero (by omega)
      subst hL
      have e1 : allA [] R = ([], (R.length : Int)) := by
        have := allA_nil R 0
        simpa [allA] using this
      rw [e1]
      exact (all_none A B c d R w S hS hA hR hm).mono fun e w' ⟨A', c', he, hb⟩ => ⟨_, he, ⟨A', c', rfl, Rd.nil _ _ _ _ _⟩, hb⟩
  · rw [if_neg hE, if_neg hE]
    exact (all_bad A B c d _ L w S hS h _ rfl (by simpa using hE)).mono fun e w' ⟨he, hb⟩ => ⟨_, he, ResL.nil _ _, hb⟩
set_option maxHeartbeats 4000000 in
theorem rall_good (A B : Option Addr) (c d : Nat) (L : List Bel) (R : List Rep) (w : World) (S : Nat → Prop) (hS : ∀ b, S b → b < w.heap.size) (h : Rd w S A 3 Bel.cells L) (hR : Rd w S B 5 Rep.cells R) (hG : GoodL L) (hm : R.length < 4611686018427387904) :
    Calls Try.prog 26 #[.slice A L.length c, .slice B R.length d] w fun e w' => ∃ v, e = .returned (.tuple #[v, .int .i64 (allA L R).2]) ∧ ResL w w' v (allA L R).1 ∧ Below w.heap.size w w' := by
  have hl : L.length ≤ 64 := hG.2.1
  obtain ⟨i0, hi, hz0, hz1, hz2⟩ := info_parts infoBel
  have hce := fun W hS' hR => rcheck_any A c L W S hS' hR
  rw [(rcheck_eq L hG.1).trans ((checkE_iff L).2 hG.2)] at hce
  have HCE := hide hce
  have HG := hide hG
  clear hce hG
  go_enter Try.func26, Try.ntmps26
  go_wp2_with fail
  refine (HCE.out _ hS h).mono ?_
  rintro e w1 ⟨rfl, hb1⟩
  have z1 := hb1.size
  have R1 := h.below hb1 hS
  go_wp2_with (at_builtin; refine wpList_append_any _ rfl (.const (.slice none 0 0)) (.tmp 16) 37 rfl w1.heap.size 30 i0 _ 3 24 Try.underlying37 hi hz0 hz1 hz2 rfl (by omega) (.slice none 0 0) 0 [] rfl (World.ownsRow_nil _ _ _ _) A L.length c (L.flatMap Bel.cells) rfl (flat_len bel_len L) (fun h0 => R1.flat (by omega) bel_len h0) (flat_one bel_one L) (by simp only [maxLen]; omega) (by omega) (by simp) ?_; intro v3 w3 hown3 hg3 hat3; simp only [Nat.zero_add, List.nil_append] at hown3)
  have b3 := hb1.grown hg3 z1 (fun k hk => by cases hk)
  obtain ⟨A3, c3, rfl, -⟩ := own_shape hown3
  have R3 := (Rd.of_own (by omega) bel_len hown3).mono (S' := fun b => w.heap.size ≤ b ∧ b < w3.heap.size) fun b hb => ⟨by omega, hb.2⟩
  have HR := hide hR
  clear hown3 hR hb1 HCE R1 hg3 hat3
  go_wp2_with fail
  go_loopw [6, 7, 8] (fun o n i wr => ∃ (k N : Nat) (Lc : List Bel) (Ac : Option Addr) (cc : Nat), o = .slice Ac Lc.length cc ∧ n = .int .i64 N ∧ i = .int .i64 k ∧ N ≤ k ∧ k ≤ R.length ∧ Hid ((R.take k).foldl (stepA L.length) (L, 0) = (Lc, (N : Int))) ∧
     Hid (GoodL Lc) ∧ Rd wr (fun b => w.heap.size ≤ b ∧ b < wr.heap.size) Ac 3 Bel.cells Lc ∧ Below w.heap.size w wr) (fun _ _ i _ => R.length - (intOf i).toNat)
  case atStart => exact ⟨0, 0, L, A3, c3, rfl, rfl, rfl, Nat.le_refl _, Nat.zero_le _, hide rfl, HG, R3, b3⟩
  case round =>
    obtain ⟨k, N, Lc, Ac, cc, rfl, rfl, rfl, hN, hk, hf, hg, hrd, hb⟩ := hrel
    clear R3 b3
    by_cases hlt : k < R.length
    · have hlt' : (k : Int) < (R.length : Int) := by omega
      obtain ⟨⟨dd, p, s, t, bb⟩, hx⟩ := some_at hlt
      obtain ⟨b, o, rfl, hsb, hcc⟩ := (HR.out.below hb hS).at_ hx
      have c0 := hcc 0 _ rfl
      have c1 := hcc 1 _ rfl
      have c2 := hcc 2 _ rfl
      have c3 := hcc 3 _ rfl
      have c4 := hcc 4 _ rfl
      simp only [Nat.add_zero] at c0 c1 c2 c3 c4
      have HX := hide hx
      have hLc : Lc.length = L.length := by
        have e := foldA_len L.length (R.take k) (L, 0)
        rw [hf.out] at e
        exact e
      have hck : checkE Lc = 0 := (checkE_iff Lc).2 hg.out.2
      have HLC := hide hLc
      have hap := rapply_any Ac cc Lc ⟨dd, p, s, t, bb⟩ wr _ (fun b hb => hb.2) hrd hg.out.1
      have ea : applyE Lc ⟨dd, p, s, t, bb⟩ = reportE dd p s t bb L.length := by unfold applyE; rw [if_pos hck, hLc]
      have eb : applyL Lc ⟨dd, p, s, t, bb⟩ = if reportE dd p s t bb L.length = 0 then Lc.set dd.toNat (merge (Lc[dd.toNat]?.getD ⟨0, 0, 0⟩) ⟨dd, p, s, t, bb⟩) else [] := by
        unfold applyL
        simp only [hck, hLc, true_and]
      have EA := hide ea
      have EB := hide eb
      have HAP := hide hap
      clear ea eb
      clear hx hcc hap hck hLc
      go_wp2_with fail
      refine HAP.out.mono ?_
      rintro e w4 ⟨v4, rfl, hres, hb4⟩
      have z4 := hb4.size
      have bb4 := hb.trans (hb4.mono hb.size)
      clear c0 c1 c2 c3 c4
      rw [EB.out] at hres
      rw [EA.out]
      by_cases hz : reportE dd p s t bb L.length = 0
      · rw [if_pos hz] at hres
        obtain ⟨A4, c4, rfl, R4⟩ := hres
        rw [hz]
        go_wp2_with fail
        go_roundw
        case rel =>
          refine ⟨k + 1, N, Lc.set dd.toNat (merge (Lc[dd.toNat]?.getD ⟨0, 0, 0⟩) ⟨dd, p, s, t, bb⟩), A4, c4, by rw [List.length_set], by first | rfl | trivial, by go_num, by omega, by omega, hide ?_, hide ?_, R4.mono fun b hb' => ⟨by have := hb.size; omega, hb'.2⟩, bb4⟩
          · rw [take_at HX.out, allA_snoc, hf.out, stepA, if_pos hz]
          · have := stepA_good (N := N) (k := L.length) (r := ⟨dd, p, s, t, bb⟩) hg.out
            rw [stepA, if_pos hz] at this
            exact this
        case measure => simp [intOf]; omega
      · have hz' : (reportE dd p s t bb L.length != 0) = true := by simp [hz]
        obtain ⟨A4, c4, rfl, -⟩ := hres
        go_wp2_with fail
        go_roundw
        case rel =>
          refine ⟨k + 1, N + 1, Lc, Ac, cc, by first | rfl | trivial, by go_num, by go_num, by omega, by omega, hide ?_, hg, (hrd.below hb4 fun b hb => hb.2).mono fun b hb => ⟨hb.1, by omega⟩, bb4⟩
          rw [take_at HX.out, allA_snoc, hf.out, stepA, if_neg hz]
          simp
        case measure => simp [intOf]; omega
    · obtain rfl : k = R.length := by omega
      have hf := hf.out
      rw [List.take_length] at hf
      go_wp2_with fail
      go_ret2
      have e1 : (allA L R).2 = N := by unfold allA; rw [hf]
      have e2 : (allA L R).1 = Lc := by unfold allA; rw [hf]
      rw [e1, e2]
      exact ⟨_, rfl, ⟨_, _, rfl, hrd⟩, hb⟩
theorem rall_any (A B : Option Addr) (c d : Nat) (L : List Bel) (R : List Rep) (w : World) (S : Nat → Prop) (hS : ∀ b, S b → b < w.heap.size) (h : Rd w S A 3 Bel.cells L) (hI : ∀ b ∈ L, I64 b.m) (hR : Rd w S B 5 Rep.cells R) (hm : R.length < 4611686018427387904) :
    Calls Try.prog 26 #[.slice A L.length c, .slice B R.length d] w (AllPost L R w) := by
  unfold AllPost allN allL
  by_cases hE : checkE L = 0
  · rw [if_pos hE, if_pos hE]
    have hk := (checkE_iff L).1 hE
    exact rall_good A B c d L R w S hS h hR ⟨hI, hk.1, hk.2⟩ hm
  · rw [if_neg hE, if_neg hE]
    exact (rall_bad A B c d _ L w S hS h _ (rcheck_eq L hI) (by simpa using hE)).mono fun e w' ⟨he, hb⟩ => ⟨_, he, ResL.nil _ _, hb⟩
end Go.Proofs.Ytmicckgfpodahaa
