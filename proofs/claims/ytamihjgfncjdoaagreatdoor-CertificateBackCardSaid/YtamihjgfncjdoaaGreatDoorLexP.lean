/- Words between spaces and lines, by plain functions on bytes; nothing of the program stands here / Lines, by plain functions on bytes; nothing of the program stands here / strings.FieldsFunc at spaces, strings.Split at a byte and strings.Join, by their contracts of the library, in the abstract machine; conditions: a cell of the library stands / Names, by plain functions on bytes: what lexeme.Name and its reference say, and that they say the same; nothing of the program stands here. -/
import Derived.Test.YtamihjgfncjdoaaGreatDoorRnP
import Derived.Lib.FieldsP
import Derived.Lib.SplitLaws
import Derived.Lib.Join
import Derived.Laws.RangeString
import Derived.Laws.RangeAny
import Derived.Lib.Split
import Derived.Test.YtamihjgfncjdoaaGreatDoorAbsN
import Derived.Test.YtamihjgfncjdoaaGreatDoorShelf
import Derived.Test.YtamihjgfncjdoaaGreatDoorLib
set_option linter.unusedVariables false
set_option linter.unusedSimpArgs false
namespace Go.Proofs.YtamihjgfncjdoaaGreatDoor
open Go Go.RowKit
/-- What joining words with single spaces gives. -/
def joinW (ws : List (List UInt8)) : List UInt8 := Lib.join ws [32]
theorem joinW_nil : joinW [] = [] := rfl
theorem joinW_one (w : List UInt8) : joinW [w] = w := Lib.join_one w [32]
theorem joinW_cons (w x : List UInt8) (r : List (List UInt8)) : joinW (w :: x :: r) = w ++ 32 :: joinW (x :: r) := by
  unfold joinW
  rw [Lib.join_cons, Lib.join_cons]
  unfold Lib.joinTail
  simp
section
variable {s : ByteArray}
end
end Go.Proofs.YtamihjgfncjdoaaGreatDoor
namespace Go.Proofs.YtamihjgfncjdoaaGreatDoor
open Go Go.RowKit
/-- The parts between the bytes c, behind a part that is begun. -/
def splitL (c : UInt8) : List UInt8 → List UInt8 → List (List UInt8)
  | cur, [] => [cur]
  | cur, x :: l => if x = c then cur :: splitL c [] l else splitL c (cur ++ [x]) l
theorem splitL_skip (c : UInt8) : ∀ (bs cur l : List UInt8), (∀ x ∈ bs, x ≠ c) → splitL c cur (bs ++ l) = splitL c (cur ++ bs) l
  | [], cur, l, _ => by simp
  | b :: bs, cur, l, h => by
    rw [List.cons_append, splitL, if_neg (h b (by simp)), splitL_skip c bs _ l (fun x hx => h x (by simp [hx]))]
    simp
theorem splitL_hit (c : UInt8) {p r cur : List UInt8} (h : c ∉ p) : splitL c cur (p ++ c :: r) = (cur ++ p) :: splitL c [] r := by
  rw [splitL_skip c p cur _ (fun x hx e => h (e ▸ hx)), splitL, if_pos rfl]
theorem splitL_none (c : UInt8) {p cur : List UInt8} (h : c ∉ p) : splitL c cur p = [cur ++ p] := by
  have := splitL_skip c p cur [] (fun x hx e => h (e ▸ hx))
  rw [List.append_nil] at this
  rw [this]; rfl
theorem index_at (c : UInt8) : ∀ (p r : List UInt8), c ∉ p → Lib.index (p ++ c :: r) [c] = (p.length : Int)
  | [], r, _ => by simp [Lib.index, List.isPrefixOf]
  | x :: p, r, h => by
    have hx : (c == x) = false := by
      rw [beq_eq_false_iff_ne]
      exact fun e => h (by simp [e])
    rw [List.cons_append, Lib.index]
    have hp : List.isPrefixOf [c] (x :: (p ++ c :: r)) = false := by simp [List.isPrefixOf, hx]
    rw [hp, index_at c p r (fun e => h (by simp [e]))]
    simp
theorem split_mem (c : UInt8) {l : List UInt8} (h : c ∈ l) : ∃ p r, l = p ++ c :: r ∧ c ∉ p := by
  induction l with
  | nil => simp at h
  | cons x l ih =>
    by_cases hx : x = c
    · exact ⟨[], l, by simp [hx], by simp⟩
    · rcases List.mem_cons.1 h with h | h
      · exact absurd h.symm hx
      · obtain ⟨p, r, e, hp⟩ := ih h
        exact ⟨x :: p, r, by simp [e], by simp [hp, Ne.symm hx]⟩
theorem splitK_L (c : UInt8) : ∀ (k : Nat) (l : List UInt8), l.count c = k → Lib.splitK [c] 0 k l = splitL c [] l
  | 0, l, h => by
    rw [splitL_none c (List.count_eq_zero.1 h)]
    rfl
  | k + 1, l, h => by
    obtain ⟨p, r, rfl, hp⟩ := split_mem c (List.count_pos_iff.1 (by rw [h]; omega))
    have hr : r.count c = k := by
      rw [List.count_append, List.count_cons_self, List.count_eq_zero.2 hp] at h
      omega
    rw [splitL_hit c hp, ← splitK_L c k r hr]
    have hne : ((p.length : Int) == -1) = false := by rw [beq_eq_false_iff_ne]; omega
    show (if (Lib.index (p ++ c :: r) [c] == -1) = true then [p ++ c :: r] else (p ++ c :: r).take ((Lib.index (p ++ c :: r) [c]).toNat + 0) :: Lib.splitK [c] 0 k ((p ++ c :: r).drop ((Lib.index (p ++ c :: r) [c]).toNat + 1))) = _
    rw [index_at c p r hp, hne]
    simp [List.drop_append]
    rw [List.drop_of_length_le (Nat.le_succ _), List.nil_append]
theorem splitB_L (s : ByteArray) (c : UInt8) : (Lib.splitB ⟨#[c]⟩ 0 (Lib.countB s ⟨#[c]⟩) s) = (splitL c [] s.data.toList).map fun l => ⟨l.toArray⟩ := by
  have h := Lib.splitB_data ⟨#[c]⟩ 0 (Lib.countB s ⟨#[c]⟩) s
  have hc : Lib.countB s ⟨#[c]⟩ = s.data.toList.count c := Lib.count_one c _
  rw [show (ByteArray.mk #[c]).data.toList = [c] from rfl, splitK_L c _ _ hc.symm] at h
  rw [← h, List.map_map]
  conv => lhs; rw [← List.map_id (Lib.splitB _ _ _ _)]
  rfl
theorem countB_L (s : ByteArray) (c : UInt8) : Lib.countB s ⟨#[c]⟩ + 1 = (splitL c [] s.data.toList).length := by
  have h := Lib.splitB_all ⟨#[c]⟩ (Nat.le_refl 1) 0 _ s rfl
  rw [splitB_L, List.length_map] at h
  exact h.symm
end Go.Proofs.YtamihjgfncjdoaaGreatDoor
namespace Go.Proofs.YtamihjgfncjdoaaGreatDoor
open Go Go.RowKit Go.Sort
set_option maxRecDepth 10000
variable {G : Nat → Option (List Value)}
def strL (l : List UInt8) : ByteArray := ⟨l.toArray⟩
def svL (l : List UInt8) : AV := .v (.string (strL l))
theorem strL_data (l : List UInt8) : (strL l).data.toList = l := by simp [strL]
theorem strL_size (l : List UInt8) : (strL l).size = l.length := by simp [strL, ByteArray.size]
def GMax (G : Nat → Option (List Value)) : Prop := ∃ m us, G 1 = some (.int .i64 m :: us)
/-- What a call of the library gives back: a new row of strings. -/
theorem acalls_rows {P : Program} {f : FuncId} {args : List AV} {L : List (List UInt8)} (he : Enter P f) (hl : L.length ≤ maxLen)
    (h : ∀ M w (vs : List Value), LiveM M w → (∀ g us, G g = some us → M g = some ⟨us⟩) → vs.length = args.length → (∀ (j : Nat) (x : AV) (u : Value), args[j]? = some x → vs[j]? = some u → Rep M (refρ []) x u) →
      Calls P f ⟨vs⟩ w (fun e w' => Below w.heap.size w w' ∧ ∃ A cur t fr, e = .returned (.slice (some ⟨A, 0, none⟩) L.length L.length) ∧ w.heap.size ≤ A ∧ w'.heap[A]? = some (.cells ⟨cur⟩ t fr) ∧ ∀ (j : Nat) (x : List UInt8), L[j]? = some x → cur[j]? = some (.string (strL x)))) :
    ACalls P G f args [] (.sl 1 (L.map svL)) [] := by
  refine ⟨he, fun M w gs us hlv hG hnd hr hv hrep => ?_⟩
  have hgs : gs = [] := List.eq_nil_of_length_eq_zero hr.len
  subst hgs
  refine (h M w us hlv hG hv hrep).mono ?_
  rintro en w' ⟨hb, A, cur, t, fr, rfl, hA, hh, hc⟩
  have hMA : M A = none := by
    cases hq : M A with
    | none => rfl
    | some arr =>
      obtain ⟨t', fr', h1⟩ := hlv A arr hq
      have := (Array.getElem?_eq_some_iff.1 h1).1
      omega
  have hmono : ∀ g a, M g = some a → updM M A ⟨cur⟩ g = some a := updM_mono hMA
  have hself : updM M A ⟨cur⟩ A = some ⟨cur⟩ := by simp [updM]
  refine ⟨_, updM M A ⟨cur⟩, [], rfl, hmono, fun g arr e => ?_, hb.os, hb.tape, hb.output, hb.size, fun g hg _ => hb.block g hg, fun g hg e => ?_, by simp, by simp, ⟨rfl, by simp⟩, ?_⟩
  · by_cases hg : g = A
    · subst hg
      rw [hself] at e
      injection e with e
      subst e
      exact ⟨t, fr, hh⟩
    · unfold updM at e
      rw [if_neg hg] at e
      obtain ⟨t', fr', h1⟩ := hlv g arr e
      exact ⟨t', fr', (hb.block g (Array.getElem?_eq_some_iff.1 h1).1).trans h1⟩
  · unfold updM
    rw [if_neg (by omega)]
    exact e
  · have key : Rep (updM M A ⟨cur⟩) (refρ []) (.sl 1 (L.map svL)) (.slice (some ⟨A, 0, none⟩) (L.map svL).length L.length) := by
      refine .sl _ 1 _ _ _ (fun k _ => ((L[k]?).map fun x => Value.string (strL x)).getD undef) (by simp) hl (fun k x j y hk hy => ?_) (fun k x hk => ?_)
      · rw [List.getElem?_map] at hk
        cases hx : L[k]? with
        | none => rw [hx] at hk; cases hk
        | some z =>
          rw [hx] at hk
          injection hk with hk
          subst hk
          match j, hy with
          | 0, hy => injection hy with hy; subst hy; exact .v _ _
      · rw [List.getElem?_map] at hk
        cases hx : L[k]? with
        | none => rw [hx] at hk; cases hk
        | some z =>
          rw [hx] at hk
          injection hk with hk
          subst hk
          refine ⟨rfl, A, 0, ⟨cur⟩, rfl, hself, fun j hj => ?_⟩
          obtain rfl : j = 0 := by omega
          have := hc k z hx
          simpa using this
    rw [List.length_map] at key
    exact key
theorem two_args {M : Nat → Option (Array Value)} {s t : Value} {vs : List Value} (hv : vs.length = 2) (h : ∀ (j : Nat) (x : AV) (u : Value), [AV.v s, AV.v t][j]? = some x → vs[j]? = some u → Rep M (refρ []) x u) : vs = [s, t] := by
  match vs, hv with
  | [u, v], _ =>
    have h1 := (h 0 _ u rfl rfl).v_inv
    have h2 := (h 1 _ v rfl rfl).v_inv
    rw [h1, h2]
/-- strings.Split at one byte. -/
theorem split_A (s : ByteArray) (c : UInt8) (hG : GMax G) (hs : s.size < 4294967281) : ACalls Tryz.prog G 27 [.v (.string s), .v (.string ⟨#[c]⟩)] [] (.sl 1 ((splitL c [] s.data.toList).map svL)) [] := by
  have hc := countB_L s c
  have hle := Lib.countB_le ⟨#[c]⟩ (Nat.le_refl 1) s.size s (Nat.le_refl _)
  refine acalls_rows (enter_of Tryz.func27 (by kernel_rfl) rfl) (by rw [← hc]; unfold maxLen; omega) fun M w vs hl hGM hv hrep => ?_
  obtain rfl := two_args hv hrep
  obtain ⟨m, us, hg⟩ := hG
  obtain ⟨t, fr, hh⟩ := hl _ _ (hGM _ _ hg)
  refine (Tryz.strings_Split s ⟨#[c]⟩ m w hs (by rw [cell_of_row w _ 0 _ t fr hh]; rfl) (Nat.le_refl 1)).mono ?_
  rintro e w' ⟨rfl, rfl⟩
  refine ⟨⟨rfl, rfl, rfl, by simp, fun g hg => Below.heap_alloc w _ g hg⟩, w.heap.size, (Lib.splitB ⟨#[c]⟩ 0 (Lib.countB s ⟨#[c]⟩) s).map Value.string, _, (0, 0), by rw [hc], Nat.le_refl _, heap_alloc_new w _, fun j x hx => ?_⟩
  rw [splitB_L, List.map_map, List.getElem?_map, hx]
  rfl
/-- strings.Join. -/
theorem join_A (L : List (List UInt8)) (c : UInt8) (hn : L.length ≤ 140737488355328) (hs : (Lib.join L [c]).length ≤ 140737488355328) : ACalls Tryz.prog G 39 [.sl 1 (L.map svL), .v (.string ⟨#[c]⟩)] [] (svL (Lib.join L [c])) [] := by
  refine ⟨enter_of Tryz.func39 (by kernel_rfl) rfl, fun M w gs us hl hG hnd hr hv hrep => ?_⟩
  have hgs : gs = [] := List.eq_nil_of_length_eq_zero hr.len
  subst hgs
  have fin : ∀ e w', e = .returned (.string (strL (Lib.join L [c]))) → Below w.heap.size w w' → CallPost M w [] (svL (Lib.join L [c])) [] e w' := fun e w' he hb =>
    ⟨_, M, [], he, fun _ _ e => e, fun g arr e => by
      obtain ⟨t, fr, h1⟩ := hl g arr e
      exact ⟨t, fr, (hb.block g (Array.getElem?_eq_some_iff.1 h1).1).trans h1⟩, hb.os, hb.tape, hb.output, hb.size, fun g hg _ => hb.block g hg, fun g _ e => e, by simp, by simp, ⟨rfl, by simp⟩, .v _ _⟩
  match us, hv with
  | [u, v], _ =>
    have h2 := (hrep 1 _ v rfl rfl).v_inv
    subst h2
    have h1 := hrep 0 _ u rfl rfl
    obtain ⟨A, cp, vs, rfl, e2, e2', e3, e4⟩ := h1.sl_inv
    rw [List.length_map] at e2
    rw [List.length_map]
    by_cases h0 : L = []
    · subst h0
      refine (Tryz.strings_Join_none A cp ⟨#[c]⟩ w).mono ?_
      rintro e w' ⟨rfl, rfl⟩
      exact fin _ _ rfl (Below.refl _ _)
    · obtain ⟨x0, hx0⟩ := some_at (L := L) (k := 0) (by have := List.length_pos_iff.2 h0; omega)
      obtain ⟨-, b, o, arr, rfl, f3, f4⟩ := e4 0 (svL x0) (by rw [List.getElem?_map, hx0]; rfl)
      obtain ⟨t, fr, hh⟩ := hl b arr f3
      have hmap : (L.map strL).map (·.data.toList) = L := by
        rw [List.map_map]
        conv => rhs; rw [← List.map_id L]
        exact List.map_congr_left fun x _ => strL_data x
      have := Tryz.strings_Join b o cp (L.map strL) ⟨#[c]⟩ w (fun j x hx => ?_) (Array.getElem?_eq_some_iff.1 hh).1 (by simpa using hn) (by simpa using e2) (by rw [hmap]; exact hs)
      · rw [List.length_map, hmap] at this
        refine this.mono ?_
        rintro e w' ⟨rfl, hb⟩
        exact fin _ _ rfl hb
      · rw [List.getElem?_map] at hx
        cases hy : L[j]? with
        | none => rw [hy] at hx; cases hx
        | some y =>
          rw [hy] at hx
          injection hx with hx
          subst hx
          have hs : (L.map svL)[j]? = some (svL y) := by rw [List.getElem?_map, hy]; rfl
          obtain ⟨-, b', o', arr', hA, g3, g4⟩ := e4 j (svL y) hs
          injection hA with hA
          injection hA with ha hb
          subst ha; subst hb
          rw [f3] at g3
          injection g3 with g3
          subst g3
          have h6 := g4 0 (by omega)
          rw [Nat.mul_one, Nat.add_zero] at h6
          rw [cell_of_row w b (o + j) arr t fr hh, h6]
          have := (e3 j (svL y) 0 _ hs rfl).v_inv
          rw [this]
end Go.Proofs.YtamihjgfncjdoaaGreatDoor
namespace Go.Proofs.YtamihjgfncjdoaaGreatDoor
open Go Go.RowKit
def clsTab : List (Int × Int × Bool) := [(65, 90, true), (97, 122, true), (48, 57, false), (95, 95, false)]
def fitsGo : List (Int × Int × Bool) → Int → Bool → Bool
  | [], _, _ => false
  | (lo, hi, fs) :: r, b, f => if lo ≤ b ∧ b ≤ hi then (fs || !f) else fitsGo r b f
def fitsB (b : Int) (f : Bool) : Bool := fitsGo clsTab b f
def fitsAll : List UInt8 → Bool → Bool
  | [], _ => true
  | c :: r, f => fitsB c.toNat f && fitsAll r false
def nameB (l : List UInt8) : Bool := fitsAll l true && decide (1 ≤ l.length) && decide (l.length ≤ 12)
def letterB (b : Int) : Bool := (decide (65 ≤ b) && decide (b ≤ 90)) || (decide (97 ≤ b) && decide (b ≤ 122))
def digitB (b : Int) : Bool := decide (48 ≤ b) && decide (b ≤ 57)
def charB (b : Int) : Bool := letterB b || digitB b || b == 95
def charsB : List UInt8 → Bool
  | [] => true
  | c :: r => charB c.toNat && charsB r
def rnameB (l : List UInt8) : Bool := match l with
  | [] => false
  | c :: r => decide ((c :: r).length ≤ 12) && letterB c.toNat && charsB (c :: r)
theorem fits_first (b : Int) : fitsB b true = letterB b := by
  unfold fitsB clsTab letterB
  simp only [fitsGo]
  by_cases h1 : 65 ≤ b ∧ b ≤ 90
  · simp [h1]
  · by_cases h2 : 97 ≤ b ∧ b ≤ 122
    · simp [h2]
    · have e1 : (decide (65 ≤ b) && decide (b ≤ 90)) = false := by simp; omega
      have e2 : (decide (97 ≤ b) && decide (b ≤ 122)) = false := by simp; omega
      rw [e1, e2, if_neg h1, if_neg h2]
      by_cases h3 : 48 ≤ b ∧ b ≤ 57
      · rw [if_pos h3]; rfl
      · rw [if_neg h3]
        by_cases h4 : 95 ≤ b ∧ b ≤ 95
        · rw [if_pos h4]; rfl
        · rw [if_neg h4]; rfl
theorem fits_later (b : Int) : fitsB b false = charB b := by
  unfold fitsB clsTab charB letterB digitB
  simp only [fitsGo]
  by_cases h1 : 65 ≤ b ∧ b ≤ 90
  · simp [h1]
  · by_cases h2 : 97 ≤ b ∧ b ≤ 122
    · simp [h2]
    · have e1 : (decide (65 ≤ b) && decide (b ≤ 90)) = false := by simp; omega
      have e2 : (decide (97 ≤ b) && decide (b ≤ 122)) = false := by simp; omega
      rw [e1, e2, if_neg h1, if_neg h2]
      by_cases h3 : 48 ≤ b ∧ b ≤ 57
      · simp [h3]
      · have e3 : (decide (48 ≤ b) && decide (b ≤ 57)) = false := by simp; omega
        rw [if_neg h3, e3]
        by_cases h4 : b = 95
        · simp [h4]
        · rw [if_neg (by omega)]
          simp [h4]
theorem fitsAll_later : ∀ l : List UInt8, fitsAll l false = charsB l
  | [] => rfl
  | c :: r => by rw [fitsAll, charsB, fits_later, fitsAll_later r]
theorem letter_char {b : Int} (h : letterB b = true) : charB b = true := by simp [charB, h]
theorem rname_eq (l : List UInt8) : rnameB l = nameB l := by
  cases l with
  | nil => rfl
  | cons c r =>
    unfold rnameB nameB
    have e : charsB (c :: r) = (charB c.toNat && charsB r) := rfl
    dsimp only
    rw [fitsAll, fits_first, fitsAll_later, e]
    cases hl : letterB c.toNat with
    | false => simp
    | true =>
      rw [letter_char hl]
      simp
      rw [Bool.and_comm]
end Go.Proofs.YtamihjgfncjdoaaGreatDoor
