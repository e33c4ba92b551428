/- strings.FieldsFunc at spaces, strings.Split at a byte and strings.Join, by their contracts of the library, in the abstract machine; conditions: a cell of the library stands. -/
import Derived.Test.YtggagmafkdhjcaaGreatDoorAbsN
import Derived.Test.YtggagmafkdhjcaaGreatDoorTab
import Derived.Test.YtggagmafkdhjcaaGreatDoorLnP
import Derived.Test.YtggagmafkdhjcaaGreatDoorShelf
set_option linter.unusedVariables false
set_option linter.unusedSimpArgs false
namespace Go.Proofs.YtggagmafkdhjcaaGreatDoor
open Go Go.RowKit Go.Sort
set_option maxRecDepth 10000
variable {G : Nat → Option (List Value)}
def strL (l : List UInt8) : ByteArray := ⟨l.toArray⟩
def svL (l : List UInt8) : AV := .v (.string (strL l))
theorem jX (l : List UInt8) : (strL l).data.toList = l := by simp [strL]
theorem jx (l : List UInt8) : (strL l).size = l.length := by simp [strL, ByteArray.size]
theorem oG (s : ByteArray) : strL s.data.toList = s := rfl
def GMax (G : Nat → Option (List Value)) : Prop := ∃ m us, G 1 = some (.int .i64 m :: us)
/-- What a call of the library gives back: a new row of strings. -/
theorem dE {P : Program} {f : FuncId} {args : List AV} {L : List (List UInt8)} (he : aT P f) (hl : L.length ≤ maxLen)
    (h : ∀ M w (vs : List Value), cJ M w → (∀ g us, G g = some us → M g = some ⟨us⟩) → vs.length = args.length → (∀ (j : Nat) (x : AV) (u : Value), args[j]? = some x → vs[j]? = some u → Rep M (refρ []) x u) →
      Calls P f ⟨vs⟩ w (fun e w' => Below w.heap.size w w' ∧ ∃ A cur t fr, e = .returned (.slice (some ⟨A, 0, none⟩) L.length L.length) ∧ w.heap.size ≤ A ∧ w'.heap[A]? = some (.cells ⟨cur⟩ t fr) ∧ ∀ (j : Nat) (x : List UInt8), L[j]? = some x → cur[j]? = some (.string (strL x)))) :
    jD P G f args [] (.sl 1 (L.map svL)) [] := by
  refine ⟨he, fun M w gs us hlv hG hnd hr hv hrep => ?_⟩
  have hgs : gs = [] := List.eq_nil_of_length_eq_zero hr.len
  subst hgs
  refine (h M w us hlv hG hv hrep).mono ?_
  rintro en w' ⟨hb, A, cur, t, fr, rfl, hA, hh, hc⟩
  have hMA : M A = none := by
    cases hq : M A with
    | none => rfl
    | some arr =>
      obtain ⟨t', fr', h1⟩ := hlv A arr hq
      have := (Array.getElem?_eq_some_iff.1 h1).1
      omega
  have hmono : ∀ g a, M g = some a → updM M A ⟨cur⟩ g = some a := cY hMA
  have hself : updM M A ⟨cur⟩ A = some ⟨cur⟩ := by simp [updM]
  refine ⟨_, updM M A ⟨cur⟩, [], rfl, hmono, fun g arr e => ?_, hb.os, hb.tape, hb.output, hb.size, fun g hg _ => hb.block g hg, fun g hg e => ?_, by simp, by simp, ⟨rfl, by simp⟩, ?_⟩
  · by_cases hg : g = A
    · subst hg
      rw [hself] at e
      injection e with e
      subst e
      exact ⟨t, fr, hh⟩
    · unfold updM at e
      rw [if_neg hg] at e
      obtain ⟨t', fr', h1⟩ := hlv g arr e
      exact ⟨t', fr', (hb.block g (Array.getElem?_eq_some_iff.1 h1).1).trans h1⟩
  · unfold updM
    rw [if_neg (by omega)]
    exact e
  · have key : Rep (updM M A ⟨cur⟩) (refρ []) (.sl 1 (L.map svL)) (.slice (some ⟨A, 0, none⟩) (L.map svL).length L.length) := by
      refine .sl _ 1 _ _ _ (fun k _ => ((L[k]?).map fun x => Value.string (strL x)).getD undef) (by simp) hl (fun k x j y hk hy => ?_) (fun k x hk => ?_)
      · rw [List.getElem?_map] at hk
        cases hx : L[k]? with
        | none => rw [hx] at hk; cases hk
        | some z =>
          rw [hx] at hk
          injection hk with hk
          subst hk
          match j, hy with
          | 0, hy => injection hy with hy; subst hy; exact .v _ _
      · rw [List.getElem?_map] at hk
        cases hx : L[k]? with
        | none => rw [hx] at hk; cases hk
        | some z =>
          rw [hx] at hk
          injection hk with hk
          subst hk
          refine ⟨rfl, A, 0, ⟨cur⟩, rfl, hself, fun j hj => ?_⟩
          obtain rfl : j = 0 := by omega
          have := hc k z hx
          simpa using this
    rw [List.length_map] at key
    exact key
theorem rI {M : Nat → Option (Array Value)} {s t : Value} {vs : List Value} (hv : vs.length = 2) (h : ∀ (j : Nat) (x : AV) (u : Value), [AV.v s, AV.v t][j]? = some x → vs[j]? = some u → Rep M (refρ []) x u) : vs = [s, t] := by
  match vs, hv with
  | [u, v], _ =>
    have h1 := (h 0 _ u rfl rfl).v_inv
    have h2 := (h 1 _ v rfl rfl).v_inv
    rw [h1, h2]
/-- strings.Split at one byte. -/
theorem tS (s : ByteArray) (c : UInt8) (hG : GMax G) (hs : s.size < 4294967281) : jD Tryz.prog G 56 [.v (.string s), .v (.string ⟨#[c]⟩)] [] (.sl 1 ((jo c [] s.data.toList).map svL)) [] := by
  have hc := sV s c
  have hle := Lib.countB_le ⟨#[c]⟩ (Nat.le_refl 1) s.size s (Nat.le_refl _)
  refine dE (yj Tryz.func56 (by kernel_rfl) rfl) (by rw [← hc]; unfold maxLen; omega) fun M w vs hl hGM hv hrep => ?_
  obtain rfl := rI hv hrep
  obtain ⟨m, us, hg⟩ := hG
  obtain ⟨t, fr, hh⟩ := hl _ _ (hGM _ _ hg)
  refine (Tryz.strings_Split s ⟨#[c]⟩ m w hs (by rw [cell_of_row w _ 0 _ t fr hh]; rfl) (Nat.le_refl 1)).mono ?_
  rintro e w' ⟨rfl, rfl⟩
  refine ⟨⟨rfl, rfl, rfl, by simp, fun g hg => Below.heap_alloc w _ g hg⟩, w.heap.size, (Lib.splitB ⟨#[c]⟩ 0 (Lib.countB s ⟨#[c]⟩) s).map Value.string, _, (0, 0), by rw [hc], Nat.le_refl _, heap_alloc_new w _, fun j x hx => ?_⟩
  rw [lU, List.map_map, List.getElem?_map, hx]
  rfl
/-- strings.FieldsFunc at spaces. -/
theorem uU (r : Int) : jD Tryz.prog G 80 [.v (.int .i32 r)] [] (.v (.bool (r == 32))) [] := by
  refine yi tbOk (yj Tryz.func80 (by kernel_rfl) rfl) Tryz.func80 rfl _ Tryz.ntmps80 (Nat.le_of_ble_eq_true rfl) fun X hX => ?_
  subst hX
  repeat (first | ((with_reducible refine zm ?_); refine zl rfl ?_) | ((with_reducible refine zL ?_); refine zM rfl ?_) | ((with_reducible refine zA ?_); refine yM rfl rfl rfl ?_)  | refine yA ?_ | refine zS rfl ?_ | with_reducible (first | refine zY ?_ | refine zR ?_ | refine zv ?_) | ((with_reducible refine zJ ?_ ?_); kernel_rfl))
  refine jK (by first | exact .inr rfl | exact .inl rfl) rfl rfl ?_
  rfl
theorem pQ (s : ByteArray) (hs : s.size ≤ 4294967296) : jD Tryz.prog G 79 [.v (.string s), .fn 80 []] [] (.sl 1 ((jR s.data.toList).map svL)) [] := by
  have hfw := iA s
  have hlen : (Lib.goFieldsP spP s).length = (jR s.data.toList).length := by rw [hfw, List.length_map]
  have hcnt := aU (l := s.data.toList) (cur := [])
  have hz : s.size = s.data.toList.length := by simp
  refine dE (yj Tryz.func79 (by kernel_rfl) rfl) (by unfold maxLen; show (wl [] s.data.toList).length ≤ _; omega) fun M w vs hl hGM hv hrep => ?_
  match vs, hv with
  | [u, v], _ =>
    have h1 := (hrep 0 _ u rfl rfl).v_inv
    subst h1
    have h2 := hrep 1 _ v rfl rfl
    cases h2 with
    | fn _ _ _ vs0 hl0 _ =>
      obtain rfl : vs0 = [] := List.eq_nil_of_length_eq_zero (by simpa using hl0)
      refine (Tryz.strings_FieldsFunc_grows 80 ⟨[]⟩ (yj Tryz.func80 (by kernel_rfl) rfl) spP s w hs (fun W x hx hb => ?_)).mono ?_
      · have hc := uU (G := fun _ => none) (x : Int)
        refine (hc.2 (fun _ => none) W [] [.int .i32 x] (fun g a e => by cases e) (fun g us e => by cases e) (by simp) ⟨rfl, by simp⟩ rfl (fun j y u a b => ?_)).mono ?_
        · match j, a, b with
          | 0, a, b => cases a; cases b; exact .v _ _
        · rintro e w' ⟨u, M', gs', rfl, -, -, q1, q2, q3, q4, q5, -, -, -, -, q6⟩
          have := q6.v_inv
          subst this
          refine ⟨?_, q1, q2, q3, q4, fun g hg => q5 g hg (by simp)⟩
          have : ((x : Int) == 32) = spP x := by
            unfold spP
            rw [Bool.eq_iff_iff]
            simp
            omega
          rw [this]
      · rintro e w' ⟨A, rfl, hA, hown, hb⟩
        obtain ⟨-, h3⟩ := hown
        rcases h3 with ⟨h3, -⟩ | ⟨g, cap, cur, h3, h4, h5, h6, h7, h8, h9⟩
        · cases h3
        · injection h3 with h3
          injection h3 with h3
          injection h3 with h3
          subst h3
          obtain ⟨cl⟩ := cur
          refine ⟨hb, A, cl, _, (0, 0), by rw [hlen], hA, h5, fun j x hx => ?_⟩
          have h9' : cl.take ((Lib.goFieldsP spP s).length * 1) = (Lib.goFieldsP spP s).map Value.string := h9
          have hj : ((Lib.goFieldsP spP s).map Value.string)[j]? = some (.string (strL x)) := by
            rw [hfw, List.map_map, List.getElem?_map, hx]; rfl
          rw [← h9', List.getElem?_take] at hj
          split at hj
          · exact hj
          · cases hj
/-- strings.Join. -/
theorem wN (L : List (List UInt8)) (c : UInt8) (hn : L.length ≤ 140737488355328) (hs : (Lib.join L [c]).length ≤ 140737488355328) : jD Tryz.prog G 54 [.sl 1 (L.map svL), .v (.string ⟨#[c]⟩)] [] (svL (Lib.join L [c])) [] := by
  refine ⟨yj Tryz.func54 (by kernel_rfl) rfl, fun M w gs us hl hG hnd hr hv hrep => ?_⟩
  have hgs : gs = [] := List.eq_nil_of_length_eq_zero hr.len
  subst hgs
  have fin : ∀ e w', e = .returned (.string (strL (Lib.join L [c]))) → Below w.heap.size w w' → cF M w [] (svL (Lib.join L [c])) [] e w' := fun e w' he hb =>
    ⟨_, M, [], he, fun _ _ e => e, fun g arr e => by
      obtain ⟨t, fr, h1⟩ := hl g arr e
      exact ⟨t, fr, (hb.block g (Array.getElem?_eq_some_iff.1 h1).1).trans h1⟩, hb.os, hb.tape, hb.output, hb.size, fun g hg _ => hb.block g hg, fun g _ e => e, by simp, by simp, ⟨rfl, by simp⟩, .v _ _⟩
  match us, hv with
  | [u, v], _ =>
    have h2 := (hrep 1 _ v rfl rfl).v_inv
    subst h2
    have h1 := hrep 0 _ u rfl rfl
    obtain ⟨A, cp, vs, rfl, e2, e2', e3, e4⟩ := h1.sl_inv
    rw [List.length_map] at e2
    rw [List.length_map]
    by_cases h0 : L = []
    · subst h0
      refine (Tryz.strings_Join_none A cp ⟨#[c]⟩ w).mono ?_
      rintro e w' ⟨rfl, rfl⟩
      exact fin _ _ rfl (Below.refl _ _)
    · obtain ⟨x0, hx0⟩ := yr (L := L) (k := 0) (by have := List.length_pos_iff.2 h0; omega)
      obtain ⟨-, b, o, arr, rfl, f3, f4⟩ := e4 0 (svL x0) (by rw [List.getElem?_map, hx0]; rfl)
      obtain ⟨t, fr, hh⟩ := hl b arr f3
      have hmap : (L.map strL).map (·.data.toList) = L := by
        rw [List.map_map]
        conv => rhs; rw [← List.map_id L]
        exact List.map_congr_left fun x _ => jX x
      have := Tryz.strings_Join b o cp (L.map strL) ⟨#[c]⟩ w (fun j x hx => ?_) (Array.getElem?_eq_some_iff.1 hh).1 (by simpa using hn) (by simpa using e2) (by rw [hmap]; exact hs)
      · rw [List.length_map, hmap] at this
        refine this.mono ?_
        rintro e w' ⟨rfl, hb⟩
        exact fin _ _ rfl hb
      · rw [List.getElem?_map] at hx
        cases hy : L[j]? with
        | none => rw [hy] at hx; cases hx
        | some y =>
          rw [hy] at hx
          injection hx with hx
          subst hx
          have hs : (L.map svL)[j]? = some (svL y) := by rw [List.getElem?_map, hy]; rfl
          obtain ⟨-, b', o', arr', hA, g3, g4⟩ := e4 j (svL y) hs
          injection hA with hA
          injection hA with ha hb
          subst ha; subst hb
          rw [f3] at g3
          injection g3 with g3
          subst g3
          have h6 := g4 0 (by omega)
          rw [Nat.mul_one, Nat.add_zero] at h6
          rw [cell_of_row w b (o + j) arr t fr hh, h6]
          have := (e3 j (svL y) 0 _ hs rfl).v_inv
          rw [this]
end Go.Proofs.YtggagmafkdhjcaaGreatDoor
