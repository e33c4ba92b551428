/- Parts of own buffers: sliced, measured, and laid behind one another in place; conditions: tables of types that agree with the program's / Words between spaces and lines, by plain functions on bytes; nothing of the program stands here / Lines, by plain functions on bytes; nothing of the program stands here / strings.FieldsFunc at spaces, strings.Split at a byte and strings.Join, by their contracts of the library, in the abstract machine; conditions: a cell of the library stands. -/
import Derived.Test.YtamihjgfncjdoaaDoorAbsX
import Derived.Test.YtamihjgfncjdoaaDoorNmA
import Derived.Lib.FieldsP
import Derived.Lib.SplitLaws
import Derived.Lib.Join
import Derived.Laws.RangeString
import Derived.Laws.RangeAny
import Derived.Lib.Split
import Derived.Test.YtamihjgfncjdoaaDoorAbsN
import Derived.Test.YtamihjgfncjdoaaDoorTab
import Derived.Test.YtamihjgfncjdoaaDoorShelf
set_option linter.unusedVariables false
set_option linter.unusedSimpArgs false
namespace Go.Proofs.YtamihjgfncjdoaaDoor
open Go Go.RowKit
theorem flat_take0 {sz : Nat} : ∀ (L : List AV) (i : Nat), (∀ x ∈ L, x.cells.length = sz) → (L.take i).flatMap AV.cells = (L.flatMap AV.cells).take (i * sz) ∧ (L.drop i).flatMap AV.cells = (L.flatMap AV.cells).drop (i * sz)
  | [], i, _ => by simp
  | x :: L, 0, _ => by simp
  | x :: L, i + 1, h => by
    obtain ⟨h1, h2⟩ := flat_take0 L i fun y hy => h y (by simp [hy])
    have hx := h x (by simp)
    have hle : x.cells.length ≤ sz + i * sz := by rw [hx]; exact Nat.le_add_right _ _
    have he : sz + i * sz - x.cells.length = i * sz := by rw [hx]; exact Nat.add_sub_cancel_left _ _
    rw [List.take_succ_cons, List.drop_succ_cons, List.flatMap_cons, List.flatMap_cons, h1, h2, Nat.succ_mul, Nat.add_comm (i * sz) sz]
    constructor
    · rw [List.take_append, List.take_of_length_le hle, he]
    · rw [List.drop_append, List.drop_of_length_le hle, List.nil_append, he]
section
variable {P : Program} {X : Ctx} {n : Nat} {ops : Array Oper} {os : List Oper} {acc : List Rule} {σ : AS} {K : List Rule → AS → Prop} {gt : List (Nat × AV)} {ty : TypeId} {ps : String} {af : Array Edge} {g : Option (Nat × Bool)}
variable {TB : Tabs} (hTB : TabsOk P TB)
include hTB
end
section
variable {P : Program} {X : Ctx} {n : Nat} {σ : AS} {Q : Exit → AS → Prop} {c : Code}
/-- A buffer of the frame's own, under another site's name. -/
theorem awp_reown {t s d k kd e sz : Nat} {c0 : Cont} {L : List AV} (hT : σ.T t = .own s k) (hHs : σ.H s = ⟨k, .buf e sz L⟩) (hH : σ.H d = ⟨kd, c0⟩) (hne : d ≠ s)
    (h : AWp P X n c Q (((σ.hup s ⟨k, .dead⟩).hup d ⟨kd + 1, .buf e sz L⟩).put (some t) (.own d (kd + 1)))) : AWp P X n c Q σ := by
  refine ⟨fun M ρ a w hR => ?_⟩
  obtain rfl : (σ.H d).k = kd := by rw [hH]
  obtain ⟨u, us, b1, b2, b3, b4, b5, b6⟩ := hR.buf s k e sz L hHs
  have hto := hR.tm t
  rw [hT] at hto
  have hu := hto.own_inv
  rw [b1] at hu
  injection hu with hu
  have hweak : Rel X n M ρ (σ.hup s ⟨k, .dead⟩) a w := hR.weak ⟨fun _ => .inl rfl, fun s' => by
    simp only [AS.hup]
    by_cases hs' : s' = s
    · subst hs'; rw [Nat.beq_refl]; exact ⟨by rw [hHs]; rfl, .inr rfl⟩
    · rw [beq_ne hs']; exact ⟨rfl, .inl rfl⟩⟩
  have hkd : ((σ.hup s ⟨k, .dead⟩).H d).k = (σ.H d).k := by simp only [AS.hup, beq_ne hne]; rfl
  have hA := hweak.appendTo d (L := L) (w' := w) (news := []) (v' := u) b2 (by rw [List.append_nil]; exact b2.1) ⟨rfl, rfl, rfl, Nat.le_refl _, fun _ _ _ => rfl⟩ (.inl rfl) b3 (fun s' g hg hs' => by
      simp only [AS.hup] at hs'
      by_cases he : s' = s
      · subst he; rw [Nat.beq_refl] at hs'; simp [blkOf] at hs'
      · rw [beq_ne he] at hs'; exact he (hR.sep s' s g hs' (by rw [hHs]; simp [blkOf, b1, hg])))
    (by rw [List.append_nil]; exact b4) b5 (by rw [List.append_nil]; exact b6)
  rw [hkd] at hA
  refine h.run M _ a w ⟨hA.live, hA.sz, fun j => ?_, hA.box, hA.buf, hA.sep, hA.fresh, hA.glob, hA.base, hA.root, hA.os, hA.tape, hA.output, hA.size, hA.frame, hA.df, hA.mp⟩
  show Rep M _ (bif Nat.beq j t then .own d ((σ.H d).k + 1) else σ.T j) _
  by_cases he : j = t
  · subst he
    rw [Nat.beq_refl]
    refine .own _ _ _ _ (by simp [updρ, hu]) ?_
    rw [← hu]
    exact (vblk_own b2.1).2
  · rw [beq_ne he]; exact hA.tm j
end
end Go.Proofs.YtamihjgfncjdoaaDoor
namespace Go.Proofs.YtamihjgfncjdoaaDoor
open Go Go.RowKit
/-- What joining words with single spaces gives. -/
def joinW (ws : List (List UInt8)) : List UInt8 := Lib.join ws [32]
theorem joinW_nil : joinW [] = [] := rfl
theorem joinW_one (w : List UInt8) : joinW [w] = w := Lib.join_one w [32]
theorem joinW_cons (w x : List UInt8) (r : List (List UInt8)) : joinW (w :: x :: r) = w ++ 32 :: joinW (x :: r) := by
  unfold joinW
  rw [Lib.join_cons, Lib.join_cons]
  unfold Lib.joinTail
  simp
section
variable {s : ByteArray}
end
end Go.Proofs.YtamihjgfncjdoaaDoor
namespace Go.Proofs.YtamihjgfncjdoaaDoor
open Go Go.RowKit
end Go.Proofs.YtamihjgfncjdoaaDoor
namespace Go.Proofs.YtamihjgfncjdoaaDoor
open Go Go.RowKit Go.Sort
set_option maxRecDepth 10000
variable {G : Nat → Option (List Value)}
def strL (l : List UInt8) : ByteArray := ⟨l.toArray⟩
def svL (l : List UInt8) : AV := .v (.string (strL l))
theorem strL_data (l : List UInt8) : (strL l).data.toList = l := by simp [strL]
theorem strL_size (l : List UInt8) : (strL l).size = l.length := by simp [strL, ByteArray.size]
/-- strings.Join. -/
theorem join_A (L : List (List UInt8)) (c : UInt8) (hn : L.length ≤ 140737488355328) (hs : (Lib.join L [c]).length ≤ 140737488355328) : ACalls Tryd.prog G 47 [.sl 1 (L.map svL), .v (.string ⟨#[c]⟩)] [] (svL (Lib.join L [c])) [] := by
  refine ⟨enter_of Tryd.func47 (by kernel_rfl) rfl, fun M w gs us hl hG hnd hr hv hrep => ?_⟩
  have hgs : gs = [] := List.eq_nil_of_length_eq_zero hr.len
  subst hgs
  have fin : ∀ e w', e = .returned (.string (strL (Lib.join L [c]))) → Below w.heap.size w w' → CallPost M w [] (svL (Lib.join L [c])) [] e w' := fun e w' he hb =>
    ⟨_, M, [], he, fun _ _ e => e, fun g arr e => by
      obtain ⟨t, fr, h1⟩ := hl g arr e
      exact ⟨t, fr, (hb.block g (Array.getElem?_eq_some_iff.1 h1).1).trans h1⟩, hb.os, hb.tape, hb.output, hb.size, fun g hg _ => hb.block g hg, fun g _ e => e, by simp, by simp, ⟨rfl, by simp⟩, .v _ _⟩
  match us, hv with
  | [u, v], _ =>
    have h2 := (hrep 1 _ v rfl rfl).v_inv
    subst h2
    have h1 := hrep 0 _ u rfl rfl
    obtain ⟨A, cp, vs, rfl, e2, e2', e3, e4⟩ := h1.sl_inv
    rw [List.length_map] at e2
    rw [List.length_map]
    by_cases h0 : L = []
    · subst h0
      refine (Tryd.strings_Join_none A cp ⟨#[c]⟩ w).mono ?_
      rintro e w' ⟨rfl, rfl⟩
      exact fin _ _ rfl (Below.refl _ _)
    · obtain ⟨x0, hx0⟩ := some_at (L := L) (k := 0) (by have := List.length_pos_iff.2 h0; omega)
      obtain ⟨-, b, o, arr, rfl, f3, f4⟩ := e4 0 (svL x0) (by rw [List.getElem?_map, hx0]; rfl)
      obtain ⟨t, fr, hh⟩ := hl b arr f3
      have hmap : (L.map strL).map (·.data.toList) = L := by
        rw [List.map_map]
        conv => rhs; rw [← List.map_id L]
        exact List.map_congr_left fun x _ => strL_data x
      have := Tryd.strings_Join b o cp (L.map strL) ⟨#[c]⟩ w (fun j x hx => ?_) (Array.getElem?_eq_some_iff.1 hh).1 (by simpa using hn) (by simpa using e2) (by rw [hmap]; exact hs)
      · rw [List.length_map, hmap] at this
        refine this.mono ?_
        rintro e w' ⟨rfl, hb⟩
        exact fin _ _ rfl hb
      · rw [List.getElem?_map] at hx
        cases hy : L[j]? with
        | none => rw [hy] at hx; cases hx
        | some y =>
          rw [hy] at hx
          injection hx with hx
          subst hx
          have hs : (L.map svL)[j]? = some (svL y) := by rw [List.getElem?_map, hy]; rfl
          obtain ⟨-, b', o', arr', hA, g3, g4⟩ := e4 j (svL y) hs
          injection hA with hA
          injection hA with ha hb
          subst ha; subst hb
          rw [f3] at g3
          injection g3 with g3
          subst g3
          have h6 := g4 0 (by omega)
          rw [Nat.mul_one, Nat.add_zero] at h6
          rw [cell_of_row w b (o + j) arr t fr hh, h6]
          have := (e3 j (svL y) 0 _ hs rfl).v_inv
          rw [this]
end Go.Proofs.YtamihjgfncjdoaaDoor
