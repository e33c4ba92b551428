/- strings.Join, by its contract of the library, and lexeme.Join, in the abstract machine; conditions: none. -/
import Derived.Test.YtgpglcccjkpmdaaDoorAbsN
import Derived.Test.YtgpglcccjkpmdaaDoorTab
import Derived.Test.YtgpglcccjkpmdaaDoorWdP
import Derived.Test.YtgpglcccjkpmdaaDoorShelf
set_option linter.unusedVariables false
set_option linter.unusedSimpArgs false
namespace Go.Proofs.YtgpglcccjkpmdaaDoor
open Go Go.RowKit Go.Sort
set_option maxRecDepth 10000
variable {G : Nat → Option (List Value)}
def strL (l : List UInt8) : ByteArray := ⟨l.toArray⟩
def svL (l : List UInt8) : AV := .v (.string (strL l))
theorem strL_data (l : List UInt8) : (strL l).data.toList = l := by simp [strL]
theorem strL_size (l : List UInt8) : (strL l).size = l.length := by simp [strL, ByteArray.size]
/-- strings.Join. -/
theorem join_A (L : List (List UInt8)) (c : UInt8) (hn : L.length ≤ 140737488355328) (hs : (Lib.join L [c]).length ≤ 140737488355328) : ACalls Tryd.prog G 52 [.sl 1 (L.map svL), .v (.string ⟨#[c]⟩)] [] (svL (Lib.join L [c])) [] := by
  refine ⟨enter_of Tryd.func52 (by kernel_rfl) rfl, fun M w gs us hl hG hnd hr hv hrep => ?_⟩
  have hgs : gs = [] := List.eq_nil_of_length_eq_zero hr.len
  subst hgs
  have fin : ∀ e w', e = .returned (.string (strL (Lib.join L [c]))) → Below w.heap.size w w' → CallPost M w [] (svL (Lib.join L [c])) [] e w' := fun e w' he hb =>
    ⟨_, M, [], he, fun _ _ e => e, fun g arr e => by
      obtain ⟨t, fr, h1⟩ := hl g arr e
      exact ⟨t, fr, (hb.block g (Array.getElem?_eq_some_iff.1 h1).1).trans h1⟩, hb.os, hb.tape, hb.output, hb.size, fun g hg _ => hb.block g hg, fun g _ e => e, by simp, by simp, ⟨rfl, by simp⟩, .v _ _⟩
  match us, hv with
  | [u, v], _ =>
    have h2 := (hrep 1 _ v rfl rfl).v_inv
    subst h2
    have h1 := hrep 0 _ u rfl rfl
    obtain ⟨A, cp, vs, rfl, e2, e2', e3, e4⟩ := h1.sl_inv
    rw [List.length_map] at e2
    rw [List.length_map]
    by_cases h0 : L = []
    · subst h0
      refine (Tryd.strings_Join_none A cp ⟨#[c]⟩ w).mono ?_
      rintro e w' ⟨rfl, rfl⟩
      exact fin _ _ rfl (Below.refl _ _)
    · obtain ⟨x0, hx0⟩ := some_at (L := L) (k := 0) (by have := List.length_pos_iff.2 h0; omega)
      obtain ⟨-, b, o, arr, rfl, f3, f4⟩ := e4 0 (svL x0) (by rw [List.getElem?_map, hx0]; rfl)
      obtain ⟨t, fr, hh⟩ := hl b arr f3
      have hmap : (L.map strL).map (·.data.toList) = L := by
        rw [List.map_map]
        conv => rhs; rw [← List.map_id L]
        exact List.map_congr_left fun x _ => strL_data x
      have := Tryd.strings_Join b o cp (L.map strL) ⟨#[c]⟩ w (fun j x hx => ?_) (Array.getElem?_eq_some_iff.1 hh).1 (by simpa using hn) (by simpa using e2) (by rw [hmap]; exact hs)
      · rw [List.length_map, hmap] at this
        refine this.mono ?_
        rintro e w' ⟨rfl, hb⟩
        exact fin _ _ rfl hb
      · rw [List.getElem?_map] at hx
        cases hy : L[j]? with
        | none => rw [hy] at hx; cases hx
        | some y =>
          rw [hy] at hx
          injection hx with hx
          subst hx
          have hs : (L.map svL)[j]? = some (svL y) := by rw [List.getElem?_map, hy]; rfl
          obtain ⟨-, b', o', arr', hA, g3, g4⟩ := e4 j (svL y) hs
          injection hA with hA
          injection hA with ha hb
          subst ha; subst hb
          rw [f3] at g3
          injection g3 with g3
          subst g3
          have h6 := g4 0 (by omega)
          rw [Nat.mul_one, Nat.add_zero] at h6
          rw [cell_of_row w b (o + j) arr t fr hh, h6]
          have := (e3 j (svL y) 0 _ hs rfl).v_inv
          rw [this]
theorem joinW_snoc (x : List UInt8) : ∀ (L : List (List UInt8)), joinW (L ++ [x]) = if L = [] then x else joinW L ++ 32 :: x
  | [] => by rw [if_pos rfl]; exact joinW_one x
  | [w] => by rw [if_neg (by simp), joinW_one]; exact (joinW_cons w x []).trans (by rw [joinW_one])
  | w :: y :: r => by
    rw [if_neg (by simp)]
    have := joinW_snoc x (y :: r)
    rw [if_neg (by simp)] at this
    rw [joinW_cons]
    show joinW (w :: y :: (r ++ [x])) = _
    rw [joinW_cons, show y :: (r ++ [x]) = (y :: r) ++ [x] from rfl, this]
    simp
theorem jn_A (L : List (List UInt8)) (hn : L.length ≤ 140737488355328) (hs : (joinW L).length ≤ 140737488355328) : ACalls Tryd.prog G 30 [.sl 1 (L.map svL)] [] (svL (joinW L)) [] := by
  refine acalls_of tbOk (enter_of Tryd.func30 (by kernel_rfl) rfl) Tryd.func30 rfl _ Tryd.ntmps30 (Nat.le_of_ble_eq_true rfl) fun X hX => ?_
  subst hX
  repeat (first | ((with_reducible refine k_move ?_); refine m_move rfl ?_) | ((with_reducible refine k_assign ?_); refine m_assign rfl ?_)  | refine e_nrm ?_ | refine x_none rfl ?_ | with_reducible refine q_then ?_ | with_reducible refine awp_seq ?_ | ((with_reducible refine w_region ?_ ?_); kernel_rfl))
  refine x_call0 (join_A L 32 hn hs) (by repeat' (first | exact trivial | exact Ren.v _ | exact Ren.sl _ _ | exact Ren.ep _ | exact Ren.ptr _ _ _ _ rfl | exact Ren.bs _ _ _ _ _ rfl | exact Ren.nil _ | exact Ren.own _ _ _ _ ⟨_, rfl⟩ | refine ren_ag ?_ | refine ren_tu ?_ | refine ren_fn ?_ | refine ⟨?_, ?_⟩)) (by repeat' (first | exact trivial | exact RenB.v _ | exact RenB.sl _ _ | exact RenB.ep _ | exact RenB.ptr _ _ _ _ rfl | refine renb_ag ?_ | refine renb_tu ?_ | refine ⟨?_, ?_⟩)) ?_
  repeat (first | ((with_reducible refine k_assign ?_); refine m_assign rfl ?_)  | refine e_nrm ?_ | refine x_none rfl ?_ | with_reducible refine q_then ?_ | with_reducible refine awp_ret ?_ )
  refine ret_v (by first | exact .inr rfl | exact .inl rfl) rfl rfl ?_
  rfl
end Go.Proofs.YtgpglcccjkpmdaaDoor
