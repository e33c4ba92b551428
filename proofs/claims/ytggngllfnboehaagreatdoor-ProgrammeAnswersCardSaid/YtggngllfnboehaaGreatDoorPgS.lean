/- permitofficelaw17.ProgrammeAnswers, by the abstract machine: it answers true for all that comes in; conditions: the tables of classes, powers and places and a cell of the library stand. -/
import Derived.Test.YtggngllfnboehaaGreatDoorPgI
import Derived.Test.YtggngllfnboehaaGreatDoorPgR
import Derived.Test.YtggngllfnboehaaGreatDoorFlA
import Derived.Test.YtggngllfnboehaaGreatDoorAbsM
set_option linter.unusedVariables false
set_option linter.unusedSimpArgs false
namespace Go.Proofs.YtggngllfnboehaaGreatDoor
open Go Go.RowKit
set_option maxRecDepth 10000
variable {G : Nat → Option (List Value)}
theorem light_A (N : List Nd) (V : List Dv) (ok : NwOk N V) : yF Tryz.prog G 5 [nwAV N V] [] (.v (.bool ((decide (N.length ≤ 40) && decide (V.length ≤ 14)) || (!decide (netE N V = 0) && (decide (N.length ≤ 100) && decide (V.length ≤ 200)))))) [] := by
  refine zj tbOk (zn Tryz.func5 (by kernel_rfl) rfl) Tryz.func5 rfl _ Tryz.ntmps5 (Nat.le_of_ble_eq_true rfl) fun X hX => ?_
  subst hX
  repeat (first | ((with_reducible refine zI ?_); refine zH rfl ?_) | ((with_reducible refine zE ?_); refine zD rfl ?_) | ((with_reducible refine zK ?_); refine zG tbOk rfl rfl rfl rfl ?_) | ((with_reducible refine zL ?_); refine zN tbOk rfl rfl rfl rfl rfl ?_) | ((with_reducible refine yj ?_); refine yi rfl rfl rfl ?_) | ((with_reducible refine zu ?_); refine yR tbOk rfl rfl ?_) | ((with_reducible refine zM ?_); refine zV rfl rfl rfl ?_)  | refine zJ ?_ | refine zB rfl ?_ | with_reducible refine zC ?_ | with_reducible refine zF ?_ | ((with_reducible refine zA ?_ ?_); kernel_rfl))
  refine yI rfl rfl (fun b1 => ?_) (fun b1 => ?_)
  · have c1 : N.length ≤ 40 := by simp at b1; omega
    repeat (first | ((with_reducible refine zI ?_); refine zH rfl ?_) | ((with_reducible refine zK ?_); refine zG tbOk rfl rfl rfl rfl ?_) | ((with_reducible refine zL ?_); refine zN tbOk rfl rfl rfl rfl rfl ?_) | ((with_reducible refine zb ?_); refine zt rfl (by first | rfl | assumption) rfl ?_) | ((with_reducible refine zu ?_); refine yR tbOk rfl rfl ?_) | ((with_reducible refine zM ?_); refine zV rfl rfl rfl ?_)  | refine zB rfl ?_ | refine yK rfl rfl (by first | rfl | assumption) ?_  )
    refine yI rfl rfl (fun b2 => ?_) (fun b2 => ?_)
    · have c2 : V.length ≤ 14 := by simp at b2; omega
      repeat (first | ((with_reducible refine zE ?_); refine zD rfl ?_) | ((with_reducible refine zb ?_); refine zt rfl (by first | rfl | assumption) rfl ?_)  | refine zJ ?_ | refine zB rfl ?_ | refine yL rfl rfl (by first | rfl | assumption) ?_ | refine jG rfl rfl rfl ?_ | with_reducible refine zC ?_ | with_reducible refine zU ?_ )
      refine yC (by first | exact .inr rfl | exact .inl rfl) rfl rfl ?_
      simp [c1, c2]
    · have c2 : ¬ V.length ≤ 14 := by simp at b2; omega
      repeat (first | ((with_reducible refine zL ?_); refine zc tbOk rfl rfl rfl rfl (Nat.le_of_ble_eq_true rfl) ?_)  | refine zv rfl rfl (by first | rfl | assumption) ?_  )
      refine zo (rnet_A N V ok.n ok.v ok.l1 ok.l2) (by repeat' (first | exact trivial | exact Ren.v _ | exact Ren.sl _ _ | exact Ren.ep _ | exact Ren.ptr _ _ _ _ rfl | exact Ren.bs _ _ _ _ _ rfl | exact Ren.nil _ | exact Ren.own _ _ _ _ ⟨_, rfl⟩ | refine zO ?_ | refine zQ ?_ | refine zP ?_ | refine ⟨?_, ?_⟩)) (by repeat' (first | exact trivial | exact RenB.v _ | exact RenB.sl _ _ | exact RenB.ep _ | exact RenB.ptr _ _ _ _ rfl | refine zW ?_ | refine zX ?_ | refine ⟨?_, ?_⟩)) ?_
      repeat (first | ((with_reducible refine zI ?_); refine zH rfl ?_) | ((with_reducible refine zM ?_); refine zV rfl rfl rfl ?_)  | refine zv rfl rfl (by first | rfl | assumption) ?_  )
      refine yI rfl rfl (fun b3 => ?_) (fun b3 => ?_)
      · have c3 : ¬ netE N V = 0 := by simpa using b3
        repeat (first | ((with_reducible refine zI ?_); refine zH rfl ?_) | ((with_reducible refine zK ?_); refine zG tbOk rfl rfl rfl rfl ?_) | ((with_reducible refine zL ?_); refine zN tbOk rfl rfl rfl rfl rfl ?_) | ((with_reducible refine zb ?_); refine zt rfl (by first | rfl | assumption) rfl ?_) | ((with_reducible refine zu ?_); refine yR tbOk rfl rfl ?_) | ((with_reducible refine zM ?_); refine zV rfl rfl rfl ?_)  | refine yK rfl rfl (by first | rfl | assumption) ?_ | refine zv rfl rfl (by first | rfl | assumption) ?_  )
        refine yI rfl rfl (fun b4 => ?_) (fun b4 => ?_)
        · have c4 : N.length ≤ 100 := by simp at b4; omega
          repeat (first | ((with_reducible refine zE ?_); refine zD rfl ?_) | ((with_reducible refine zK ?_); refine zG tbOk rfl rfl rfl rfl ?_) | ((with_reducible refine zL ?_); refine zN tbOk rfl rfl rfl rfl rfl ?_) | ((with_reducible refine zb ?_); refine zt rfl (by first | rfl | assumption) rfl ?_) | ((with_reducible refine zb ?_); refine zq rfl (by first | rfl | assumption) rfl ?_) | ((with_reducible refine zu ?_); refine yR tbOk rfl rfl ?_) | ((with_reducible refine zM ?_); refine zV rfl rfl rfl ?_)  | refine zJ ?_ | refine zB rfl ?_ | refine yK rfl rfl (by first | rfl | assumption) ?_ | refine zv rfl rfl (by first | rfl | assumption) ?_ | with_reducible refine zC ?_ | with_reducible refine zU ?_ )
          refine yC (by first | exact .inr rfl | exact .inl rfl) rfl rfl ?_
          simp [c1, c2, c3, c4]; try omega
        · have c4 : ¬ N.length ≤ 100 := by simp at b4; omega
          repeat (first | ((with_reducible refine zE ?_); refine zD rfl ?_) | ((with_reducible refine zb ?_); refine zq rfl (by first | rfl | assumption) rfl ?_)  | refine zJ ?_ | refine zB rfl ?_ | refine yQ rfl rfl (by first | rfl | assumption) ?_ | refine zv rfl rfl (by first | rfl | assumption) ?_ | with_reducible refine zC ?_ | with_reducible refine zU ?_ )
          refine yC (by first | exact .inr rfl | exact .inl rfl) rfl rfl ?_
          simp [c1, c2, c3, c4]; try omega
      · have c3 : netE N V = 0 := by simpa using b3
        repeat (first | ((with_reducible refine zI ?_); refine zH rfl ?_) | ((with_reducible refine zE ?_); refine zD rfl ?_) | ((with_reducible refine zb ?_); refine zq rfl (by first | rfl | assumption) rfl ?_)  | refine zJ ?_ | refine zB rfl ?_ | refine yQ rfl rfl (by first | rfl | assumption) ?_ | refine zv rfl rfl (by first | rfl | assumption) ?_ | with_reducible refine zC ?_ | with_reducible refine zU ?_ )
        refine yC (by first | exact .inr rfl | exact .inl rfl) rfl rfl ?_
        simp [c1, c2, c3]
  · have c1 : ¬ N.length ≤ 40 := by simp at b1; omega
    repeat (first | ((with_reducible refine zI ?_); refine zH rfl ?_) | ((with_reducible refine zL ?_); refine zc tbOk rfl rfl rfl rfl (Nat.le_of_ble_eq_true rfl) ?_) | ((with_reducible refine zb ?_); refine zq rfl (by first | rfl | assumption) rfl ?_)  | refine zB rfl ?_ | refine yQ rfl rfl (by first | rfl | assumption) ?_ | refine zv rfl rfl (by first | rfl | assumption) ?_  )
    refine zo (rnet_A N V ok.n ok.v ok.l1 ok.l2) (by repeat' (first | exact trivial | exact Ren.v _ | exact Ren.sl _ _ | exact Ren.ep _ | exact Ren.ptr _ _ _ _ rfl | exact Ren.bs _ _ _ _ _ rfl | exact Ren.nil _ | exact Ren.own _ _ _ _ ⟨_, rfl⟩ | refine zO ?_ | refine zQ ?_ | refine zP ?_ | refine ⟨?_, ?_⟩)) (by repeat' (first | exact trivial | exact RenB.v _ | exact RenB.sl _ _ | exact RenB.ep _ | exact RenB.ptr _ _ _ _ rfl | refine zW ?_ | refine zX ?_ | refine ⟨?_, ?_⟩)) ?_
    repeat (first | ((with_reducible refine zI ?_); refine zH rfl ?_) | ((with_reducible refine zM ?_); refine zV rfl rfl rfl ?_)  | refine zv rfl rfl (by first | rfl | assumption) ?_  )
    refine yI rfl rfl (fun b3 => ?_) (fun b3 => ?_)
    · have c3 : ¬ netE N V = 0 := by simpa using b3
      repeat (first | ((with_reducible refine zI ?_); refine zH rfl ?_) | ((with_reducible refine zK ?_); refine zG tbOk rfl rfl rfl rfl ?_) | ((with_reducible refine zL ?_); refine zN tbOk rfl rfl rfl rfl rfl ?_) | ((with_reducible refine zb ?_); refine zt rfl (by first | rfl | assumption) rfl ?_) | ((with_reducible refine zu ?_); refine yR tbOk rfl rfl ?_) | ((with_reducible refine zM ?_); refine zV rfl rfl rfl ?_)  | refine yK rfl rfl (by first | rfl | assumption) ?_ | refine zv rfl rfl (by first | rfl | assumption) ?_  )
      refine yI rfl rfl (fun b4 => ?_) (fun b4 => ?_)
      · have c4 : N.length ≤ 100 := by simp at b4; omega
        repeat (first | ((with_reducible refine zE ?_); refine zD rfl ?_) | ((with_reducible refine zK ?_); refine zG tbOk rfl rfl rfl rfl ?_) | ((with_reducible refine zL ?_); refine zN tbOk rfl rfl rfl rfl rfl ?_) | ((with_reducible refine zb ?_); refine zt rfl (by first | rfl | assumption) rfl ?_) | ((with_reducible refine zb ?_); refine zq rfl (by first | rfl | assumption) rfl ?_) | ((with_reducible refine zu ?_); refine yR tbOk rfl rfl ?_) | ((with_reducible refine zM ?_); refine zV rfl rfl rfl ?_)  | refine zJ ?_ | refine zB rfl ?_ | refine yK rfl rfl (by first | rfl | assumption) ?_ | refine zv rfl rfl (by first | rfl | assumption) ?_ | with_reducible refine zC ?_ | with_reducible refine zU ?_ )
        refine yC (by first | exact .inr rfl | exact .inl rfl) rfl rfl ?_
        simp [c1, c3, c4]; try omega
      · have c4 : ¬ N.length ≤ 100 := by simp at b4; omega
        repeat (first | ((with_reducible refine zE ?_); refine zD rfl ?_) | ((with_reducible refine zb ?_); refine zq rfl (by first | rfl | assumption) rfl ?_)  | refine zJ ?_ | refine zB rfl ?_ | refine yQ rfl rfl (by first | rfl | assumption) ?_ | refine zv rfl rfl (by first | rfl | assumption) ?_ | with_reducible refine zC ?_ | with_reducible refine zU ?_ )
        refine yC (by first | exact .inr rfl | exact .inl rfl) rfl rfl ?_
        simp [c1, c3, c4]; try omega
    · have c3 : netE N V = 0 := by simpa using b3
      repeat (first | ((with_reducible refine zI ?_); refine zH rfl ?_) | ((with_reducible refine zE ?_); refine zD rfl ?_) | ((with_reducible refine zb ?_); refine zq rfl (by first | rfl | assumption) rfl ?_)  | refine zJ ?_ | refine zB rfl ?_ | refine yQ rfl rfl (by first | rfl | assumption) ?_ | refine zv rfl rfl (by first | rfl | assumption) ?_ | with_reducible refine zC ?_ | with_reducible refine zU ?_ )
      refine yC (by first | exact .inr rfl | exact .inl rfl) rfl rfl ?_
      simp [c1, c3]
/-- The network of a list of numbers. -/
def nD (l : List Int) (nodes : Int) : List Nd := (net1 (dk0 l) nodes).1
def vD (l : List Int) (nodes : Int) (m : Nat) : List Dv := (net5 (dk0 l) nodes m).1
theorem nD_len {l : List Int} {nodes : Int} (h1 : 1 ≤ nodes) (h2 : nodes ≤ 30) : 1 ≤ (nD l nodes).length := by
  have hk := netK_in (dk0 l) h1 (by omega)
  have hN : (nD l nodes).length = netK (dk0 l) nodes := qe _ _
  omega
theorem nw_ok {l : List Int} (h : l.length ≤ 400) {nodes : Int} {m : Nat} (h1 : 1 ≤ nodes) (h2 : nodes ≤ 30) (hm : m ≤ 60) : NwOk (nD l nodes) (vD l nodes m) := by
  have hk := netK_in (dk0 l) h1 (by omega)
  have hN : (nD l nodes).length = netK (dk0 l) nodes := qe _ _
  have hv := net5_ok (DkOk.new h) m h1 (by omega)
  refine ⟨fun x hx => ?_, fun x hx => ?_, by rw [hN]; unfold maxLen; omega, by have := hv.len; unfold maxLen; show (vD l nodes m).length ≤ _; unfold vD; omega⟩
  · obtain ⟨j, hj⟩ := List.getElem?_of_mem hx
    rw [(nodesD_at _ _ j x hj).1, nmS_size]; decide
  · obtain ⟨j, hj⟩ := List.getElem?_of_mem hx
    rw [(hv.at_ j x hj).nm, nmS_size]; decide
theorem nw_valid {l : List Int} (h : l.length ≤ 400) {nodes : Int} {m : Nat} (h1 : 1 ≤ nodes) (h2 : nodes ≤ 30) (hm : m ≤ 60) : netE (nD l nodes) (vD l nodes m) = 0 := net_valid (DkOk.new h) h1 h2 hm
theorem print_ok {N : List Nd} {V : List Dv} {P : Pg} (h : PgOk N V P) : printG N V P = (strL (qu (qU N V P)), 0) := by
  unfold printG
  rw [if_neg (by rw [progE_iff.2 h]; decide)]
  rfl
theorem qj (L : List St) : ∀ x ∈ L.map St.av, x.cells.length = 5 := by
  intro x hx
  obtain ⟨r, _, rfl⟩ := List.mem_map.1 hx
  rfl
theorem st_one (L : List St) : ∀ x ∈ L.map St.av, ju x.cells = true := by
  intro x hx
  obtain ⟨r, _, rfl⟩ := List.mem_map.1 hx
  rfl
theorem parseG_len (N : List Nd) (V : List Dv) (s : List UInt8) : (jV N V s).1.st.length ≤ 64 := by
  unfold jV
  split
  · simp [Pg.zer]
  split
  · simp [Pg.zer]
  unfold endG
  split
  · simp [Pg.zer]
  · simp [Pg.zer]
  · split
    · simp [Pg.zer]
    · rename_i h
      have h' := progE_iff.1 (by simpa using h)
      exact h'.l
/-- A programme that was changed. -/
structure PgFew (P : Pg) : Prop where
  n : P.n.size ≤ maxLen
  l : P.st.length ≤ 80
set_option maxHeartbeats 16000000 in
theorem answers_law (l : List Int) (raw : Pg) (No : List Nd) (Vo : List Dv) (s : ByteArray) (oko : NwOk No Vo) (hrn : raw.n.size ≤ maxLen) (hrl : raw.st.length ≤ maxLen) (hG : GCls G) (hP : GPow G) (hPl : GPlc G) (hM : GMax G) :
    yF Tryz.prog G 3 [.sl 1 (l.map iv), raw.av, nwAV No Vo, .v (.string s)] [] (.v (.bool true)) [] := by
  refine zj tbOk (zn Tryz.func3 (by kernel_rfl) rfl) Tryz.func3 rfl _ Tryz.ntmps3 (Nat.le_of_ble_eq_true rfl) fun X hX => ?_
  subst hX
  repeat (first | ((with_reducible refine zI ?_); refine zH rfl ?_) | ((with_reducible refine zE ?_); refine zD rfl ?_) | ((with_reducible refine yj ?_); refine yi rfl rfl rfl ?_)  | refine zJ ?_ | refine zB rfl ?_ | with_reducible refine zC ?_ | with_reducible refine zF ?_ | ((with_reducible refine zA ?_ ?_); kernel_rfl))
  refine zo (few_A (l.map iv)) (by repeat' (first | exact trivial | exact Ren.v _ | exact Ren.sl _ _ | exact Ren.ep _ | exact Ren.ptr _ _ _ _ rfl | exact Ren.bs _ _ _ _ _ rfl | exact Ren.nil _ | exact Ren.own _ _ _ _ ⟨_, rfl⟩ | refine zO ?_ | refine zQ ?_ | refine zP ?_ | refine ⟨?_, ?_⟩)) (by repeat' (first | exact trivial | exact RenB.v _ | exact RenB.sl _ _ | exact RenB.ep _ | exact RenB.ptr _ _ _ _ rfl | refine zW ?_ | refine zX ?_ | refine ⟨?_, ?_⟩)) ?_
  repeat (first | ((with_reducible refine zI ?_); refine zH rfl ?_) | ((with_reducible refine k_un ?_); refine yr rfl ?_)  | refine zB rfl ?_  )
  refine yI rfl rfl (fun c1 => ?_) (fun c1 => ?_)
  · repeat (first | ((with_reducible refine zI ?_); refine zH rfl ?_) | ((with_reducible refine zb ?_); refine zt rfl (by first | rfl | assumption) rfl ?_)  | refine zJ ?_ | refine zB rfl ?_ | refine yL rfl rfl (by first | rfl | assumption) ?_ | with_reducible refine zC ?_ | with_reducible refine zF ?_ | ((with_reducible refine zA ?_ ?_); kernel_rfl) | refine zg rfl (by first | rfl | assumption) ?_)
    refine zo (awake_A hG hP hPl hM) (by repeat' (first | exact trivial | exact Ren.v _ | exact Ren.sl _ _ | exact Ren.ep _ | exact Ren.ptr _ _ _ _ rfl | exact Ren.bs _ _ _ _ _ rfl | exact Ren.nil _ | exact Ren.own _ _ _ _ ⟨_, rfl⟩ | refine zO ?_ | refine zQ ?_ | refine zP ?_ | refine ⟨?_, ?_⟩)) (by repeat' (first | exact trivial | exact RenB.v _ | exact RenB.sl _ _ | exact RenB.ep _ | exact RenB.ptr _ _ _ _ rfl | refine zW ?_ | refine zX ?_ | refine ⟨?_, ?_⟩)) ?_
    repeat (first | ((with_reducible refine zE ?_); refine zD rfl ?_)  | refine zJ ?_ | refine zB rfl ?_ | with_reducible refine zC ?_ | with_reducible refine zS ?_ | with_reducible refine zU ?_ )
    refine yC (by first | exact .inr rfl | exact .inl rfl) rfl rfl ?_
    rfl
  have hl : l.length ≤ 400 := by simp at c1; omega
  repeat (first | ((with_reducible refine zI ?_); refine zH rfl ?_) | ((with_reducible refine zK ?_); refine zG tbOk rfl rfl rfl rfl ?_) | ((with_reducible refine zL ?_); refine zN tbOk rfl rfl rfl rfl rfl ?_) | ((with_reducible refine zb ?_); refine zq rfl (by first | rfl | assumption) rfl ?_) | ((with_reducible refine zu ?_); refine yR tbOk rfl rfl ?_) | ((with_reducible refine zM ?_); refine zV rfl rfl rfl ?_)  | refine zB rfl ?_ | refine zv rfl rfl (by first | rfl | assumption) ?_  )
  refine yI rfl rfl (fun c2 => ?_) (fun c2 => ?_)
  · repeat (first | ((with_reducible refine zI ?_); refine zH rfl ?_) | ((with_reducible refine zb ?_); refine zt rfl (by first | rfl | assumption) rfl ?_)  | refine zJ ?_ | refine zB rfl ?_ | refine yL rfl rfl (by first | rfl | assumption) ?_ | with_reducible refine zC ?_ | with_reducible refine zF ?_ | ((with_reducible refine zA ?_ ?_); kernel_rfl) | refine zg rfl (by first | rfl | assumption) ?_)
    refine zo (awake_A hG hP hPl hM) (by repeat' (first | exact trivial | exact Ren.v _ | exact Ren.sl _ _ | exact Ren.ep _ | exact Ren.ptr _ _ _ _ rfl | exact Ren.bs _ _ _ _ _ rfl | exact Ren.nil _ | exact Ren.own _ _ _ _ ⟨_, rfl⟩ | refine zO ?_ | refine zQ ?_ | refine zP ?_ | refine ⟨?_, ?_⟩)) (by repeat' (first | exact trivial | exact RenB.v _ | exact RenB.sl _ _ | exact RenB.ep _ | exact RenB.ptr _ _ _ _ rfl | refine zW ?_ | refine zX ?_ | refine ⟨?_, ?_⟩)) ?_
    repeat (first | ((with_reducible refine zE ?_); refine zD rfl ?_)  | refine zJ ?_ | refine zB rfl ?_ | with_reducible refine zC ?_ | with_reducible refine zS ?_ | with_reducible refine zU ?_ )
    refine yC (by first | exact .inr rfl | exact .inl rfl) rfl rfl ?_
    rfl
  repeat (first | ((with_reducible refine zL ?_); refine zc tbOk rfl rfl rfl rfl (Nat.le_of_ble_eq_true rfl) ?_)  | refine zv rfl rfl (by first | rfl | assumption) ?_  )
  refine zo (light_A No Vo oko) (by repeat' (first | exact trivial | exact Ren.v _ | exact Ren.sl _ _ | exact Ren.ep _ | exact Ren.ptr _ _ _ _ rfl | exact Ren.bs _ _ _ _ _ rfl | exact Ren.nil _ | exact Ren.own _ _ _ _ ⟨_, rfl⟩ | refine zO ?_ | refine zQ ?_ | refine zP ?_ | refine ⟨?_, ?_⟩)) (by repeat' (first | exact trivial | exact RenB.v _ | exact RenB.sl _ _ | exact RenB.ep _ | exact RenB.ptr _ _ _ _ rfl | refine zW ?_ | refine zX ?_ | refine ⟨?_, ?_⟩)) ?_
  repeat (first | ((with_reducible refine zI ?_); refine zH rfl ?_) | ((with_reducible refine k_un ?_); refine yr rfl ?_) | ((with_reducible refine zb ?_); refine zq rfl (by first | rfl | assumption) rfl ?_)  | refine zB rfl ?_ | refine zv rfl rfl (by first | rfl | assumption) ?_  )
  refine yI rfl rfl (fun c3 => ?_) (fun c3 => ?_)
  · repeat (first | ((with_reducible refine zb ?_); refine zt rfl (by first | rfl | assumption) rfl ?_)  | refine zJ ?_ | refine zB rfl ?_ | refine yL rfl rfl (by first | rfl | assumption) ?_ | with_reducible refine zC ?_ | with_reducible refine zF ?_ | ((with_reducible refine zA ?_ ?_); kernel_rfl) | refine zg rfl (by first | rfl | assumption) ?_)
    refine zo (awake_A hG hP hPl hM) (by repeat' (first | exact trivial | exact Ren.v _ | exact Ren.sl _ _ | exact Ren.ep _ | exact Ren.ptr _ _ _ _ rfl | exact Ren.bs _ _ _ _ _ rfl | exact Ren.nil _ | exact Ren.own _ _ _ _ ⟨_, rfl⟩ | refine zO ?_ | refine zQ ?_ | refine zP ?_ | refine ⟨?_, ?_⟩)) (by repeat' (first | exact trivial | exact RenB.v _ | exact RenB.sl _ _ | exact RenB.ep _ | exact RenB.ptr _ _ _ _ rfl | refine zW ?_ | refine zX ?_ | refine ⟨?_, ?_⟩)) ?_
    repeat (first | ((with_reducible refine zE ?_); refine zD rfl ?_)  | refine zJ ?_ | refine zB rfl ?_ | with_reducible refine zC ?_ | with_reducible refine zS ?_ | with_reducible refine zU ?_ )
    refine yC (by first | exact .inr rfl | exact .inl rfl) rfl rfl ?_
    rfl
  repeat (first | ((with_reducible refine zI ?_); refine zH rfl ?_) | ((with_reducible refine zb ?_); refine zq rfl (by first | rfl | assumption) rfl ?_) | ((with_reducible refine zu ?_); refine jA (by exact Tryz.underlying9) rfl ?_) | ((with_reducible refine zM ?_); refine zV rfl rfl rfl ?_)  | refine zJ ?_ | refine zB rfl ?_ | refine zv rfl rfl (by first | rfl | assumption) ?_ | with_reducible refine zC ?_ )
  refine zm rfl (fun c4 => ?_) (fun c4 => ?_)
  · repeat (first   | refine zB rfl ?_ | with_reducible refine zF ?_ | ((with_reducible refine zA ?_ ?_); kernel_rfl))
    refine zo (awake_A hG hP hPl hM) (by repeat' (first | exact trivial | exact Ren.v _ | exact Ren.sl _ _ | exact Ren.ep _ | exact Ren.ptr _ _ _ _ rfl | exact Ren.bs _ _ _ _ _ rfl | exact Ren.nil _ | exact Ren.own _ _ _ _ ⟨_, rfl⟩ | refine zO ?_ | refine zQ ?_ | refine zP ?_ | refine ⟨?_, ?_⟩)) (by repeat' (first | exact trivial | exact RenB.v _ | exact RenB.sl _ _ | exact RenB.ep _ | exact RenB.ptr _ _ _ _ rfl | refine zW ?_ | refine zX ?_ | refine ⟨?_, ?_⟩)) ?_
    repeat (first | ((with_reducible refine zE ?_); refine zD rfl ?_)  | refine zJ ?_ | refine zB rfl ?_ | with_reducible refine zC ?_ | with_reducible refine zS ?_ | with_reducible refine zU ?_ )
    refine yC (by first | exact .inr rfl | exact .inl rfl) rfl rfl ?_
    rfl
  have hr80 : raw.st.length ≤ 80 := by simp at c2; omega
  have hs2000 : s.size ≤ 2000 := by simp at c4; omega
  clear c1 c2 c3 c4
  have dk := DkOk.new hl
  have hv := net5_ok dk 9 (nodes := 6) (by decide) (by decide)
  have hvp := net5_pos (dk0 l) 6 (m := 9) (by decide)
  have ok : NwOk (net1 (dk0 l) 6).1 (net5 (dk0 l) 6 9).1 := nw_ok hl (nodes := 6) (m := 9) (by decide) (by decide) (by decide)
  have h0 : netE (net1 (dk0 l) 6).1 (net5 (dk0 l) 6 9).1 = 0 := nw_valid hl (nodes := 6) (m := 9) (by decide) (by decide) (by decide)
  have hnp : 1 ≤ (net1 (dk0 l) 6).1.length := nD_len (l := l) (nodes := 6) (by decide) (by decide)
  have hnet := network_A (G := X.G) (dk0 l) 6 9 dk (by decide) (by decide) (by decide)
  have hdk := hv.dk
  obtain ⟨N, hN⟩ : ∃ N, N = (net1 (dk0 l) 6).1 := ⟨_, rfl⟩
  obtain ⟨V, hV⟩ : ∃ V, V = (net5 (dk0 l) 6 9).1 := ⟨_, rfl⟩
  obtain ⟨E, hE⟩ : ∃ E, E = (net5 (dk0 l) 6 9).2 := ⟨_, rfl⟩
  rw [← hN, ← hV, ← hE] at hnet
  rw [← hN, ← hV] at ok h0
  rw [← hV] at hvp
  rw [← hN] at hnp
  rw [← hE] at hdk
  have hnl := net_len h0
  have hnl9 : N.length ≤ 9223372036854775807 ∧ V.length ≤ 9223372036854775807 := by omega
  obtain ⟨hpo, hpm⟩ := progD_ok E (most := 8) h0 hnp hvp (by decide)
  have hpd := progD_dk (nN := N.length) (nV := V.length) (most := 8) hdk
  have hprog := mkprog_A (G := X.G) N V 8 E hdk (by omega) (by omega) (by decide)
  obtain ⟨P, hPg⟩ : ∃ P, P = (progD N.length V.length 8 E).1 := ⟨_, rfl⟩
  obtain ⟨D, hD⟩ : ∃ D, D = (progD N.length V.length 8 E).2 := ⟨_, rfl⟩
  rw [← hPg, ← hD] at hprog
  rw [← hPg] at hpo hpm
  rw [← hD] at hpd
  have hpl := hpo.l
  have hplm : P.st.length ≤ maxLen := by unfold maxLen; omega
  have hpn : P.n.size ≤ maxLen := by have := qz hpo.n; unfold maxLen; omega
  clear hN hV hE hPg hD hv
  have hrl' : (P.st.map St.av).length = P.st.length := by simp
  have hvml : (V.map Dv.av).length = V.length := by simp
  have hp := rprint_A (G := X.G) N V P hP ok hpn hplm hG
  rw [print_ok hpo] at hp
  have hTl := text_len hpo
  have hTp : 0 < (qu (qU N V P)).length := by unfold qU qu; rw [List.flatMap_cons, List.length_append, List.length_append, List.length_singleton]; omega
  obtain ⟨L, hL⟩ : ∃ L, L = strL (qu (qU N V P)) := ⟨_, rfl⟩
  have hLs : L.size ≤ 6890 := by rw [hL, jb]; exact hTl
  have hLp : 0 < L.size := by rw [hL, jb]; exact hTp
  rw [← hL] at hp
  simp only at hp
  clear hL hTl hTp
  repeat (first | ((with_reducible refine zI ?_); refine zH rfl ?_)  | refine zB rfl ?_ | with_reducible refine zC ?_ | with_reducible refine zF ?_ | with_reducible refine zR ?_ | ((with_reducible refine zA ?_ ?_); kernel_rfl))
  refine x_call_new (new_A l) (by repeat' (first | exact trivial | exact Ren.v _ | exact Ren.sl _ _ | exact Ren.ep _ | exact Ren.ptr _ _ _ _ rfl | exact Ren.bs _ _ _ _ _ rfl | exact Ren.nil _ | exact Ren.own _ _ _ _ ⟨_, rfl⟩ | refine zO ?_ | refine zQ ?_ | refine zP ?_ | refine ⟨?_, ?_⟩)) ⟨.sl _ _, .v _, .v _, trivial⟩ rfl ?_
  repeat (first | ((with_reducible refine zI ?_); refine zH rfl ?_) | ((with_reducible refine zE ?_); refine zD rfl ?_)  | refine zJ ?_ | refine zB rfl ?_ | with_reducible refine zC ?_ | with_reducible refine zF ?_ | ((with_reducible refine zA ?_ ?_); kernel_rfl))
  refine yX (y := .ag [.sl 3 (N.map Nd.av), .sl 5 (V.map Dv.av)]) (ss := [(55, 1)]) (hnet) (by repeat' (first | exact trivial | exact Ren.v _ | exact Ren.sl _ _ | exact Ren.ep _ | exact Ren.ptr _ _ _ _ rfl | exact Ren.bs _ _ _ _ _ rfl | exact Ren.nil _ | exact Ren.own _ _ _ _ ⟨_, rfl⟩ | refine zO ?_ | refine zQ ?_ | refine zP ?_ | refine ⟨?_, ?_⟩)) (by simp) (in1 rfl rfl) rfl (yn rfl) (by repeat' (first | exact trivial | exact RenB.v _ | exact RenB.sl _ _ | exact RenB.ep _ | exact RenB.ptr _ _ _ _ rfl | refine zW ?_ | refine zX ?_ | refine ⟨?_, ?_⟩)) ?_
  repeat (first | ((with_reducible refine zI ?_); refine zH rfl ?_) | ((with_reducible refine zL ?_); refine zc tbOk rfl rfl rfl rfl (Nat.le_of_ble_eq_true rfl) ?_) | ((with_reducible refine zd ?_); refine zf tbOk rfl rfl rfl rfl rfl rfl rfl (Nat.le_of_ble_eq_true rfl) rfl ?_) | ((with_reducible refine yA ?_); refine yB tbOk rfl rfl ?_)  | refine zJ ?_ | refine zB rfl ?_ | with_reducible refine zC ?_ | with_reducible refine zF ?_ | ((with_reducible refine zA ?_ ?_); kernel_rfl))
  refine yX (y := .ag [.v (.string P.n), .sl 5 (P.st.map St.av)]) (ss := [(55, 1)]) (hprog) (by repeat' (first | exact trivial | exact Ren.v _ | exact Ren.sl _ _ | exact Ren.ep _ | exact Ren.ptr _ _ _ _ rfl | exact Ren.bs _ _ _ _ _ rfl | exact Ren.nil _ | exact Ren.own _ _ _ _ ⟨_, rfl⟩ | refine zO ?_ | refine zQ ?_ | refine zP ?_ | refine ⟨?_, ?_⟩)) (by simp) (in1 rfl rfl) rfl (yn rfl) (by repeat' (first | exact trivial | exact RenB.v _ | exact RenB.sl _ _ | exact RenB.ep _ | exact RenB.ptr _ _ _ _ rfl | refine zW ?_ | refine zX ?_ | refine ⟨?_, ?_⟩)) ?_
  repeat (first | ((with_reducible refine zK ?_); refine zG tbOk rfl rfl rfl rfl ?_) | ((with_reducible refine zL ?_); refine zN tbOk rfl rfl rfl rfl rfl ?_) | ((with_reducible refine zL ?_); refine zc tbOk rfl rfl rfl rfl (Nat.le_of_ble_eq_true rfl) ?_) | ((with_reducible refine zd ?_); refine zf tbOk rfl rfl rfl rfl rfl rfl rfl (Nat.le_of_ble_eq_true rfl) rfl ?_) | ((with_reducible refine yA ?_); refine yB tbOk rfl rfl ?_)  | refine zJ ?_ | refine zB rfl ?_ | with_reducible refine zC ?_ | with_reducible refine zF ?_ | ((with_reducible refine zA ?_ ?_); kernel_rfl))
  refine x_append_nil tbOk rfl rfl rfl rfl rfl (by decide) rfl rfl rfl (st_one _) (by simp only [List.length_map]; omega) ?_
  repeat (first | ((with_reducible refine zK ?_); refine zG tbOk rfl rfl rfl rfl ?_) | ((with_reducible refine zd ?_); refine zf tbOk rfl rfl rfl rfl rfl rfl rfl (Nat.le_of_ble_eq_true rfl) rfl ?_) | refine zJ ?_ | refine zB rfl ?_ | with_reducible refine zC ?_ | with_reducible refine zF ?_)
  (with_reducible refine zA ?_ ?_); kernel_rfl
  repeat (first | ((with_reducible refine zK ?_); refine zG tbOk rfl rfl rfl rfl ?_) | ((with_reducible refine zL ?_); refine zN tbOk rfl rfl rfl rfl rfl ?_) | ((with_reducible refine zu ?_); refine x_len_own tbOk rfl rfl rfl rfl ?_) | ((with_reducible refine zM ?_); refine zV rfl rfl rfl ?_) | refine zJ ?_ | refine zB rfl ?_ | with_reducible refine zC ?_)
  refine awp_via (ι := Pg × Dk) (fun _ O => PgFew O.1 ∧ DkOk O.2) (fun v O => [(3, .v (.string s)), (5, .ptr 5 (v 5) 0), (6, .ptr 6 (v 6) 0), (9, .ptr 55 (v 55) 0), (10, .ptr 10 (v 10) 0), (11, .ptr 11 (v 11) 0), (12, .ptr 12 (v 12) 0)]) (fun v O => [(55, .box O.2.cells), (5, .box [.v (.string raw.n), .sl 5 (raw.st.map St.av)]), (6, .box [.sl 3 (No.map Nd.av), .sl 5 (Vo.map Dv.av)]), (10, .box [.sl 3 (N.map Nd.av), .sl 5 (V.map Dv.av)]), (11, .box [.v (.string P.n), .sl 5 (P.st.map St.av)]), (12, .box [.v (.string O.1.n), .own 64 (v 64)]), (64, .buf 39 5 (O.1.st.map St.av))]) ?_ ?_
  · have fin0 : ∀ r', (P.st.set 0 r').length ≤ 80 := fun r' => by rw [List.length_set]; omega
    refine zm rfl (fun h => ?_) (fun h => ?_)
    · have hpos : 0 < P.st.length := by simp at h; omega
      have hin := D.in_ (n := (P.st.length : Int)) (by omega) (by omega)
      have hn1 := yz (G := X.G) D ((P.st.map St.av).length : Int) hpd (by omega) (by omega)
      obtain ⟨i, hi⟩ : ∃ i : Nat, D.val (P.st.length : Int) = (i : Int) := ⟨(D.val (P.st.length : Int)).toNat, by omega⟩
      rw [show D.val ((P.st.map St.av).length : Int) = (i : Int) by rw [hrl']; exact hi] at hn1
      rw [hi] at hin
      obtain ⟨r, hr⟩ := zl (L := P.st) (k := i) (by omega)
      have hpf : ((P.st.map St.av).flatMap AV.cells).length = P.st.length * 5 := by rw [flat_len' (qj _), hrl']
      have hts : ∀ (j : Nat) (r' : St) (u : Int), r'.av.cells = r.av.cells.set j (.v (.int .i64 u)) → j < 5 → ((P.st.set i r').map St.av).flatMap AV.cells = putL ((P.st.map St.av).flatMap AV.cells) ((i : Int).toNat * 5 + j) [.v (.int .i64 u)] := fun j r' u e hj => by
        rw [Int.toNat_natCast, List.map_set]
        exact flat_field (qj _) (st_at hr) e hj
      have fin0 : ∀ r', (P.st.set i r').length ≤ 80 := fun r' => by rw [List.length_set]; omega
      have hn2 := yz (G := X.G) D.next 5 hpd.next (by omega) (by omega)
      have hin5 := D.next.in_ (n := 5) (by omega) (by omega)
      obtain ⟨q5, hq5⟩ : ∃ q, q = D.next.val 5 := ⟨_, rfl⟩
      rw [← hq5] at hn2 hin5
      have hd2 := hpd.next.next
      repeat (first | ((with_reducible refine zI ?_); refine zH rfl ?_) | ((with_reducible refine zK ?_); refine zG tbOk rfl rfl rfl rfl ?_) | ((with_reducible refine zL ?_); refine zN tbOk rfl rfl rfl rfl rfl ?_) | ((with_reducible refine zu ?_); refine x_len_own tbOk rfl rfl rfl rfl ?_)  | refine zB rfl ?_ | with_reducible refine zF ?_ | ((with_reducible refine yx mixd ?_ ?_); kernel_rfl))
      refine yX (ss := [(55, 1)]) (hn1) (by repeat' (first | exact trivial | exact Ren.v _ | exact Ren.sl _ _ | exact Ren.ep _ | exact Ren.ptr _ _ _ _ rfl | exact Ren.bs _ _ _ _ _ rfl | exact Ren.nil _ | exact Ren.own _ _ _ _ ⟨_, rfl⟩ | refine zO ?_ | refine zQ ?_ | refine zP ?_ | refine ⟨?_, ?_⟩)) (by simp) (in1 rfl rfl) rfl (yn rfl) (by repeat' (first | exact trivial | exact RenB.v _ | exact RenB.sl _ _ | exact RenB.ep _ | exact RenB.ptr _ _ _ _ rfl | refine zW ?_ | refine zX ?_ | refine ⟨?_, ?_⟩)) ?_
      repeat (first   | refine zB rfl ?_  )
      with_reducible refine zT ?_
      refine x_indexAddr_own tbOk rfl rfl rfl rfl rfl rfl ⟨by omega, by omega⟩ ?_
      repeat (first | ((with_reducible refine zI ?_); refine zH rfl ?_) | ((with_reducible refine zE ?_); refine zD rfl ?_)  | refine jM (by kernel_rfl) ?_ | refine zB rfl ?_ | with_reducible refine zC ?_ | with_reducible refine zF ?_ | ((with_reducible refine zA ?_ ?_); kernel_rfl))
      refine yX (ss := [(55, 1)]) (hn2) (by repeat' (first | exact trivial | exact Ren.v _ | exact Ren.sl _ _ | exact Ren.ep _ | exact Ren.ptr _ _ _ _ rfl | exact Ren.bs _ _ _ _ _ rfl | exact Ren.nil _ | exact Ren.own _ _ _ _ ⟨_, rfl⟩ | refine zO ?_ | refine zQ ?_ | refine zP ?_ | refine ⟨?_, ?_⟩)) (by simp) (in1 rfl rfl) rfl (yn rfl) (by repeat' (first | exact trivial | exact RenB.v _ | exact RenB.sl _ _ | exact RenB.ep _ | exact RenB.ptr _ _ _ _ rfl | refine zW ?_ | refine zX ?_ | refine ⟨?_, ?_⟩)) ?_
      repeat (first | ((with_reducible refine zE ?_); refine zD rfl ?_) | ((with_reducible refine zM ?_); refine zV rfl rfl rfl ?_)  | refine zJ ?_ | refine zB rfl ?_ | with_reducible refine zC ?_ | with_reducible refine zF ?_ | with_reducible refine zY ?_ | ((with_reducible refine zA ?_ ?_); kernel_rfl))
      refine zm rfl (fun h => ?_) (fun h => ?_)
      · have h9 := D.next.next.in_ (n := 9) (by omega) (by omega)
        repeat (first | ((with_reducible refine zI ?_); refine zH rfl ?_)  | refine zB rfl ?_  | ((with_reducible refine zA ?_ ?_); kernel_rfl))
        refine yX (ss := [(55, 1)]) (yz D.next.next 9 hd2 (by omega) (by omega)) (by repeat' (first | exact trivial | exact Ren.v _ | exact Ren.sl _ _ | exact Ren.ep _ | exact Ren.ptr _ _ _ _ rfl | exact Ren.bs _ _ _ _ _ rfl | exact Ren.nil _ | exact Ren.own _ _ _ _ ⟨_, rfl⟩ | refine zO ?_ | refine zQ ?_ | refine zP ?_ | refine ⟨?_, ?_⟩)) (by simp) (in1 rfl rfl) rfl (yn rfl) (by repeat' (first | exact trivial | exact RenB.v _ | exact RenB.sl _ _ | exact RenB.ep _ | exact RenB.ptr _ _ _ _ rfl | refine zW ?_ | refine zX ?_ | refine ⟨?_, ?_⟩)) ?_
        repeat (first | ((with_reducible refine zM ?_); refine jN rfl rfl (by omega) ?_)  | refine zB rfl ?_  )
        (with_reducible refine jR ?_); refine jo rfl ?_
        repeat (first | ((with_reducible refine zK ?_); refine jl tbOk rfl rfl rfl rfl ?_)  | refine zB rfl ?_  )
        with_reducible refine zd ?_
        refine x_store_po (L' := (P.st.set i ⟨D.next.next.val 9 - 1, r.d, r.n, r.p, r.y⟩).map St.av) tbOk rfl rfl rfl rfl rfl rfl rfl rfl rfl (by rw [hpf, Int.toNat_natCast]; omega) (by simp) (qj _) (hts 0 ⟨D.next.next.val 9 - 1, r.d, r.n, r.p, r.y⟩ _ rfl (by decide)) ?_
        repeat (first   | refine zJ ?_ | with_reducible refine zC ?_ | with_reducible refine zk ?_ )
        exact ⟨(⟨P.n, P.st.set i ⟨D.next.next.val 9 - 1, r.d, r.n, r.p, r.y⟩⟩, D.next.next.next), ⟨⟨hpn, fin0 _⟩, hd2.next⟩, trivial, ⟨rfl, rfl, rfl, rfl, rfl, rfl, rfl, trivial⟩, ⟨rfl, rfl, rfl, rfl, rfl, rfl, rfl, trivial⟩⟩
      repeat (first | ((with_reducible refine zE ?_); refine zD rfl ?_) | ((with_reducible refine zM ?_); refine zV rfl rfl rfl ?_)  | refine zJ ?_ | refine zB rfl ?_ | with_reducible refine zC ?_ | with_reducible refine zF ?_ | ((with_reducible refine zA ?_ ?_); kernel_rfl))
      refine zm rfl (fun h => ?_) (fun h => ?_)
      · have h9 := D.next.next.in_ (n := ((V.map Dv.av).length : Int) + 2) (by omega) (by omega)
        repeat (first | ((with_reducible refine zI ?_); refine zH rfl ?_) | ((with_reducible refine zK ?_); refine zG tbOk rfl rfl rfl rfl ?_) | ((with_reducible refine zL ?_); refine zN tbOk rfl rfl rfl rfl rfl ?_) | ((with_reducible refine zu ?_); refine yR tbOk rfl rfl ?_) | ((with_reducible refine zM ?_); refine ze rfl rfl (by omega) ?_)  | refine zB rfl ?_  | ((with_reducible refine zA ?_ ?_); kernel_rfl))
        refine yX (ss := [(55, 1)]) (yz D.next.next (((V.map Dv.av).length : Int) + 2) hd2 (by omega) (by omega)) (by repeat' (first | exact trivial | exact Ren.v _ | exact Ren.sl _ _ | exact Ren.ep _ | exact Ren.ptr _ _ _ _ rfl | exact Ren.bs _ _ _ _ _ rfl | exact Ren.nil _ | exact Ren.own _ _ _ _ ⟨_, rfl⟩ | refine zO ?_ | refine zQ ?_ | refine zP ?_ | refine ⟨?_, ?_⟩)) (by simp) (in1 rfl rfl) rfl (yn rfl) (by repeat' (first | exact trivial | exact RenB.v _ | exact RenB.sl _ _ | exact RenB.ep _ | exact RenB.ptr _ _ _ _ rfl | refine zW ?_ | refine zX ?_ | refine ⟨?_, ?_⟩)) ?_
        repeat (first | ((with_reducible refine zM ?_); refine jN rfl rfl (by omega) ?_)  | refine zB rfl ?_  )
        (with_reducible refine jR ?_); refine jo rfl ?_
        repeat (first | ((with_reducible refine zK ?_); refine jl tbOk rfl rfl rfl rfl ?_)  | refine zB rfl ?_  )
        with_reducible refine zd ?_
        refine x_store_po (L' := (P.st.set i ⟨r.k, D.next.next.val (((V.map Dv.av).length : Int) + 2) - 1, r.n, r.p, r.y⟩).map St.av) tbOk rfl rfl rfl rfl rfl rfl rfl rfl rfl (by rw [hpf, Int.toNat_natCast]; omega) (by simp) (qj _) (hts 1 ⟨r.k, D.next.next.val (((V.map Dv.av).length : Int) + 2) - 1, r.n, r.p, r.y⟩ _ rfl (by decide)) ?_
        repeat (first   | refine zJ ?_ | with_reducible refine zC ?_ | with_reducible refine zk ?_ )
        exact ⟨(⟨P.n, P.st.set i ⟨r.k, D.next.next.val (((V.map Dv.av).length : Int) + 2) - 1, r.n, r.p, r.y⟩⟩, D.next.next.next), ⟨⟨hpn, fin0 _⟩, hd2.next⟩, trivial, ⟨rfl, rfl, rfl, rfl, rfl, rfl, rfl, trivial⟩, ⟨rfl, rfl, rfl, rfl, rfl, rfl, rfl, trivial⟩⟩
      repeat (first | ((with_reducible refine zE ?_); refine zD rfl ?_) | ((with_reducible refine zM ?_); refine zV rfl rfl rfl ?_)  | refine zJ ?_ | refine zB rfl ?_ | with_reducible refine zC ?_ | with_reducible refine zF ?_ | ((with_reducible refine zA ?_ ?_); kernel_rfl))
      refine zm rfl (fun h => ?_) (fun h => ?_)
      · have hso := hpo.s r (List.mem_of_getElem? hr)
        have hnn : 0 ≤ r.n ∧ r.n ≤ 1000000 := by
          by_cases e : r.k = 5
          · have := hso.n e; omega
          · have := hso.n0 e; omega
        repeat (first | ((with_reducible refine zI ?_); refine zH rfl ?_)  | refine zB rfl ?_  | ((with_reducible refine zA ?_ ?_); kernel_rfl))
        (with_reducible refine jR ?_); refine jo rfl ?_
        repeat (first | ((with_reducible refine zK ?_); refine jl tbOk rfl rfl rfl rfl ?_)  | refine zB rfl ?_  )
        with_reducible refine zL ?_
        refine x_load_po_one (y := .v (.int .i64 r.n)) tbOk rfl rfl rfl rfl ?_ (by omega) ?_
        · rw [Int.toNat_natCast]
          have hg := flat_get (qj _) (st_at hr)
          have h2 : (((P.st.map St.av).flatMap AV.cells).drop (i * 5))[2]? = some (.v (.int .i64 r.n)) := by
            have h3 : ((((P.st.map St.av).flatMap AV.cells).drop (i * 5)).take 5)[2]? = some (.v (.int .i64 r.n)) := by rw [hg]; rfl
            rwa [List.getElem?_take_of_lt (by decide)] at h3
          rwa [List.getElem?_drop] at h2
        repeat (first | ((with_reducible refine zM ?_); refine ze rfl rfl (by omega) ?_)  | refine zB rfl ?_  )
        (with_reducible refine jR ?_); refine jo rfl ?_
        repeat (first | ((with_reducible refine zK ?_); refine jl tbOk rfl rfl rfl rfl ?_)  | refine zB rfl ?_  )
        with_reducible refine zd ?_
        refine x_store_po (L' := (P.st.set i ⟨r.k, r.d, r.n + 1, r.p, r.y⟩).map St.av) tbOk rfl rfl rfl rfl rfl rfl rfl rfl rfl (by rw [hpf, Int.toNat_natCast]; omega) (by simp) (qj _) (hts 2 ⟨r.k, r.d, r.n + 1, r.p, r.y⟩ _ rfl (by decide)) ?_
        repeat (first   | refine zJ ?_ | with_reducible refine zC ?_ | with_reducible refine zk ?_ )
        exact ⟨(⟨P.n, P.st.set i ⟨r.k, r.d, r.n + 1, r.p, r.y⟩⟩, D.next.next), ⟨⟨hpn, fin0 _⟩, hd2⟩, trivial, ⟨rfl, rfl, rfl, rfl, rfl, rfl, rfl, trivial⟩, ⟨rfl, rfl, rfl, rfl, rfl, rfl, rfl, trivial⟩⟩
      repeat (first | ((with_reducible refine zE ?_); refine zD rfl ?_) | ((with_reducible refine zM ?_); refine zV rfl rfl rfl ?_)  | refine zJ ?_ | refine zB rfl ?_ | with_reducible refine zC ?_ | with_reducible refine zF ?_ | ((with_reducible refine zA ?_ ?_); kernel_rfl))
      refine zm rfl (fun h => ?_) (fun h => ?_)
      · have h9 := D.next.next.in_ (n := 5) (by omega) (by omega)
        repeat (first | ((with_reducible refine zI ?_); refine zH rfl ?_)  | refine zB rfl ?_  | ((with_reducible refine zA ?_ ?_); kernel_rfl))
        refine yX (ss := [(55, 1)]) (yz D.next.next 5 hd2 (by omega) (by omega)) (by repeat' (first | exact trivial | exact Ren.v _ | exact Ren.sl _ _ | exact Ren.ep _ | exact Ren.ptr _ _ _ _ rfl | exact Ren.bs _ _ _ _ _ rfl | exact Ren.nil _ | exact Ren.own _ _ _ _ ⟨_, rfl⟩ | refine zO ?_ | refine zQ ?_ | refine zP ?_ | refine ⟨?_, ?_⟩)) (by simp) (in1 rfl rfl) rfl (yn rfl) (by repeat' (first | exact trivial | exact RenB.v _ | exact RenB.sl _ _ | exact RenB.ep _ | exact RenB.ptr _ _ _ _ rfl | refine zW ?_ | refine zX ?_ | refine ⟨?_, ?_⟩)) ?_
        repeat (first | ((with_reducible refine zM ?_); refine jN rfl rfl (by omega) ?_)  | refine zB rfl ?_  )
        (with_reducible refine jR ?_); refine jo rfl ?_
        repeat (first | ((with_reducible refine zK ?_); refine jl tbOk rfl rfl rfl rfl ?_)  | refine zB rfl ?_  )
        with_reducible refine zd ?_
        refine x_store_po (L' := (P.st.set i ⟨r.k, r.d, r.n, D.next.next.val 5 - 1, r.y⟩).map St.av) tbOk rfl rfl rfl rfl rfl rfl rfl rfl rfl (by rw [hpf, Int.toNat_natCast]; omega) (by simp) (qj _) (hts 3 ⟨r.k, r.d, r.n, D.next.next.val 5 - 1, r.y⟩ _ rfl (by decide)) ?_
        repeat (first   | refine zJ ?_ | with_reducible refine zC ?_ | with_reducible refine zk ?_ )
        exact ⟨(⟨P.n, P.st.set i ⟨r.k, r.d, r.n, D.next.next.val 5 - 1, r.y⟩⟩, D.next.next.next), ⟨⟨hpn, fin0 _⟩, hd2.next⟩, trivial, ⟨rfl, rfl, rfl, rfl, rfl, rfl, rfl, trivial⟩, ⟨rfl, rfl, rfl, rfl, rfl, rfl, rfl, trivial⟩⟩
      · have h9 := D.next.next.in_ (n := 5) (by omega) (by omega)
        have hn3 := yz (G := X.G) D.next.next 5 hd2 (by omega) (by omega)
        obtain ⟨qk, hqk⟩ : ∃ q, q = D.next.next.val 5 := ⟨_, rfl⟩
        rw [← hqk] at hn3 h9
        obtain ⟨yv, hyv⟩ : ∃ yv : Int, ([.v (.int .i64 (-1)), .v (.int .i64 0), .v (.int .i64 1), .v (.int .i64 65536), .v (.int .i64 65537)] : List AV)[qk.toNat]? = some (.v (.int .i64 yv)) := by
          rcases (by omega : qk = 0 ∨ qk = 1 ∨ qk = 2 ∨ qk = 3 ∨ qk = 4) with e | e | e | e | e <;> rw [e] <;> exact ⟨_, rfl⟩
        repeat (first | ((with_reducible refine zI ?_); refine zH rfl ?_) | ((with_reducible refine yG ?_); refine yH tbOk rfl rfl rfl rfl rfl (by omega) rfl rfl rfl ?_) | refine zB rfl ?_  | ((with_reducible refine zA ?_ ?_); kernel_rfl))
        refine yX (ss := [(55, 1)]) (hn3) (by repeat' (first | exact trivial | exact Ren.v _ | exact Ren.sl _ _ | exact Ren.ep _ | exact Ren.ptr _ _ _ _ rfl | exact Ren.bs _ _ _ _ _ rfl | exact Ren.nil _ | exact Ren.own _ _ _ _ ⟨_, rfl⟩ | refine zO ?_ | refine zQ ?_ | refine zP ?_ | refine ⟨?_, ?_⟩)) (by simp) (in1 rfl rfl) rfl (yn rfl) (by repeat' (first | exact trivial | exact RenB.v _ | exact RenB.sl _ _ | exact RenB.ep _ | exact RenB.ptr _ _ _ _ rfl | refine zW ?_ | refine zX ?_ | refine ⟨?_, ?_⟩)) ?_
        repeat (first | ((with_reducible refine zL ?_); refine za tbOk rfl rfl rfl ?_) | ((with_reducible refine zT ?_); refine jL tbOk rfl rfl rfl rfl (by omega) (by assumption) ?_)  | refine zB rfl ?_  )
        (with_reducible refine jR ?_); refine jo rfl ?_
        repeat (first | ((with_reducible refine zK ?_); refine jl tbOk rfl rfl rfl rfl ?_)  | refine zB rfl ?_  )
        with_reducible refine zd ?_
        refine x_store_po (L' := (P.st.set i ⟨r.k, r.d, r.n, r.p, yv⟩).map St.av) tbOk rfl rfl rfl rfl rfl rfl rfl rfl rfl (by rw [hpf, Int.toNat_natCast]; omega) (by simp) (qj _) (hts 4 ⟨r.k, r.d, r.n, r.p, yv⟩ _ rfl (by decide)) ?_
        repeat (first   | refine zJ ?_ | with_reducible refine zC ?_ | with_reducible refine zk ?_ )
        exact ⟨(⟨P.n, P.st.set i ⟨r.k, r.d, r.n, r.p, yv⟩⟩, D.next.next.next), ⟨⟨hpn, fin0 _⟩, hd2.next⟩, trivial, ⟨rfl, rfl, rfl, rfl, rfl, rfl, rfl, trivial⟩, ⟨rfl, rfl, rfl, rfl, rfl, rfl, rfl, trivial⟩⟩
    · repeat (first    | with_reducible refine zC ?_ | with_reducible refine zR ?_ )
      exact ⟨(P, D), ⟨⟨hpn, by show P.st.length ≤ 80; omega⟩, hpd⟩, trivial, ⟨rfl, rfl, rfl, rfl, rfl, rfl, rfl, trivial⟩, ⟨rfl, rfl, rfl, rfl, rfl, rfl, rfl, trivial⟩⟩
  rintro v ⟨O, D2⟩ ⟨hO, hdk2⟩
  dsimp only at hO hdk2 ⊢
  have hO1 := hO.n
  have hO2 := hO.l
  refine jp (s := 64) [] [(12, [.v (.string O.n), .sl 5 (O.st.map St.av)])] rfl trivial ⟨⟨_, _, rfl, .same (.hit .nil)⟩, trivial⟩ ?_
  have hn3 := yz (G := X.G) D2 (L.size : Int) hdk2 (by omega) (by omega)
  have hin3 := D2.in_ (n := (L.size : Int)) (by omega) (by omega)
  obtain ⟨at_, hat⟩ : ∃ q, q = D2.val (L.size : Int) := ⟨_, rfl⟩
  rw [← hat] at hn3 hin3
  have hn4 := yz (G := X.G) D2.next 5 hdk2.next (by omega) (by omega)
  have hin4 := D2.next.in_ (n := 5) (by omega) (by omega)
  obtain ⟨q4, hq4⟩ : ∃ q, q = D2.next.val 5 := ⟨_, rfl⟩
  rw [← hq4] at hn4 hin4
  have hn5 := yz (G := X.G) D2.next.next 2 hdk2.next.next (by omega) (by omega)
  have hin5 := D2.next.next.in_ (n := 2) (by omega) (by omega)
  obtain ⟨q5, hq5⟩ : ∃ q, q = D2.next.next.val 2 := ⟨_, rfl⟩
  rw [← hq5] at hn5 hin5
  obtain ⟨w4, hw4, hw4s⟩ : ∃ w : ByteArray, ([.v (.string ⟨#[]⟩), .v (.string ⟨#[32]⟩), .v (.string ⟨#[10]⟩), .v (.string ⟨#[48]⟩), .v (.string ⟨#[111, 112, 101, 110, 32]⟩)] : List AV)[q4.toNat]? = some (.v (.string w)) ∧ w.size ≤ 5 := by
    rcases (by omega : q4 = 0 ∨ q4 = 1 ∨ q4 = 2 ∨ q4 = 3 ∨ q4 = 4) with e | e | e | e | e <;> rw [e] <;> exact ⟨_, rfl, by decide⟩
  have hx1 : ∀ a b : Nat, (L.extract a b).size ≤ L.size := fun a b => by rw [ByteArray.size_extract]; omega
  have hlp1 : decide ((0 : Int) < (L.size : Int)) = true := decide_eq_true (by omega)
  repeat (first | ((with_reducible refine zL ?_); refine zc tbOk rfl rfl rfl rfl (Nat.le_of_ble_eq_true rfl) ?_)  | refine zB rfl ?_ | with_reducible refine zF ?_ | ((with_reducible refine zA ?_ ?_); kernel_rfl))
  refine zo (hp) (by repeat' (first | exact trivial | exact Ren.v _ | exact Ren.sl _ _ | exact Ren.ep _ | exact Ren.ptr _ _ _ _ rfl | exact Ren.bs _ _ _ _ _ rfl | exact Ren.nil _ | exact Ren.own _ _ _ _ ⟨_, rfl⟩ | refine zO ?_ | refine zQ ?_ | refine zP ?_ | refine ⟨?_, ?_⟩)) (by repeat' (first | exact trivial | exact RenB.v _ | exact RenB.sl _ _ | exact RenB.ep _ | exact RenB.ptr _ _ _ _ rfl | refine zW ?_ | refine zX ?_ | refine ⟨?_, ?_⟩)) ?_
  repeat (first | ((with_reducible refine zI ?_); refine zH rfl ?_) | ((with_reducible refine zE ?_); refine zD rfl ?_) | ((with_reducible refine yN ?_); refine yO rfl rfl ?_) | ((with_reducible refine zu ?_); refine jA (by exact Tryz.underlying9) rfl ?_) | ((with_reducible refine zM ?_); refine zV rfl rfl rfl ?_)  | refine zJ ?_ | refine zB rfl ?_ | with_reducible refine zC ?_ | with_reducible refine zF ?_ | ((with_reducible refine zA ?_ ?_); kernel_rfl) | refine zg rfl (by first | rfl | assumption) ?_)
  refine yX (ss := [(55, v 55)]) (hn3) (by repeat' (first | exact trivial | exact Ren.v _ | exact Ren.sl _ _ | exact Ren.ep _ | exact Ren.ptr _ _ _ _ rfl | exact Ren.bs _ _ _ _ _ rfl | exact Ren.nil _ | exact Ren.own _ _ _ _ ⟨_, rfl⟩ | refine zO ?_ | refine zQ ?_ | refine zP ?_ | refine ⟨?_, ?_⟩)) (by simp) (in1 rfl rfl) rfl (yn rfl) (by repeat' (first | exact trivial | exact RenB.v _ | exact RenB.sl _ _ | exact RenB.ep _ | exact RenB.ptr _ _ _ _ rfl | refine zW ?_ | refine zX ?_ | refine ⟨?_, ?_⟩)) ?_
  repeat (first | ((with_reducible refine zI ?_); refine zH rfl ?_) | ((with_reducible refine zE ?_); refine zD rfl ?_) | ((with_reducible refine k_slice ?_); refine x_sliceS (by exact Tryz.underlying9) rfl rfl rfl (by refine ⟨?_, ?_, ?_⟩ <;> omega) ?_) | ((with_reducible refine yG ?_); refine yH tbOk rfl rfl rfl rfl rfl (by omega) rfl rfl rfl ?_) | refine zJ ?_ | refine zB rfl ?_ | with_reducible refine zC ?_ | ((with_reducible refine yx mixd ?_ ?_); kernel_rfl))
  refine yX (ss := [(55, v 55)]) (hn4) (by repeat' (first | exact trivial | exact Ren.v _ | exact Ren.sl _ _ | exact Ren.ep _ | exact Ren.ptr _ _ _ _ rfl | exact Ren.bs _ _ _ _ _ rfl | exact Ren.nil _ | exact Ren.own _ _ _ _ ⟨_, rfl⟩ | refine zO ?_ | refine zQ ?_ | refine zP ?_ | refine ⟨?_, ?_⟩)) (by simp) (in1 rfl rfl) rfl (yn rfl) (by repeat' (first | exact trivial | exact RenB.v _ | exact RenB.sl _ _ | exact RenB.ep _ | exact RenB.ptr _ _ _ _ rfl | refine zW ?_ | refine zX ?_ | refine ⟨?_, ?_⟩)) ?_
  repeat (first | ((with_reducible refine zL ?_); refine za tbOk rfl rfl rfl ?_) | ((with_reducible refine zT ?_); refine jL tbOk rfl rfl rfl rfl (by omega) (by assumption) ?_)  | refine zB rfl ?_  )
  with_reducible refine zM ?_
  refine yb rfl rfl (by have := hx1 (0 : Int).toNat at_.toNat; omega) ?_
  repeat (first | ((with_reducible refine zI ?_); refine zH rfl ?_)  | refine zB rfl ?_  )
  refine yX (ss := [(55, v 55)]) (hn5) (by repeat' (first | exact trivial | exact Ren.v _ | exact Ren.sl _ _ | exact Ren.ep _ | exact Ren.ptr _ _ _ _ rfl | exact Ren.bs _ _ _ _ _ rfl | exact Ren.nil _ | exact Ren.own _ _ _ _ ⟨_, rfl⟩ | refine zO ?_ | refine zQ ?_ | refine zP ?_ | refine ⟨?_, ?_⟩)) (by simp) (in1 rfl rfl) rfl (yn rfl) (by repeat' (first | exact trivial | exact RenB.v _ | exact RenB.sl _ _ | exact RenB.ep _ | exact RenB.ptr _ _ _ _ rfl | refine zW ?_ | refine zX ?_ | refine ⟨?_, ?_⟩)) ?_
  repeat (first | ((with_reducible refine k_slice ?_); refine x_sliceS (by exact Tryz.underlying9) rfl rfl rfl (by refine ⟨?_, ?_, ?_⟩ <;> omega) ?_) | ((with_reducible refine zM ?_); refine ze rfl rfl (by omega) ?_)  | refine zB rfl ?_  )
  with_reducible refine zM ?_
  refine yb rfl rfl (by rw [ByteArray.size_append]; have h1 := hx1 (0 : Int).toNat at_.toNat; have h3 := hx1 (at_ + q5).toNat (L.size : Int).toNat; omega) ?_
  obtain ⟨C, hC⟩ : ∃ C, C = L.extract (0 : Int).toNat at_.toNat ++ w4 ++ L.extract (at_ + q5).toNat (L.size : Int).toNat := ⟨_, rfl⟩
  have hCs : C.size ≤ 40001 := by
    rw [hC, ByteArray.size_append, ByteArray.size_append]
    have h1 := hx1 (0 : Int).toNat at_.toNat
    have h3 := hx1 (at_ + q5).toNat (L.size : Int).toNat
    omega
  rw [← hC]
  clear hC hn3 hn4 hn5 hin3 hin4 hin5 hw4 hx1
  repeat (first | ((with_reducible refine zI ?_); refine zH rfl ?_) | ((with_reducible refine zE ?_); refine zD rfl ?_) | ((with_reducible refine zL ?_); refine zc tbOk rfl rfl rfl rfl (Nat.le_of_ble_eq_true rfl) ?_) | ((with_reducible refine zu ?_); refine yR tbOk rfl rfl ?_) | ((with_reducible refine yG ?_); refine yH tbOk rfl rfl rfl rfl rfl (by omega) rfl rfl rfl ?_) | refine zJ ?_ | refine jM (by kernel_rfl) ?_ | refine zB rfl ?_ | with_reducible refine zC ?_ | with_reducible refine zF ?_ | with_reducible refine zY ?_ | ((with_reducible refine zA ?_ ?_); kernel_rfl))
  refine yU (ι := Nat) (fun a => a ≤ 2) (fun a => 2 - a) (fun v a => [(3, .v (.string s)), (5, .ptr 5 (v 5) 0), (11, .ptr 11 (v 11) 0), (12, .ptr 12 (v 12) 0), (14, .v (.string L)), (16, .v (.string C)), (157, .sl 2 [.ag [.sl 3 (N.map Nd.av), .sl 5 (V.map Dv.av)], .ag [.sl 3 (No.map Nd.av), .sl 5 (Vo.map Dv.av)]]), (158, .v (.int .i64 2)), (159, .v (.int .i64 (a : Nat)))]) (fun v a => [(5, .box [.v (.string raw.n), .sl 5 (raw.st.map St.av)]), (11, .box [.v (.string P.n), .sl 5 (P.st.map St.av)]), (12, .box [.v (.string O.n), .sl 5 (O.st.map St.av)])]) ?_ ?_
  · exact ⟨0, Nat.zero_le _, trivial, ⟨rfl, rfl, rfl, rfl, rfl, rfl, rfl, rfl, rfl, trivial⟩, ⟨rfl, rfl, rfl, trivial⟩⟩
  clear v
  rintro v a ha
  repeat (first | ((with_reducible refine zM ?_); refine zV rfl rfl rfl ?_)  | refine zJ ?_ | refine zB rfl ?_ | with_reducible refine zC ?_ | with_reducible refine zF ?_ | ((with_reducible refine zA ?_ ?_); kernel_rfl))
  refine zm rfl (fun h => ?_) (fun h => ?_)
  · have hlt : a < 2 := by simp at h; omega
    obtain ⟨N1, V1, hy, ok1⟩ : ∃ (N1 : List Nd) (V1 : List Dv), ([.ag [.sl 3 (N.map Nd.av), .sl 5 (V.map Dv.av)], .ag [.sl 3 (No.map Nd.av), .sl 5 (Vo.map Dv.av)]] : List AV)[a]? = some (.ag [.sl 3 (N1.map Nd.av), .sl 5 (V1.map Dv.av)]) ∧ NwOk N1 V1 := by
      obtain rfl | rfl : a = 0 ∨ a = 1 := by omega
      · exact ⟨N, V, rfl, ok⟩
      · exact ⟨No, Vo, rfl, oko⟩
    repeat (first | ((with_reducible refine zI ?_); refine zH rfl ?_) | ((with_reducible refine zL ?_); refine zc tbOk rfl rfl rfl rfl (Nat.le_of_ble_eq_true rfl) ?_) | ((with_reducible refine zL ?_); refine yT tbOk rfl rfl (Nat.le_of_ble_eq_true rfl) ?_) | ((with_reducible refine zd ?_); refine zf tbOk rfl rfl rfl rfl rfl rfl rfl (Nat.le_of_ble_eq_true rfl) rfl ?_) | ((with_reducible refine yA ?_); refine yB tbOk rfl rfl ?_) | ((with_reducible refine zT ?_); refine zZ tbOk rfl rfl rfl rfl (by assumption) ?_) | ((with_reducible refine zu ?_); refine yR tbOk rfl rfl ?_) | ((with_reducible refine yG ?_); refine yH tbOk rfl rfl rfl rfl rfl (by omega) rfl rfl rfl ?_) | refine zJ ?_ | refine zB rfl ?_ | with_reducible refine zC ?_ | with_reducible refine zF ?_ | with_reducible refine zY ?_ | with_reducible refine zR ?_ | ((with_reducible refine zA ?_ ?_); kernel_rfl))
    refine yU (ι := Nat) (fun b => b ≤ 3) (fun b => 3 - b) (fun v b => [(3, .v (.string s)), (5, .ptr 5 (v 5) 0), (11, .ptr 11 (v 11) 0), (12, .ptr 12 (v 12) 0), (14, .v (.string L)), (16, .v (.string C)), (157, .sl 2 [.ag [.sl 3 (N.map Nd.av), .sl 5 (V.map Dv.av)], .ag [.sl 3 (No.map Nd.av), .sl 5 (Vo.map Dv.av)]]), (158, .v (.int .i64 2)), (159, .v (.int .i64 (a : Nat))), (19, .ptr 19 (v 19) 0), (166, .sl 2 [.ag [.v (.string P.n), .sl 5 (P.st.map St.av)], .ag [.v (.string O.n), .sl 5 (O.st.map St.av)], .ag [.v (.string raw.n), .sl 5 (raw.st.map St.av)]]), (167, .v (.int .i64 3)), (168, .v (.int .i64 (b : Nat)))]) (fun v b => [(5, .box [.v (.string raw.n), .sl 5 (raw.st.map St.av)]), (11, .box [.v (.string P.n), .sl 5 (P.st.map St.av)]), (12, .box [.v (.string O.n), .sl 5 (O.st.map St.av)]), (19, .box [.sl 3 (N1.map Nd.av), .sl 5 (V1.map Dv.av)])]) ?_ ?_
    · exact ⟨0, Nat.zero_le _, trivial, ⟨rfl, rfl, rfl, rfl, rfl, rfl, rfl, rfl, rfl, rfl, rfl, rfl, rfl, trivial⟩, ⟨rfl, rfl, rfl, rfl, trivial⟩⟩
    clear v
    rintro v b hb
    repeat (first | ((with_reducible refine zM ?_); refine zV rfl rfl rfl ?_)  | refine zJ ?_ | refine zB rfl ?_ | with_reducible refine zC ?_ | with_reducible refine zF ?_ | ((with_reducible refine zA ?_ ?_); kernel_rfl))
    refine zm rfl (fun h => ?_) (fun h => ?_)
    · have hlt2 : b < 3 := by simp at h; omega
      obtain ⟨Y, hyY, yc, yl⟩ : ∃ Y : Pg, ([.ag [.v (.string P.n), .sl 5 (P.st.map St.av)], .ag [.v (.string O.n), .sl 5 (O.st.map St.av)], .ag [.v (.string raw.n), .sl 5 (raw.st.map St.av)]] : List AV)[b]? = some (.ag [.v (.string Y.n), .sl 5 (Y.st.map St.av)]) ∧ Y.n.size ≤ maxLen ∧ Y.st.length ≤ 80 := by
        obtain rfl | rfl | rfl : b = 0 ∨ b = 1 ∨ b = 2 := by omega
        · exact ⟨P, rfl, hpn, by omega⟩
        · exact ⟨O, rfl, hO1, hO2⟩
        · exact ⟨raw, rfl, hrn, hr80⟩
      have ylm : Y.st.length ≤ maxLen := by unfold maxLen; omega
      have f1 := print_A (G := X.G) N1 V1 Y hG hP hPl ok1 yc ylm
      have f2 := rprint_A (G := X.G) N1 V1 Y hP ok1 yc ylm hG
      obtain ⟨⟨pt, pe⟩, hpm⟩ : ∃ q, q = printG N1 V1 Y := ⟨_, rfl⟩
      rw [← hpm] at f1 f2
      simp only at f1 f2
      have p1 : (!yh pt pt) = false := by rw [jh.2 rfl]; rfl
      have p2 : (!decide (pe = pe)) = false := by simp
      have p3 : (!decide (jv N1 V1 Y = jv N1 V1 Y)) = false := by simp
      have p4 : (psameB Y P != psameB Y P) = false := by simp
      have p5 : (pe != pe) = false := by simp
      have p6 : (jv N1 V1 Y != jv N1 V1 Y) = false := by simp
      repeat (first | ((with_reducible refine zL ?_); refine zc tbOk rfl rfl rfl rfl (Nat.le_of_ble_eq_true rfl) ?_) | ((with_reducible refine zL ?_); refine yT tbOk rfl rfl (Nat.le_of_ble_eq_true rfl) ?_) | ((with_reducible refine zd ?_); refine zf tbOk rfl rfl rfl rfl rfl rfl rfl (Nat.le_of_ble_eq_true rfl) rfl ?_) | ((with_reducible refine yA ?_); refine yB tbOk rfl rfl ?_) | ((with_reducible refine zT ?_); refine zZ tbOk rfl rfl rfl rfl (by assumption) ?_)  | refine zJ ?_ | refine zB rfl ?_ | with_reducible refine zC ?_ | with_reducible refine zF ?_ | with_reducible refine zY ?_ | with_reducible refine zR ?_ | ((with_reducible refine zA ?_ ?_); kernel_rfl))
      refine zo (f1) (by repeat' (first | exact trivial | exact Ren.v _ | exact Ren.sl _ _ | exact Ren.ep _ | exact Ren.ptr _ _ _ _ rfl | exact Ren.bs _ _ _ _ _ rfl | exact Ren.nil _ | exact Ren.own _ _ _ _ ⟨_, rfl⟩ | refine zO ?_ | refine zQ ?_ | refine zP ?_ | refine ⟨?_, ?_⟩)) (by repeat' (first | exact trivial | exact RenB.v _ | exact RenB.sl _ _ | exact RenB.ep _ | exact RenB.ptr _ _ _ _ rfl | refine zW ?_ | refine zX ?_ | refine ⟨?_, ?_⟩)) ?_
      repeat (first | ((with_reducible refine zI ?_); refine zH rfl ?_) | ((with_reducible refine zE ?_); refine zD rfl ?_) | ((with_reducible refine zL ?_); refine zc tbOk rfl rfl rfl rfl (Nat.le_of_ble_eq_true rfl) ?_) | ((with_reducible refine yN ?_); refine yO rfl rfl ?_)  | refine zJ ?_ | refine zB rfl ?_ | with_reducible refine zC ?_ | with_reducible refine zF ?_ | ((with_reducible refine zA ?_ ?_); kernel_rfl))
      refine zo (f2) (by repeat' (first | exact trivial | exact Ren.v _ | exact Ren.sl _ _ | exact Ren.ep _ | exact Ren.ptr _ _ _ _ rfl | exact Ren.bs _ _ _ _ _ rfl | exact Ren.nil _ | exact Ren.own _ _ _ _ ⟨_, rfl⟩ | refine zO ?_ | refine zQ ?_ | refine zP ?_ | refine ⟨?_, ?_⟩)) (by repeat' (first | exact trivial | exact RenB.v _ | exact RenB.sl _ _ | exact RenB.ep _ | exact RenB.ptr _ _ _ _ rfl | refine zW ?_ | refine zX ?_ | refine ⟨?_, ?_⟩)) ?_
      repeat (first | ((with_reducible refine zI ?_); refine zH rfl ?_) | ((with_reducible refine zE ?_); refine zD rfl ?_) | ((with_reducible refine zL ?_); refine zc tbOk rfl rfl rfl rfl (Nat.le_of_ble_eq_true rfl) ?_) | ((with_reducible refine yN ?_); refine yO rfl rfl ?_) | ((with_reducible refine zb ?_); refine zq rfl (by first | rfl | assumption) rfl ?_) | ((with_reducible refine zM ?_); refine zV rfl rfl rfl ?_) | ((with_reducible refine zM ?_); refine yp rfl rfl rfl ?_)  | refine zJ ?_ | refine zB rfl ?_ | refine zv rfl rfl (by first | rfl | assumption) ?_ | with_reducible refine zC ?_ | with_reducible refine zF ?_ | ((with_reducible refine yx mixd ?_ ?_); kernel_rfl))
      refine zo (pcheck_A N1 V1 Y hG ok1 yc ylm) (by repeat' (first | exact trivial | exact Ren.v _ | exact Ren.sl _ _ | exact Ren.ep _ | exact Ren.ptr _ _ _ _ rfl | exact Ren.bs _ _ _ _ _ rfl | exact Ren.nil _ | exact Ren.own _ _ _ _ ⟨_, rfl⟩ | refine zO ?_ | refine zQ ?_ | refine zP ?_ | refine ⟨?_, ?_⟩)) (by repeat' (first | exact trivial | exact RenB.v _ | exact RenB.sl _ _ | exact RenB.ep _ | exact RenB.ptr _ _ _ _ rfl | refine zW ?_ | refine zX ?_ | refine ⟨?_, ?_⟩)) ?_
      repeat (first | ((with_reducible refine zL ?_); refine zc tbOk rfl rfl rfl rfl (Nat.le_of_ble_eq_true rfl) ?_)  | refine zv rfl rfl (by first | rfl | assumption) ?_  )
      refine zo (prcheck_A N1 V1 Y hG ok1 yc ylm) (by repeat' (first | exact trivial | exact Ren.v _ | exact Ren.sl _ _ | exact Ren.ep _ | exact Ren.ptr _ _ _ _ rfl | exact Ren.bs _ _ _ _ _ rfl | exact Ren.nil _ | exact Ren.own _ _ _ _ ⟨_, rfl⟩ | refine zO ?_ | refine zQ ?_ | refine zP ?_ | refine ⟨?_, ?_⟩)) (by repeat' (first | exact trivial | exact RenB.v _ | exact RenB.sl _ _ | exact RenB.ep _ | exact RenB.ptr _ _ _ _ rfl | refine zW ?_ | refine zX ?_ | refine ⟨?_, ?_⟩)) ?_
      repeat (first | ((with_reducible refine zI ?_); refine zH rfl ?_) | ((with_reducible refine zL ?_); refine zc tbOk rfl rfl rfl rfl (Nat.le_of_ble_eq_true rfl) ?_) | ((with_reducible refine zb ?_); refine zq rfl (by first | rfl | assumption) rfl ?_) | ((with_reducible refine zM ?_); refine zV rfl rfl rfl ?_)  | refine zB rfl ?_ | refine zv rfl rfl (by first | rfl | assumption) ?_  )
      refine zo (psame_A Y P ylm) (by repeat' (first | exact trivial | exact Ren.v _ | exact Ren.sl _ _ | exact Ren.ep _ | exact Ren.ptr _ _ _ _ rfl | exact Ren.bs _ _ _ _ _ rfl | exact Ren.nil _ | exact Ren.own _ _ _ _ ⟨_, rfl⟩ | refine zO ?_ | refine zQ ?_ | refine zP ?_ | refine ⟨?_, ?_⟩)) (by repeat' (first | exact trivial | exact RenB.v _ | exact RenB.sl _ _ | exact RenB.ep _ | exact RenB.ptr _ _ _ _ rfl | refine zW ?_ | refine zX ?_ | refine ⟨?_, ?_⟩)) ?_
      repeat (first | ((with_reducible refine zL ?_); refine zc tbOk rfl rfl rfl rfl (Nat.le_of_ble_eq_true rfl) ?_)  | refine zv rfl rfl (by first | rfl | assumption) ?_  )
      refine zo (prsame_A Y P ylm hplm) (by repeat' (first | exact trivial | exact Ren.v _ | exact Ren.sl _ _ | exact Ren.ep _ | exact Ren.ptr _ _ _ _ rfl | exact Ren.bs _ _ _ _ _ rfl | exact Ren.nil _ | exact Ren.own _ _ _ _ ⟨_, rfl⟩ | refine zO ?_ | refine zQ ?_ | refine zP ?_ | refine ⟨?_, ?_⟩)) (by repeat' (first | exact trivial | exact RenB.v _ | exact RenB.sl _ _ | exact RenB.ep _ | exact RenB.ptr _ _ _ _ rfl | refine zW ?_ | refine zX ?_ | refine ⟨?_, ?_⟩)) ?_
      repeat (first | ((with_reducible refine zI ?_); refine zH rfl ?_) | ((with_reducible refine zL ?_); refine zc tbOk rfl rfl rfl rfl (Nat.le_of_ble_eq_true rfl) ?_) | ((with_reducible refine zb ?_); refine zq rfl (by first | rfl | assumption) rfl ?_) | ((with_reducible refine zM ?_); refine x_neq_b (by exact Tryz.underlying4) rfl rfl ?_)  | refine zB rfl ?_ | refine zv rfl rfl (by first | rfl | assumption) ?_  )
      refine zo (pops_A Y (by omega)) (by repeat' (first | exact trivial | exact Ren.v _ | exact Ren.sl _ _ | exact Ren.ep _ | exact Ren.ptr _ _ _ _ rfl | exact Ren.bs _ _ _ _ _ rfl | exact Ren.nil _ | exact Ren.own _ _ _ _ ⟨_, rfl⟩ | refine zO ?_ | refine zQ ?_ | refine zP ?_ | refine ⟨?_, ?_⟩)) (by repeat' (first | exact trivial | exact RenB.v _ | exact RenB.sl _ _ | exact RenB.ep _ | exact RenB.ptr _ _ _ _ rfl | refine zW ?_ | refine zX ?_ | refine ⟨?_, ?_⟩)) ?_
      repeat (first | ((with_reducible refine zL ?_); refine zc tbOk rfl rfl rfl rfl (Nat.le_of_ble_eq_true rfl) ?_)  | refine zv rfl rfl (by first | rfl | assumption) ?_  )
      refine zo (props_A Y (by omega)) (by repeat' (first | exact trivial | exact Ren.v _ | exact Ren.sl _ _ | exact Ren.ep _ | exact Ren.ptr _ _ _ _ rfl | exact Ren.bs _ _ _ _ _ rfl | exact Ren.nil _ | exact Ren.own _ _ _ _ ⟨_, rfl⟩ | refine zO ?_ | refine zQ ?_ | refine zP ?_ | refine ⟨?_, ?_⟩)) (by repeat' (first | exact trivial | exact RenB.v _ | exact RenB.sl _ _ | exact RenB.ep _ | exact RenB.ptr _ _ _ _ rfl | refine zW ?_ | refine zX ?_ | refine ⟨?_, ?_⟩)) ?_
      repeat (first   | refine zv rfl rfl (by first | rfl | assumption) ?_  )
      refine zo (lops_A (opsP Y.st) (by have := opsP_len Y.st; omega)) (by repeat' (first | exact trivial | exact Ren.v _ | exact Ren.sl _ _ | exact Ren.ep _ | exact Ren.ptr _ _ _ _ rfl | exact Ren.bs _ _ _ _ _ rfl | exact Ren.nil _ | exact Ren.own _ _ _ _ ⟨_, rfl⟩ | refine zO ?_ | refine zQ ?_ | refine zP ?_ | refine ⟨?_, ?_⟩)) (by repeat' (first | exact trivial | exact RenB.v _ | exact RenB.sl _ _ | exact RenB.ep _ | exact RenB.ptr _ _ _ _ rfl | refine zW ?_ | refine zX ?_ | refine ⟨?_, ?_⟩)) ?_
      repeat (first | ((with_reducible refine zI ?_); refine zH rfl ?_) | ((with_reducible refine k_un ?_); refine yr rfl ?_) | ((with_reducible refine zb ?_); refine zq rfl (by first | rfl | assumption) rfl ?_) | ((with_reducible refine zM ?_); refine ze rfl rfl (by omega) ?_)  | refine zJ ?_ | refine jM (by kernel_rfl) ?_ | refine zB rfl ?_ | refine zv rfl rfl (by first | rfl | assumption) ?_ | with_reducible refine zC ?_ | with_reducible refine zk ?_ | with_reducible refine zR ?_ | ((with_reducible refine zA ?_ ?_); kernel_rfl) | refine zp rfl (by first | rfl | assumption) ?_)
      exact ⟨b + 1, by omega, by omega, ⟨rfl, rfl, rfl, rfl, rfl, rfl, rfl, rfl, rfl, rfl, rfl, rfl, rfl, trivial⟩, ⟨rfl, rfl, rfl, rfl, trivial⟩⟩
    repeat (first | ((with_reducible refine zI ?_); refine zH rfl ?_)  | refine zB rfl ?_ | with_reducible refine zC ?_ | with_reducible refine zw ?_ | with_reducible refine zF ?_ | with_reducible refine yJ ?_ | ((with_reducible refine zr ?_ ?_); rfl) | ((with_reducible refine zA ?_ ?_); kernel_rfl))
    with_reducible refine zM ?_
    refine yb rfl rfl (by show 5 + L.size ≤ _; omega) ?_
    repeat (first | ((with_reducible refine zI ?_); refine zH rfl ?_)  | refine zB rfl ?_  )
    with_reducible refine zM ?_
    refine yb rfl rfl (by omega) ?_
    repeat (first | ((with_reducible refine zI ?_); refine zH rfl ?_) | ((with_reducible refine zu ?_); refine yR tbOk rfl rfl ?_) | ((with_reducible refine yG ?_); refine yH tbOk rfl rfl rfl rfl rfl (by omega) rfl rfl rfl ?_) | refine zJ ?_ | refine zB rfl ?_ | with_reducible refine zC ?_ | with_reducible refine zY ?_ )
    refine yU (ι := Nat) (fun b => b ≤ 5) (fun b => 5 - b) (fun v b => [(3, .v (.string s)), (5, .ptr 5 (v 5) 0), (11, .ptr 11 (v 11) 0), (12, .ptr 12 (v 12) 0), (14, .v (.string L)), (16, .v (.string C)), (157, .sl 2 [.ag [.sl 3 (N.map Nd.av), .sl 5 (V.map Dv.av)], .ag [.sl 3 (No.map Nd.av), .sl 5 (Vo.map Dv.av)]]), (158, .v (.int .i64 2)), (159, .v (.int .i64 (a : Nat))), (19, .ptr 19 (v 19) 0), (227, .sl 1 [.v (.string s), .v (.string L), .v (.string C), .v (.string ((⟨#[35, 32, 120, 10, 10]⟩ : ByteArray) ++ L)), .v (.string (L ++ L))]), (228, .v (.int .i64 5)), (229, .v (.int .i64 (b : Nat)))]) (fun v b => [(5, .box [.v (.string raw.n), .sl 5 (raw.st.map St.av)]), (11, .box [.v (.string P.n), .sl 5 (P.st.map St.av)]), (12, .box [.v (.string O.n), .sl 5 (O.st.map St.av)]), (19, .box [.sl 3 (N1.map Nd.av), .sl 5 (V1.map Dv.av)])]) ?_ ?_
    · exact ⟨0, Nat.zero_le _, trivial, ⟨rfl, rfl, rfl, rfl, rfl, rfl, rfl, rfl, rfl, rfl, rfl, rfl, rfl, trivial⟩, ⟨rfl, rfl, rfl, rfl, trivial⟩⟩
    clear v
    rintro v b hb
    repeat (first | ((with_reducible refine zM ?_); refine zV rfl rfl rfl ?_)  | refine zJ ?_ | refine zB rfl ?_ | with_reducible refine zC ?_ | with_reducible refine zF ?_ | ((with_reducible refine zA ?_ ?_); kernel_rfl))
    refine zm rfl (fun h => ?_) (fun h => ?_)
    · have hlt2 : b < 5 := by simp at h; omega
      obtain ⟨Y, hyY, yl⟩ : ∃ Y : ByteArray, ([.v (.string s), .v (.string L), .v (.string C), .v (.string ((⟨#[35, 32, 120, 10, 10]⟩ : ByteArray) ++ L)), .v (.string (L ++ L))] : List AV)[b]? = some (.v (.string Y)) ∧ Y.size ≤ 900000 := by
        obtain rfl | rfl | rfl | rfl | rfl : b = 0 ∨ b = 1 ∨ b = 2 ∨ b = 3 ∨ b = 4 := by omega
        · exact ⟨s, rfl, by omega⟩
        · exact ⟨L, rfl, by omega⟩
        · exact ⟨C, rfl, by omega⟩
        · exact ⟨_, rfl, by rw [ByteArray.size_append]; show 5 + L.size ≤ _; omega⟩
        · exact ⟨_, rfl, by rw [ByteArray.size_append]; omega⟩
      have f1 := pparse_A (G := X.G) N1 V1 Y hG hP hPl hM ok1 yl
      have f2 := rparse_A (G := X.G) N1 V1 Y hG ok1 yl
      have hR := parseG_len N1 V1 Y.data.toList
      obtain ⟨⟨R, pi, pe⟩, hpm⟩ : ∃ q, q = jV N1 V1 Y.data.toList := ⟨_, rfl⟩
      rw [← hpm] at f1 f2 hR
      simp only at f1 f2 hR
      have hRm : R.st.length ≤ maxLen := by unfold maxLen; omega
      have f3 := prsame_A (G := X.G) R R hRm hRm
      rw [psameB_refl] at f3
      have p2 : (!decide (pe = pe)) = false := by simp
      have p3 : (!decide (pi = pi)) = false := by simp
      have p5 : (pe != pe) = false := by simp
      have p6 : (pi != pi) = false := by simp
      repeat (first | ((with_reducible refine zI ?_); refine zH rfl ?_) | ((with_reducible refine zE ?_); refine zD rfl ?_) | ((with_reducible refine zL ?_); refine zc tbOk rfl rfl rfl rfl (Nat.le_of_ble_eq_true rfl) ?_) | ((with_reducible refine zL ?_); refine za tbOk rfl rfl rfl ?_) | ((with_reducible refine zT ?_); refine zZ tbOk rfl rfl rfl rfl (by assumption) ?_)  | refine zJ ?_ | refine zB rfl ?_ | with_reducible refine zC ?_ | with_reducible refine zF ?_ | with_reducible refine zY ?_ | with_reducible refine zR ?_ | ((with_reducible refine zA ?_ ?_); kernel_rfl))
      refine zo (f1) (by repeat' (first | exact trivial | exact Ren.v _ | exact Ren.sl _ _ | exact Ren.ep _ | exact Ren.ptr _ _ _ _ rfl | exact Ren.bs _ _ _ _ _ rfl | exact Ren.nil _ | exact Ren.own _ _ _ _ ⟨_, rfl⟩ | refine zO ?_ | refine zQ ?_ | refine zP ?_ | refine ⟨?_, ?_⟩)) (by repeat' (first | exact trivial | exact RenB.v _ | exact RenB.sl _ _ | exact RenB.ep _ | exact RenB.ptr _ _ _ _ rfl | refine zW ?_ | refine zX ?_ | refine ⟨?_, ?_⟩)) ?_
      repeat (first | ((with_reducible refine zI ?_); refine zH rfl ?_) | ((with_reducible refine zE ?_); refine zD rfl ?_) | ((with_reducible refine zL ?_); refine zc tbOk rfl rfl rfl rfl (Nat.le_of_ble_eq_true rfl) ?_) | ((with_reducible refine zd ?_); refine zf tbOk rfl rfl rfl rfl rfl rfl rfl (Nat.le_of_ble_eq_true rfl) rfl ?_) | ((with_reducible refine yA ?_); refine yB tbOk rfl rfl ?_) | ((with_reducible refine yN ?_); refine yO rfl rfl ?_)  | refine zJ ?_ | refine zB rfl ?_ | with_reducible refine zC ?_ | with_reducible refine zF ?_ | ((with_reducible refine zA ?_ ?_); kernel_rfl))
      refine zo (f2) (by repeat' (first | exact trivial | exact Ren.v _ | exact Ren.sl _ _ | exact Ren.ep _ | exact Ren.ptr _ _ _ _ rfl | exact Ren.bs _ _ _ _ _ rfl | exact Ren.nil _ | exact Ren.own _ _ _ _ ⟨_, rfl⟩ | refine zO ?_ | refine zQ ?_ | refine zP ?_ | refine ⟨?_, ?_⟩)) (by repeat' (first | exact trivial | exact RenB.v _ | exact RenB.sl _ _ | exact RenB.ep _ | exact RenB.ptr _ _ _ _ rfl | refine zW ?_ | refine zX ?_ | refine ⟨?_, ?_⟩)) ?_
      repeat (first | ((with_reducible refine zI ?_); refine zH rfl ?_) | ((with_reducible refine zE ?_); refine zD rfl ?_) | ((with_reducible refine zL ?_); refine zc tbOk rfl rfl rfl rfl (Nat.le_of_ble_eq_true rfl) ?_) | ((with_reducible refine zd ?_); refine zf tbOk rfl rfl rfl rfl rfl rfl rfl (Nat.le_of_ble_eq_true rfl) rfl ?_) | ((with_reducible refine yA ?_); refine yB tbOk rfl rfl ?_) | ((with_reducible refine yN ?_); refine yO rfl rfl ?_) | ((with_reducible refine zb ?_); refine zq rfl (by first | rfl | assumption) rfl ?_) | ((with_reducible refine zM ?_); refine zV rfl rfl rfl ?_)  | refine zJ ?_ | refine zB rfl ?_ | refine zv rfl rfl (by first | rfl | assumption) ?_ | with_reducible refine zC ?_ | with_reducible refine zF ?_ | ((with_reducible refine zA ?_ ?_); kernel_rfl))
      refine zo (f3) (by repeat' (first | exact trivial | exact Ren.v _ | exact Ren.sl _ _ | exact Ren.ep _ | exact Ren.ptr _ _ _ _ rfl | exact Ren.bs _ _ _ _ _ rfl | exact Ren.nil _ | exact Ren.own _ _ _ _ ⟨_, rfl⟩ | refine zO ?_ | refine zQ ?_ | refine zP ?_ | refine ⟨?_, ?_⟩)) (by repeat' (first | exact trivial | exact RenB.v _ | exact RenB.sl _ _ | exact RenB.ep _ | exact RenB.ptr _ _ _ _ rfl | refine zW ?_ | refine zX ?_ | refine ⟨?_, ?_⟩)) ?_
      repeat (first | ((with_reducible refine zI ?_); refine zH rfl ?_) | ((with_reducible refine k_un ?_); refine yr rfl ?_) | ((with_reducible refine zb ?_); refine zq rfl (by first | rfl | assumption) rfl ?_) | ((with_reducible refine zM ?_); refine ze rfl rfl (by omega) ?_)  | refine zJ ?_ | refine zB rfl ?_ | refine zv rfl rfl (by first | rfl | assumption) ?_ | with_reducible refine zC ?_ | with_reducible refine zk ?_ | with_reducible refine zR ?_ | ((with_reducible refine zA ?_ ?_); kernel_rfl) | refine zp rfl (by first | rfl | assumption) ?_)
      exact ⟨b + 1, by omega, by omega, ⟨rfl, rfl, rfl, rfl, rfl, rfl, rfl, rfl, rfl, rfl, rfl, rfl, rfl, trivial⟩, ⟨rfl, rfl, rfl, rfl, trivial⟩⟩
    repeat (first | ((with_reducible refine zI ?_); refine zH rfl ?_) | ((with_reducible refine zM ?_); refine ze rfl rfl (by omega) ?_)  | refine zJ ?_ | refine zB rfl ?_ | with_reducible refine zC ?_ | with_reducible refine zw ?_ | with_reducible refine zk ?_ | with_reducible refine yJ ?_ | ((with_reducible refine zr ?_ ?_); rfl) | ((with_reducible refine zA ?_ ?_); kernel_rfl))
    exact ⟨a + 1, by omega, by omega, ⟨rfl, rfl, rfl, rfl, rfl, rfl, rfl, rfl, rfl, trivial⟩, ⟨rfl, rfl, rfl, trivial⟩⟩
  repeat (first   | refine zB rfl ?_ | with_reducible refine zC ?_ | with_reducible refine zw ?_ | with_reducible refine zF ?_ | with_reducible refine yJ ?_ | ((with_reducible refine zr ?_ ?_); rfl) | ((with_reducible refine zA ?_ ?_); kernel_rfl))
  refine zo (awake_A hG hP hPl hM) (by repeat' (first | exact trivial | exact Ren.v _ | exact Ren.sl _ _ | exact Ren.ep _ | exact Ren.ptr _ _ _ _ rfl | exact Ren.bs _ _ _ _ _ rfl | exact Ren.nil _ | exact Ren.own _ _ _ _ ⟨_, rfl⟩ | refine zO ?_ | refine zQ ?_ | refine zP ?_ | refine ⟨?_, ?_⟩)) (by repeat' (first | exact trivial | exact RenB.v _ | exact RenB.sl _ _ | exact RenB.ep _ | exact RenB.ptr _ _ _ _ rfl | refine zW ?_ | refine zX ?_ | refine ⟨?_, ?_⟩)) ?_
  repeat (first | ((with_reducible refine zE ?_); refine zD rfl ?_)  | refine zJ ?_ | refine zB rfl ?_ | with_reducible refine zC ?_ | with_reducible refine zU ?_ )
  refine yC (by first | exact .inr rfl | exact .inl rfl) rfl rfl ?_
  rfl
end Go.Proofs.YtggngllfnboehaaGreatDoor
