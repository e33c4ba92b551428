/- Parts of own buffers: sliced, measured, and laid behind one another in place; conditions: tables of types that agree with the program's / Calls that are handed boxes with buffers in them: what such a call comes to, how a walk of a body gives its law, how the law serves in a walk; conditions: none / register.Parse, by the abstract machine: a text is read as the plain function reads it; conditions: the table of classes and a cell of the library stand. -/
import Derived.Test.YtggagmafkdhjcaaGreatDoorAbsX
import Derived.Test.YtggagmafkdhjcaaGreatDoorRxB
import Derived.Test.YtggagmafkdhjcaaGreatDoorAbsU
set_option linter.unusedVariables false
set_option linter.unusedSimpArgs false
namespace Go.Proofs.YtggagmafkdhjcaaGreatDoor
open Go Go.RowKit
section
variable {P : Program} {X : Ctx} {n : Nat} {ops : Array Oper} {os : List Oper} {acc : List Rule} {σ : AS} {K : List Rule → AS → Prop} {gt : List (Nat × AV)} {ty : TypeId} {ps : String} {af : Array Edge} {g : Option (Nat × Bool)}
variable {TB : Tabs} (hTB : TabsOk P TB)
include hTB
end
section
variable {P : Program} {X : Ctx} {n : Nat} {σ : AS} {Q : Exit → AS → Prop} {c : Code}
end
end Go.Proofs.YtggagmafkdhjcaaGreatDoor
namespace Go.Proofs.YtggagmafkdhjcaaGreatDoor
open Go Go.RowKit
def blks (vs : List Value) : List Nat := vs.filterMap vblk
def Cont.live : Cont → Bool
  | .box _ => true
  | .buf _ _ _ => true
  | _ => false
@[reducible] def ctxJ (w : World) (vs : List Value) (G : Nat → Option (List Value)) (M : Nat → Option (Array Value)) : Ctx := ⟨w, blks vs, vs, G, M⟩
section
variable {P : Program} {TB : Tabs} {X : Ctx} {n : Nat} {M : Nat → Option (Array Value)} {ρ : Nat → Nat → Option Value} {σ : AS} {a : Act} {w : World}
end
section
variable {P : Program} {TB : Tabs} {G : Nat → Option (List Value)} {f : FuncId} {args : List AV} {refs : List Cont} {r : AV} {refs' : List Cont}
end
section
variable {P : Program} {X : Ctx} {n : Nat} {M : Nat → Option (Array Value)} {ρ : Nat → Nat → Option Value} {σ : AS} {a : Act} {w : World}
end
section
variable {P : Program} {X : Ctx} {n : Nat} {ops : Array Oper} {os : List Oper} {acc : List Rule} {σ : AS} {K : List Rule → AS → Prop} {gt : List (Nat × AV)} {d : Option Nat} {ty : TypeId} {ps : String} {af : Array Edge} {g : Option (Nat × Bool)}
end
section
variable {P : Program} {X : Ctx} {n : Nat} {σ : AS} {Q : Exit → AS → Prop} {c : Code}
end
section
variable {P : Program} {X : Ctx} {n : Nat} {ops : Array Oper} {os : List Oper} {acc : List Rule} {σ : AS} {K : List Rule → AS → Prop} {gt : List (Nat × AV)} {ty : TypeId} {ps : String} {af : Array Edge} {g : Option (Nat × Bool)}
end
section
variable {P : Program} {X : Ctx} {n : Nat} {ops : Array Oper} {os : List Oper} {acc : List Rule} {σ : AS} {K : List Rule → AS → Prop} {gt : List (Nat × AV)} {ty : TypeId} {ps : String} {af : Array Edge} {g : Option (Nat × Bool)}
end
theorem ret0_ctt {TB : Tabs} {σ : AS} {fn : Func} {r : AV} {e : Exit} {p ty t t2 s k m : Nat} {cs : List AV} {z z2 : AV} (he : e = .normal ∨ e = .ret) (hfn : fn.results = #[.cell p ty, .tmp t, .tmp t2]) (hT : σ.T p = .ptr s k 0) (hH : σ.H s = ⟨k, .box cs⟩) (ht : lk TB.ty ty = some (true, m)) (hl : cs.length = m) (hT2 : vf (σ.T t) = some z) (hT3 : vf (σ.T t2) = some z2) (hr : Ren (bufs σ) (frameπ 0 []) r (.tu [.ag cs, z, z2])) : RetQ TB fn 0 r [] e σ := by
  refine ret0 he (xs := [.ag cs, σ.T t, σ.T t2]) ?_ (by rw [vf_eq hT2, vf_eq hT3]; exact hr)
  rw [hfn]
  exact ⟨.agg p ty s k m cs hT hH ht hl, .tmp t, .tmp t2, trivial⟩
end Go.Proofs.YtggagmafkdhjcaaGreatDoor
namespace Go.Proofs.YtggagmafkdhjcaaGreatDoor
open Go Go.RowKit
set_option maxRecDepth 10000
variable {G : Nat → Option (List Value)}
theorem sv_at {W : List (List UInt8)} {k : Nat} {w : List UInt8} (h : W[k]? = some w) : (W.map svL)[k]? = some (svL w) := by rw [List.getElem?_map, h]; rfl
theorem addK_sz {R : List Per} {p : Per} (hR : ∀ q ∈ R, q.n.size ≤ maxLen) (hp : p.n.size ≤ maxLen) : ∀ q ∈ (addK R p).1, q.n.size ≤ maxLen := by
  intro q hq
  unfold addK at hq
  repeat' split at hq
  all_goals first
    | (simp at hq; done)
    | (have hq2 := (isort_perm (lt := ltP) (R ++ [p])).mem_iff.1 hq
       rcases List.mem_append.1 hq2 with h | h
       · exact hR q h
       · rw [List.mem_singleton.1 h]; exact hp)
set_option maxHeartbeats 16000000 in
theorem kparseX_A (s : ByteArray) (hG : GCls G) (hM : GMax G) (hs : s.size ≤ 900000) :
    ACalls Tryz.prog G 10 [.v (.string s)] [] (.tu [regAV (parseR s.data.toList).1, .v (.int .i64 (parseR s.data.toList).2.1), .v (.int .i64 (parseR s.data.toList).2.2)]) [] := by
  have hz := nsizeS s
  obtain ⟨hLl, hLw⟩ := lines_len (l := s.data.toList)
  have hlin := lines_A (G := G) s hM (by omega)
  unfold parseR
  cases hq : linesL s.data.toList with
  | none =>
    rw [hq] at hlin
    dsimp only
    refine acalls_of tbOk (enter_of Tryz.func10 (by kernel_rfl) rfl) Tryz.func10 rfl _ Tryz.ntmps10 (Nat.le_of_ble_eq_true rfl) fun X hX => ?_
    subst hX
    repeat (first | ((with_reducible refine k_move ?_); refine m_move rfl ?_) | ((with_reducible refine k_assign ?_); refine m_assign rfl ?_) | ((with_reducible refine k_alloc ?_); refine x_alloc tbOk rfl rfl ?_)  | refine e_nrm ?_ | refine x_none rfl ?_ | with_reducible (first | refine q_then ?_ | refine awp_seq ?_) | ((with_reducible refine w_region ?_ ?_); kernel_rfl))
    refine x_call0 (hlin) (by repeat' (first | exact trivial | exact Ren.v _ | refine ⟨?_, ?_⟩)) (by repeat' (first | exact trivial | exact RenB.v _ | exact RenB.sl _ _ | refine renb_tu ?_ | refine ⟨?_, ?_⟩)) ?_
    repeat (first | ((with_reducible refine k_move ?_); refine m_move rfl ?_) | ((with_reducible refine k_assign ?_); refine m_assign rfl ?_) | ((with_reducible refine k_store ?_); refine m_store tbOk rfl rfl rfl rfl rfl rfl rfl (Nat.le_of_ble_eq_true rfl) rfl ?_) | ((with_reducible refine k_un ?_); refine x_not rfl ?_) | ((with_reducible refine k_extract ?_); refine x_extract rfl rfl ?_) | ((with_reducible refine k_build ?_); refine m_build tbOk rfl rfl rfl rfl rfl ?_)  | refine e_nrm ?_ | refine x_none rfl ?_ | with_reducible (first | refine q_then ?_ | refine q_then_ret ?_ | refine awp_seq ?_ | refine awp_ret ?_) | ((with_reducible refine w_region ?_ ?_); kernel_rfl) | refine w_cond_t rfl (by first | rfl | assumption) ?_)
    refine ret0_ctt (by first | exact .inr rfl | exact .inl rfl) rfl rfl rfl rfl rfl rfl rfl ?_
    unfold regAV
    repeat' (first | exact trivial | exact Ren.v _ | exact Ren.nil _ | refine ren_ag ?_ | refine ren_tu ?_ | refine ⟨?_, ?_⟩)
  | some L =>
    rw [hq, Option.getD_some] at hLl hLw
    rw [hq] at hlin
    rw [Option.getD_some] at hlin
    dsimp only
    refine acalls_of tbOk (enter_of Tryz.func10 (by kernel_rfl) rfl) Tryz.func10 rfl _ Tryz.ntmps10 (Nat.le_of_ble_eq_true rfl) fun X hX => ?_
    subst hX
    repeat (first | ((with_reducible refine k_move ?_); refine m_move rfl ?_) | ((with_reducible refine k_assign ?_); refine m_assign rfl ?_) | ((with_reducible refine k_alloc ?_); refine x_alloc tbOk rfl rfl ?_)  | refine e_nrm ?_ | refine x_none rfl ?_ | with_reducible (first | refine q_then ?_ | refine awp_seq ?_) | ((with_reducible refine w_region ?_ ?_); kernel_rfl))
    refine x_call0 (hlin) (by repeat' (first | exact trivial | exact Ren.v _ | refine ⟨?_, ?_⟩)) (by repeat' (first | exact trivial | exact RenB.v _ | exact RenB.sl _ _ | refine renb_tu ?_ | refine ⟨?_, ?_⟩)) ?_
    repeat (first | ((with_reducible refine k_move ?_); refine m_move rfl ?_) | ((with_reducible refine k_assign ?_); refine m_assign rfl ?_) | ((with_reducible refine k_alloc ?_); refine x_alloc tbOk rfl rfl ?_) | ((with_reducible refine k_un ?_); refine x_not rfl ?_) | ((with_reducible refine k_extract ?_); refine x_extract rfl rfl ?_) | ((with_reducible refine k_call ?_); refine x_len tbOk rfl rfl ?_)  | refine e_nrm ?_ | refine x_none rfl ?_ | with_reducible (first | refine q_then ?_ | refine awp_seq ?_ | refine awp_block ?_ | refine awp_skip ?_) | ((with_reducible refine w_region ?_ ?_); kernel_rfl) | refine w_cond_f rfl (by first | rfl | assumption) ?_)
    refine awp_own_at (s := 900) 38 5 [] [(7, [.own 900 1])] rfl trivial ⟨⟨_, _, rfl, .hit .nil⟩, trivial⟩ ?_
    refine awp_freeze_at (s := 900) [] [(7, [.sl 5 []])] rfl trivial ⟨⟨_, _, rfl, .hit .nil⟩, trivial⟩ ?_
    refine awp_loop (ι := Nat × List Per) (fun i => i.1 ≤ L.length ∧ i.2.length ≤ 64 ∧ (∀ q ∈ i.2, q.n.size ≤ maxLen) ∧ regGo i.1 i.2 (L.drop i.1) = regGo 0 [] L) (fun i => L.length - i.1) (fun v i => [(2, .ptr 2 (v 2) 0), (7, .ptr 7 (v 7) 0), (22, .sl 1 (L.map svL)), (23, .v (.int .i64 (L.map svL).length)), (24, .v (.int .i64 (i.1 : Nat)))]) (fun v i => [(2, .box [.v (.slice none 0 0)]), (7, .box [.sl 5 (i.2.map Per.av)])]) ?_ ?_
    · exact ⟨(0, []), ⟨Nat.zero_le _, Nat.zero_le _, fun q h => (by cases h), rfl⟩, trivial, ⟨rfl, rfl, rfl, rfl, rfl, trivial⟩, ⟨rfl, rfl, trivial⟩⟩
    rintro v ⟨k, R⟩ ⟨hk, hRl, hRs, hgo⟩
    dsimp only at hk hRl hRs hgo ⊢
    repeat (first | ((with_reducible refine k_bin ?_); refine m_binI rfl rfl rfl ?_)  | refine e_nrm ?_ | refine x_none rfl ?_ | with_reducible (first | refine q_then ?_ | refine awp_seq ?_) | ((with_reducible refine w_region ?_ ?_); kernel_rfl))
    refine w_cond rfl (fun h => ?_) (fun h => ?_)
    · have hlt : k < L.length := by simp at h; omega
      obtain ⟨l, hl⟩ := some_at hlt
      have hll := hLw l (List.mem_of_getElem? hl)
      have hy := sv_at hl
      rw [drop_at hl, regGo_cons] at hgo
      have hmt := matter_A (G := X.G) l (by omega)
      have hwm : ∀ w ∈ wordsL l, w.length ≤ 1000000 := fun w hw => by have := wl_len (show w ∈ wl [] l from hw); simp at this; omega
      have hpe := pline_A (G := X.G) (wordsL l) hwm (fun s => bits_A s)
      have hps : (personP (wordsL l)).1.n.size ≤ maxLen := by
        unfold personP
        split
        · show (strL (wAt (wordsL l) 1)).size ≤ _
          rw [strL_size]
          unfold wAt
          cases hw : (wordsL l)[1]? with
          | none => simp
          | some w => have := hwm w (List.mem_of_getElem? hw); unfold maxLen; simp; omega
        · exact Nat.zero_le _
      have hka := kaddK_A (G := X.G) R (personP (wordsL l)).1 hG hRs hps (by omega)
      have hkl : (addK R (personP (wordsL l)).1).2 = 0 → (addK R (personP (wordsL l)).1).1.length ≤ 64 := fun h => (addK_vl h).1
      have hks := addK_sz hRs hps
      obtain ⟨⟨p, pb⟩, hpp⟩ : ∃ q, q = personP (wordsL l) := ⟨_, rfl⟩
      rw [← hpp] at hgo hpe hps hka hkl hks
      dsimp only at hgo hpe hps hka hkl hks
      obtain ⟨⟨R2, e2⟩, ha⟩ : ∃ q, q = addK R p := ⟨_, rfl⟩
      rw [← ha] at hgo hka hkl hks
      dsimp only at hgo hka hkl hks
      obtain ⟨mb, hmb⟩ : ∃ b, b = matB (wordsL l) := ⟨_, rfl⟩
      rw [← hmb] at hgo hmt
      clear hpp ha hmb
      repeat (first | ((with_reducible refine k_move ?_); refine m_move rfl ?_) | ((with_reducible refine k_assign ?_); refine m_assign rfl ?_) | ((with_reducible refine k_load ?_); refine x_load_ep_one tbOk rfl rfl rfl ?_) | ((with_reducible refine k_indexAddr ?_); refine x_indexAddr_n tbOk rfl rfl rfl rfl (by assumption) ?_)  | refine e_nrm ?_ | refine x_none rfl ?_ | with_reducible (first | refine q_then ?_ | refine awp_seq ?_ | refine awp_block ?_ | refine awp_skip ?_) | ((with_reducible refine w_region ?_ ?_); kernel_rfl))
      refine x_call0 (hmt) (by repeat' (first | exact trivial | exact Ren.v _ | refine ⟨?_, ?_⟩)) (by repeat' (first | exact trivial | exact RenB.v _ | exact RenB.sl _ _ | refine renb_tu ?_ | refine ⟨?_, ?_⟩)) ?_
      repeat (first | ((with_reducible refine k_move ?_); refine m_move rfl ?_) | ((with_reducible refine k_assign ?_); refine m_assign rfl ?_) | ((with_reducible refine k_un ?_); refine x_not rfl ?_) | ((with_reducible refine k_extract ?_); refine x_extract rfl rfl ?_)  | refine e_nrm ?_ | refine x_none rfl ?_ | with_reducible (first | refine q_then ?_ | refine awp_seq ?_) | ((with_reducible refine w_region ?_ ?_); kernel_rfl))
      refine w_cond rfl (fun c => ?_) (fun c => ?_)
      · rw [if_pos (by simpa using c)] at hgo
        repeat (first | ((with_reducible refine k_move ?_); refine m_move rfl ?_) | ((with_reducible refine k_bin ?_); refine x_add_in rfl rfl (by omega) ?_)  | refine e_nrm ?_ | refine x_none rfl ?_ | with_reducible (first | refine q_then ?_ | refine q_then_exit ?_ | refine awp_exit ?_) | ((with_reducible refine q_block_exit ?_ ?_); rfl) | ((with_reducible refine w_region ?_ ?_); kernel_rfl))
        exact ⟨(k + 1, R), ⟨hlt, hRl, hRs, hgo⟩, by dsimp only; omega, ⟨rfl, rfl, rfl, rfl, rfl, trivial⟩, ⟨rfl, rfl, trivial⟩⟩
      rw [if_neg (by simpa using c)] at hgo
      repeat (first | ((with_reducible refine k_move ?_); refine m_move rfl ?_)  | refine x_none rfl ?_ | with_reducible (first | refine q_then ?_ | refine awp_seq ?_ | refine awp_skip ?_) | ((with_reducible refine w_region ?_ ?_); kernel_rfl))
      refine x_call0 (hpe) (by repeat' (first | exact trivial | exact Ren.sl _ _ | refine ⟨?_, ?_⟩)) (by repeat' (first | exact trivial | exact RenB.v _ | refine renb_ag ?_ | refine renb_tu ?_ | refine ⟨?_, ?_⟩)) ?_
      repeat (first | ((with_reducible refine k_move ?_); refine m_move rfl ?_) | ((with_reducible refine k_assign ?_); refine m_assign rfl ?_) | ((with_reducible refine k_store ?_); refine m_store tbOk rfl rfl rfl rfl rfl rfl rfl (Nat.le_of_ble_eq_true rfl) rfl ?_) | ((with_reducible refine k_alloc ?_); refine x_alloc tbOk rfl rfl ?_) | ((with_reducible refine k_un ?_); refine x_not rfl ?_) | ((with_reducible refine k_extract ?_); refine x_extract rfl rfl ?_)  | refine e_nrm ?_ | refine x_none rfl ?_ | with_reducible (first | refine q_then ?_ | refine awp_seq ?_) | ((with_reducible refine w_region ?_ ?_); kernel_rfl))
      refine w_cond rfl (fun c => ?_) (fun c => ?_)
      · rw [if_pos (by simpa using c)] at hgo
        rw [← hgo]
        repeat (first | ((with_reducible refine k_move ?_); refine m_move rfl ?_) | ((with_reducible refine k_assign ?_); refine m_assign rfl ?_) | ((with_reducible refine k_store ?_); refine m_store tbOk rfl rfl rfl rfl rfl rfl rfl (Nat.le_of_ble_eq_true rfl) rfl ?_) | ((with_reducible refine k_build ?_); refine m_build tbOk rfl rfl rfl rfl rfl ?_) | ((with_reducible refine k_bin ?_); refine x_add_in rfl rfl (by omega) ?_)  | refine e_nrm ?_ | refine x_none rfl ?_ | with_reducible (first | refine q_then ?_ | refine q_then_ret ?_ | refine q_block_ret ?_ | refine awp_seq ?_ | refine awp_ret ?_) | ((with_reducible refine w_region ?_ ?_); kernel_rfl))
        refine ret0_ctt (by first | exact .inr rfl | exact .inl rfl) rfl rfl rfl rfl rfl rfl rfl ?_
        unfold regAV
        repeat' (first | exact trivial | exact Ren.v _ | exact Ren.nil _ | refine ren_ag ?_ | refine ren_tu ?_ | refine ⟨?_, ?_⟩)
      rw [if_neg (by simpa using c)] at hgo
      repeat (first | ((with_reducible refine k_assign ?_); refine m_assign rfl ?_) | ((with_reducible refine k_load ?_); refine x_load_agg tbOk rfl rfl rfl rfl (Nat.le_of_ble_eq_true rfl) ?_)  | refine e_nrm ?_ | refine x_none rfl ?_ | with_reducible (first | refine q_then ?_ | refine awp_seq ?_ | refine awp_skip ?_) | ((with_reducible refine w_region ?_ ?_); kernel_rfl))
      refine x_call0 (hka) (by repeat' (first | exact trivial | exact Ren.v _ | exact Ren.sl _ _ | refine ren_ag ?_ | refine ⟨?_, ?_⟩)) (by repeat' (first | exact trivial | exact RenB.v _ | exact RenB.sl _ _ | refine renb_ag ?_ | refine renb_tu ?_ | refine ⟨?_, ?_⟩)) ?_
      repeat (first | ((with_reducible refine k_move ?_); refine m_move rfl ?_) | ((with_reducible refine k_assign ?_); refine m_assign rfl ?_) | ((with_reducible refine k_store ?_); refine m_store tbOk rfl rfl rfl rfl rfl rfl rfl (Nat.le_of_ble_eq_true rfl) rfl ?_) | ((with_reducible refine k_extract ?_); refine x_extract rfl rfl ?_) | ((with_reducible refine k_bin ?_); refine m_binI rfl rfl rfl ?_)  | refine e_nrm ?_ | refine x_none rfl ?_ | with_reducible (first | refine q_then ?_ | refine awp_seq ?_) | ((with_reducible refine w_region ?_ ?_); kernel_rfl))
      refine w_cond rfl (fun c => ?_) (fun c => ?_)
      · rw [if_pos (by simpa using c)] at hgo
        rw [← hgo]
        repeat (first | ((with_reducible refine k_move ?_); refine m_move rfl ?_) | ((with_reducible refine k_assign ?_); refine m_assign rfl ?_) | ((with_reducible refine k_store ?_); refine m_store tbOk rfl rfl rfl rfl rfl rfl rfl (Nat.le_of_ble_eq_true rfl) rfl ?_) | ((with_reducible refine k_build ?_); refine m_build tbOk rfl rfl rfl rfl rfl ?_) | ((with_reducible refine k_bin ?_); refine x_add_in rfl rfl (by omega) ?_)  | refine e_nrm ?_ | refine x_none rfl ?_ | with_reducible (first | refine q_then ?_ | refine q_then_ret ?_ | refine q_block_ret ?_ | refine awp_seq ?_ | refine awp_ret ?_) | ((with_reducible refine w_region ?_ ?_); kernel_rfl))
        refine ret0_ctt (by first | exact .inr rfl | exact .inl rfl) rfl rfl rfl rfl rfl rfl rfl ?_
        unfold regAV
        repeat' (first | exact trivial | exact Ren.v _ | exact Ren.nil _ | refine ren_ag ?_ | refine ren_tu ?_ | refine ⟨?_, ?_⟩)
      · rw [if_neg (by simpa using c)] at hgo
        repeat (first | ((with_reducible refine k_move ?_); refine m_move rfl ?_) | ((with_reducible refine k_bin ?_); refine x_add_in rfl rfl (by omega) ?_)  | refine e_nrm ?_ | refine x_none rfl ?_ | with_reducible (first | refine q_then ?_ | refine q_block ?_ | refine awp_skip ?_) | ((with_reducible refine w_region ?_ ?_); kernel_rfl))
        exact ⟨(k + 1, R2), ⟨hlt, hkl (by simpa using c), hks, hgo⟩, by dsimp only; omega, ⟨rfl, rfl, rfl, rfl, rfl, trivial⟩, ⟨rfl, rfl, trivial⟩⟩
    · have hge : L.length ≤ k := by simp at h; omega
      rw [List.drop_of_length_le hge, regGo] at hgo
      rw [← hgo]
      repeat (first | ((with_reducible refine k_assign ?_); refine m_assign rfl ?_) | ((with_reducible refine k_load ?_); refine x_load_agg tbOk rfl rfl rfl rfl (Nat.le_of_ble_eq_true rfl) ?_) | ((with_reducible refine k_store ?_); refine m_store tbOk rfl rfl rfl rfl rfl rfl rfl (Nat.le_of_ble_eq_true rfl) rfl ?_)  | refine e_nrm ?_ | refine x_none rfl ?_ | with_reducible (first | refine q_then ?_ | refine q_then_exit ?_ | refine awp_seq ?_ | refine awp_exit ?_ | refine awp_ret ?_) | ((with_reducible refine q_block_exit ?_ ?_); rfl) | ((with_reducible refine w_region ?_ ?_); kernel_rfl))
      refine ret0_ctt (by first | exact .inr rfl | exact .inl rfl) rfl rfl rfl rfl rfl rfl rfl ?_
      unfold regAV
      repeat' (first | exact trivial | exact Ren.v _ | exact Ren.sl _ _ | refine ren_ag ?_ | refine ren_tu ?_ | refine ⟨?_, ?_⟩)
end Go.Proofs.YtggagmafkdhjcaaGreatDoor
