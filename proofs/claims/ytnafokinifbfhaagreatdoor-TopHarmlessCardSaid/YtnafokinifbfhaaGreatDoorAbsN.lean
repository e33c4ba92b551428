/- duty.of, device and Of, by the abstract machine; conditions: a valid network, a state of it, one of its devices / Own rows cut short: their end cleared, and their front taken; conditions: tables of types that agree with the program's / A callee that gives back a new map of its own; conditions: none. -/
import Derived.Test.YtnafokinifbfhaaGreatDoorDuA
import Derived.Test.YtnafokinifbfhaaGreatDoorZg
import Derived.Test.YtnafokinifbfhaaGreatDoorAbsZ
import Derived.Test.YtnafokinifbfhaaGreatDoorFdA
import Derived.Test.YtnafokinifbfhaaGreatDoorAbsU
set_option linter.unusedVariables false
set_option linter.unusedSimpArgs false
namespace Go.Proofs.YtnafokinifbfhaaGreatDoor
open Go Go.RowKit
set_option maxRecDepth 10000
variable {G : Nat → Option (List Value)}
theorem vw_ok {N : List Nd} {V : List Dv} {st st' : List Int} {d : Dv} (U : NwU G N V) (hd : d ∈ V) : VwOk N d (ptsP N V st) (zd N V st) (zd N V st') := ⟨U.ends d hd, fA, jS, jS, U.n⟩
/-- The tests of a device, in their order. -/
def dTest (N : List Nd) (cl pt op : List Int) (d : Dv) : Nat → Bool
  | 0 => qS cl d
  | 1 => parP (yL pt op d)
  | 2 => bJ N pt (yL pt op d)
  | _ => (qJ (yL pt op d)).2
def sJ (N : List Nd) (cl pt op : List Int) (d : Dv) : Nat → Int
  | 0 => ofV N cl pt op d
  | 1 => if parP (yL pt op d) = true then 3 else if bJ N pt (yL pt op d) = true then 2 else if (qJ (yL pt op d)).2 = true then 1 else 0
  | 2 => if bJ N pt (yL pt op d) = true then 2 else if (qJ (yL pt op d)).2 = true then 1 else 0
  | 3 => if (qJ (yL pt op d)).2 = true then 1 else 0
  | _ => 0
def dRows : List AV := [.ag [.fn 168 [], .v (.int .i64 4)], .ag [.fn 169 [], .v (.int .i64 3)], .ag [.fn 170 [], .v (.int .i64 2)], .ag [.fn 171 [], .v (.int .i64 1)]]
theorem dRows_at {N : List Nd} {V : List Dv} {d : Dv} {pt op cl : List Int} (H : VwOk N d pt op cl) (k : Nat) (hk : k < 4) : ∃ (f : FuncId) (z : Int), dRows[k]? = some (.ag [.fn f [], .v (.int .i64 z)]) ∧ zJ Tryz.prog G f [vwAV N V d pt op cl] [] (.v (.bool (dTest N cl pt op d k))) [] ∧ sJ N cl pt op d k = if dTest N cl pt op d k = true then z else sJ N cl pt op d (k + 1) := by
  match k, hk with
  | 0, _ => exact ⟨168, 4, rfl, vfault_A H, rfl⟩
  | 1, _ => exact ⟨169, 3, rfl, vpar_A H, rfl⟩
  | 2, _ => exact ⟨170, 2, rfl, vload_A H, rfl⟩
  | 3, _ => exact ⟨171, 1, rfl, vchg_A H, rfl⟩
set_option maxHeartbeats 4000000 in
theorem dof_A (N : List Nd) (V : List Dv) (st : List Int) (i : Nat) (d : Dv) (U : NwU G N V) (S : StOk V st) (hd : V[i]? = some d) : zJ Tryz.prog G 127 [yR N V, .sl 1 (st.map iv), .v (.int .i64 (i : Nat))] [] (.v (.int .i64 (ofP N V st i d))) [] := by
  have hi := zM hd
  have hv := U.v
  have hy : (V.map Dv.av)[i]? = some d.av := gM hd
  have hw1 := uE (G := G) st i 1 (by rw [S.l]; exact hi) (by rw [S.l]; exact hv)
  have hw2 := uE (G := G) st i 2 (by rw [S.l]; exact hi) (by rw [S.l]; exact hv)
  have hb1 := nM (G := G) N V (st.set i 1) U.ends (by simp [S.l]) U.n U.v
  have hb2 := nM (G := G) N V (st.set i 2) U.ends (by simp [S.l]) U.n U.v
  have hrow := dRows_at (G := G) (V := V) (vw_ok (st := st.set i 1) (st' := st.set i 2) U (List.mem_of_getElem? hd))
  have h4 : sJ N (zd N V (st.set i 2)) (ptsP N V (st.set i 1)) (zd N V (st.set i 1)) d 4 = 0 := rfl
  unfold ofP
  rw [show ofV N (zd N V (st.set i 2)) (ptsP N V (st.set i 1)) (zd N V (st.set i 1)) d = sJ N (zd N V (st.set i 2)) (ptsP N V (st.set i 1)) (zd N V (st.set i 1)) d 0 from rfl]
  generalize zd N V (st.set i 2) = cl at hb2 hrow h4 ⊢
  generalize ptsP N V (st.set i 2) = p2 at hb2
  generalize zd N V (st.set i 1) = op at hb1 hrow h4 ⊢
  generalize ptsP N V (st.set i 1) = pt at hb1 hrow h4 ⊢
  refine zE tbOk (zA Tryz.func127 (by kernel_rfl) rfl) Tryz.func127 rfl _ Tryz.ntmps127 (Nat.le_of_ble_eq_true rfl) fun X hX => ?_
  subst hX
  refine zg14 ?_
  refine zG (hw1) (by repeat' (first | exact trivial | exact Ren.v _ | exact Ren.sl _ _ | refine ⟨?_, ?_⟩)) (by repeat' exact RenB.sl _ _) ?_
  refine zg1 ?_
  refine zG (hb1) (by repeat' (first | exact trivial | exact Ren.sl _ _ | refine zO ?_ | refine ⟨?_, ?_⟩)) (by repeat' (first | exact trivial | exact RenB.sl _ _ | refine zZ ?_ | refine ⟨?_, ?_⟩)) ?_
  refine zg14 ?_
  refine zG (hw2) (by repeat' (first | exact trivial | exact Ren.v _ | exact Ren.sl _ _ | refine ⟨?_, ?_⟩)) (by repeat' exact RenB.sl _ _) ?_
  refine zg1 ?_
  refine zG (hb2) (by repeat' (first | exact trivial | exact Ren.sl _ _ | refine zO ?_ | refine ⟨?_, ?_⟩)) (by repeat' (first | exact trivial | exact RenB.sl _ _ | refine zZ ?_ | refine ⟨?_, ?_⟩)) ?_
  refine zg15 ?_
  refine zQ (ι := Nat) (fun k => k ≤ 4 ∧ sJ N cl pt op d k = sJ N cl pt op d 0) (fun k => 4 - k) (fun v k => [(7, .ptr 7 (v 7) 0), (40, .sl 2 dRows), (41, .v (.int .i64 (4 : Nat))), (42, .v (.int .i64 (k : Nat)))]) (fun v k => [(7, .box (vwC N V d pt op cl))]) ?_ ?_
  · exact ⟨0, ⟨Nat.zero_le _, rfl⟩, trivial, ⟨rfl, rfl, rfl, rfl, trivial⟩, ⟨rfl, trivial⟩⟩
  rintro v k ⟨hk, hf⟩
  have hdl : dRows.length = 4 := rfl
  refine zg1 ?_
  refine zF rfl (fun h => ?_) (fun h => ?_)
  · have hlt : k < 4 := by have := of_decide_eq_true h; omega
    obtain ⟨f, z, hyk, hc, hz⟩ := hrow k hlt
    rw [hz] at hf
    refine zg14 ?_
    refine bH (ss := []) (cs' := []) (hc) rfl (by repeat' (first | exact trivial | exact Ren.v _ | exact Ren.sl _ _ | refine zO ?_ | refine ⟨?_, ?_⟩)) (by simp) trivial rfl trivial (by repeat' exact RenB.v _) ?_
    refine zg1 ?_
    refine zF rfl (fun q => ?_) (fun q => ?_)
    · rw [if_pos q] at hf
      refine zg6 ?_
      refine zL (by first | exact .inr rfl | exact .inl rfl) rfl rfl ?_
      rw [← hf]
    · rw [if_neg (by rw [q]; decide)] at hf
      refine zg2 ?_
      exact ⟨k + 1, ⟨hlt, hf⟩, by omega, ⟨rfl, rfl, rfl, rfl, trivial⟩, ⟨rfl, trivial⟩⟩
  · have hge : k = 4 := by simp at h; omega
    rw [hge, h4] at hf
    refine zg2 ?_
    refine zL (by first | exact .inr rfl | exact .inl rfl) rfl rfl ?_
    rw [← hf]
theorem ddev_A (N : List Nd) (V : List Dv) (i : Nat) (hi : i < V.length) : zJ Tryz.prog G 126 [yR N V, .v (.int .i64 (i : Nat))] [] (.v (.int .i64 0)) [] := by
  have hvl : (V.map Dv.av).length = V.length := by simp
  have d0 : decide (((i : Nat) : Int) < 0) = false := decide_eq_false (by omega)
  have d1 : decide (((i : Nat) : Int) ≥ ((V.map Dv.av).length : Nat)) = false := decide_eq_false (by omega)
  refine zE tbOk (zA Tryz.func126 (by kernel_rfl) rfl) Tryz.func126 rfl _ Tryz.ntmps126 (Nat.le_of_ble_eq_true rfl) fun X hX => ?_
  subst hX
  refine zg15 ?_
  refine zL (by first | exact .inr rfl | exact .inl rfl) rfl rfl ?_
  rfl
theorem dOf_A (N : List Nd) (V : List Dv) (st : List Int) (i : Nat) (d : Dv) (U : NwU G N V) (S : StOk V st) (hd : V[i]? = some d) : zJ Tryz.prog G 88 [yR N V, .sl 1 (st.map iv), .v (.int .i64 (i : Nat))] [] (.tu [.v (.int .i64 (ofP N V st i d)), .v (.int .i64 0)]) [] := by
  have hm := iW (G := G) N V st U.g U.p U.nn U.vn U.n U.v U.e S.l S.p
  have hv := ddev_A (G := G) N V i (zM hd)
  have ho := dof_A (G := G) N V st i d U S hd
  refine zE tbOk (zA Tryz.func88 (by kernel_rfl) rfl) Tryz.func88 rfl _ Tryz.ntmps88 (Nat.le_of_ble_eq_true rfl) fun X hX => ?_
  subst hX
  refine zg0 ?_
  refine zG (hm) (by repeat' (first | exact trivial | exact Ren.sl _ _ | refine zO ?_ | refine ⟨?_, ?_⟩)) (by repeat' exact RenB.v _) ?_
  refine zg12 ?_
  refine zG (hv) (by repeat' (first | exact trivial | exact Ren.v _ | exact Ren.sl _ _ | refine zO ?_ | refine ⟨?_, ?_⟩)) (by repeat' exact RenB.v _) ?_
  refine zg13 ?_
  refine zG (ho) (by repeat' (first | exact trivial | exact Ren.v _ | exact Ren.sl _ _ | refine zO ?_ | refine ⟨?_, ?_⟩)) (by repeat' exact RenB.v _) ?_
  refine zg5 ?_
  refine jH (by first | exact .inr rfl | exact .inl rfl) rfl rfl rfl ?_
  repeat' (first | exact trivial | exact Ren.v _ | refine zf ?_ | refine ⟨?_, ?_⟩)
end Go.Proofs.YtnafokinifbfhaaGreatDoor
namespace Go.Proofs.YtnafokinifbfhaaGreatDoor
open Go Go.RowKit
theorem rF (z : Value) (hz : z.cells = #[z]) (m : Nat) : (Builtin.zeroCells z.cells m).toList = List.replicate m z := by
  have e : (fun i : Nat => ([z] : List Value)[i % 1]?.getD default) = fun _ => z := by funext i; simp [Nat.mod_one]
  simp [Builtin.zeroCells, hz]
  rw [e, List.map_const', List.length_range]
theorem putL_end {α : Type} (xs cs : List α) (o : Nat) (h : cs.length = o + xs.length) : putL cs o xs = cs.take o ++ xs := by
  rw [gT xs cs o (by omega), List.drop_of_length_le (by omega), List.append_nil]
section
variable {P : Program} {X : Ctx} {n : Nat} {ops : Array Oper} {os : List Oper} {acc : List Rule} {σ : AS} {K : List Rule → AS → Prop} {gt : List (Nat × AV)} {ty : TypeId} {ps : String} {af : Array Edge} {g : Option (Nat × Bool)} {d : Option Nat}
variable {TB : Tabs} (hTB : TabsOk P TB)
include hTB
/-- 'clear' at the end of an own row of one-celled elements. -/
theorem xL {t : TypeId} {x : Operand} {s k k' e e' lo hi : Nat} {b : Bool} {L : List AV} {z : Value} (hs : lk TB.sle t = some e) (hz : lk TB.ty e = some (b, 1)) (hzr : lk TB.zer e = some [z]) (hv : ∀ w, (zeroValue e).run P w = .ok z w) (hzc : z.cells = #[z]) (ho : z.oneCell' = true)
    (hx : ev σ x = .os s k 1 lo hi) (hH : σ.H s = ⟨k', .buf e' 1 L⟩) (hk : k = k') (hlt : lo < hi) (hhi : hi = L.length) (hL1 : ∀ y ∈ L, y.cells = [y])
    (h : Exec P X n ops os (mkG gt σ [x] [s] d (.tu []) [(s, ⟨k', .buf e' 1 (L.take lo ++ List.replicate (hi - lo) (AV.v z))⟩)] :: acc) ((σ.hup s ⟨k', .buf e' 1 (L.take lo ++ List.replicate (hi - lo) (AV.v z))⟩).put d (.tu [])) K) : Op1 P X n ops gt ⟨d, .call ⟨.builtin .clear, #[x], #[t]⟩, ty, ps, af, g⟩ os acc σ K := by
  refine ⟨⟨mkR σ [x] [s] d (.tu []) [(s, ⟨k', .buf e' 1 (L.take lo ++ List.replicate (hi - lo) (AV.v z))⟩)], zW rfl fun M ρ τ a w hf hR => ?_, zR _ _ _ _ _ _, h⟩⟩
  subst hk
  have hHs := (zo hf (s := s) (by simp)).trans hH
  have h1 := hR.ev x
  rw [zP hf (by simp), hx] at h1
  obtain ⟨g, l, c, A, e1, eA, e0, e2⟩ := h1.os_inv
  have eA := eA hlt
  subst eA
  rw [Nat.mul_one] at e2
  obtain ⟨u, us, q1, q2, q3, q4, q5, q6⟩ := hR.buf s k e' 1 L hHs
  rw [e1] at q1
  injection q1 with q1
  subst q1
  rcases q2.1.2 with ⟨h0, _⟩ | ⟨g', cap, cur, f1, f2, f3, f4, f5, f6, f7⟩
  · cases h0
  injection f1 with f1
  injection f1 with f1
  injection f1 with f1
  subst f1
  obtain ⟨cl⟩ := cur
  have hfl : (L.flatMap AV.cells).length = L.length := by rw [yc q5, Nat.mul_one]
  have hself : L.flatMap AV.cells = L := by
    have : ∀ D : List AV, (∀ y ∈ D, y.cells = [y]) → D.flatMap AV.cells = D := by
      intro D
      induction D with
      | nil => intro _; rfl
      | cons y D ih => intro h; rw [List.flatMap_cons, h y (by simp), ih (fun z hz => h z (by simp [hz]))]; rfl
    exact this L hL1
  have hL1' : ∀ y ∈ L.take lo ++ List.replicate (hi - lo) (AV.v z), y.cells = [y] := fun y hy => by
    rcases List.mem_append.1 hy with hy | hy
    · exact hL1 y (List.mem_of_mem_take hy)
    · rw [(List.mem_replicate.1 hy).2]; rfl
  have hself' : (L.take lo ++ List.replicate (hi - lo) (AV.v z)).flatMap AV.cells = L.take lo ++ List.replicate (hi - lo) (AV.v z) := by
    have : ∀ D : List AV, (∀ y ∈ D, y.cells = [y]) → D.flatMap AV.cells = D := by
      intro D
      induction D with
      | nil => intro _; rfl
      | cons y D ih => intro h; rw [List.flatMap_cons, h y (by simp), ih (fun z hz => h z (by simp [hz]))]; rfl
    exact this _ hL1'
  have f6' : cl.length = cap * 1 := f6
  have hcell : ∀ o, o < cl.length → w.cell? ⟨g, o, none⟩ = cl[o]? := fun o ho => by rw [cell_of_row w g o ⟨cl⟩ e' (0, 0) f3]; simp
  have hrun := vC (P := P) w t e ty z (yM hTB hs) hv g lo (hi - lo) (c - lo) (List.replicate (hi - lo) z) (rF z hzc _) (fun v hv => by rw [(List.mem_replicate.1 hv).2]; exact ho) (by omega)
    (fun j hj => by rw [List.length_replicate] at hj; rw [hcell _ (by omega), List.getElem?_eq_getElem (by omega)]; rfl)
    (fun j hj => by unfold World.frozen?; simp [f3])
  have hS := hR.storeBuf (L' := L.take lo ++ List.replicate (hi - lo) (AV.v z)) (xs := List.replicate (hi - lo) (AV.v z)) (vs := List.replicate (hi - lo) z) hHs e1 lo (by simp) (by rw [hfl, List.length_replicate]; omega)
    (fun j x u hj hu => by
      have h1 := (List.mem_replicate.1 (List.mem_of_getElem? hj)).2
      have h2 := (List.mem_replicate.1 (List.mem_of_getElem? hu)).2
      subst h1; subst h2
      exact ⟨.v _ _, ho⟩)
    (by simp; omega) (fun y hy => by rw [hL1' y hy]; rfl) (by rw [hself, hself', putL_end _ _ _ (by simp; omega)])
  refine ⟨.tuple #[], _, M, ρ, ?_, hS, .tu _ _ _ rfl (fun j x u hj => by simp at hj)⟩
  unfold execOp
  simp [resolve, invoke, builtin, e2, hrun]
/-- The front of an own row. -/
theorem xC {t : TypeId} {x hi : Operand} {dd s k k' sz e e' : Nat} {b : Bool} {L : List AV} {kk : IntKind} {h : Int} (hs : lk TB.sle t = some e) (hz : lk TB.ty e = some (b, sz)) (hx : ev σ x = .own s k) (hH : σ.H s = ⟨k', .buf e' sz L⟩) (hk : k = k') (hh : ev σ hi = .v (.int kk h)) (hb : 0 ≤ h ∧ h ≤ L.length) (hp : 0 < L.length)
    (hK : Exec P X n ops os (mkG gt σ [x, hi] [s] (some dd) (.own s (k' + 1)) [(s, ⟨k', .dead⟩), (s, ⟨k' + 1, .buf e' sz (L.take h.toNat)⟩)] :: acc) (((σ.hup s ⟨k', .dead⟩).hup s ⟨k' + 1, .buf e' sz (L.take h.toNat)⟩).put (some dd) (.own s (k' + 1))) K) : Op1 P X n ops gt ⟨some dd, .slice t x none (some hi) none, ty, ps, af, g⟩ os acc σ K := by
  subst hk
  refine ⟨⟨mkR σ [x, hi] [s] (some dd) (.own s (k + 1)) [(s, ⟨k, .dead⟩), (s, ⟨k + 1, .buf e' sz (L.take h.toNat)⟩)], zW rfl fun M ρ τ a w hf hR => ?_, zR _ _ _ _ _ _, hK⟩⟩
  have hHs := (zo hf (s := s) (by simp)).trans hH
  have h1 := hR.ev x
  rw [zP hf (by simp), hx] at h1
  have h2 := zT hR (zP hf (by simp)) hh
  obtain ⟨u, us, q1, q2, q3, q4, q5, q6⟩ := hR.buf s k e' sz L hHs
  have e1 := h1.own_inv
  rw [q1] at e1
  injection e1 with e1
  rcases q2.1.2 with ⟨h0, h9⟩ | ⟨g', cap, cur, f1, f2, f3, f4, f5, f6, f7⟩
  · omega
  obtain ⟨cl⟩ := cur
  have f7' : cl.take (L.length * sz) = us := f7
  have f6' : cl.length = cap * sz := f6
  have eh : (h.toNat : Int) = h := Int.toNat_of_nonneg hb.1
  have hle : h.toNat ≤ L.length := by omega
  have hr := qx (P := P) (A := some ⟨g', 0, none⟩) (cap := cap) (lo := none) (l := 0) (h := h.toNat) (yM hTB hs) (yA hTB hz) (Nat.zero_le _) hle f4 (.inl ⟨rfl, rfl⟩) (.inr ⟨kk, by rw [eh, h2]⟩) w (hi := some (a.eval hi))
  rw [h2] at hr
  have hv' : (if cap = 0 then some (⟨g', 0, none⟩ : Addr) else (some (⟨g', 0, none⟩ : Addr)).map (·.add (0 * sz))) = some ⟨g', 0, none⟩ := by
    split
    · rfl
    · rw [Option.map_some, Addr.add_mid]; simp
  rw [hv', Nat.sub_zero, Nat.sub_zero] at hr
  have hbs : zI ρ s (τ.H s) = some g' := by rw [hHs]; simp [zI, q1, f1, vblk]
  have hdead : Rel X n M ρ (τ.hup s ⟨k, .dead⟩) a w := hR.weak ⟨fun _ => .inl rfl, fun s' => by
    simp only [AS.hup]
    by_cases hs' : s' = s
    · subst hs'; rw [Nat.beq_refl]; exact ⟨by rw [hHs]; rfl, .inr rfl⟩
    · rw [zV hs']; exact ⟨rfl, .inl rfl⟩⟩
  have hmul : h.toNat * sz ≤ L.length * sz := Nat.mul_le_mul_right _ hle
  have htk : cl.take (h.toNat * sz) = us.take (h.toNat * sz) := by rw [← f7', List.take_take, Nat.min_eq_left hmul]
  have hfl : (L.flatMap AV.cells).length = L.length * sz := yc q5
  have hft := (sF L h.toNat q5).1
  have hown : w.ownsRow 0 e' sz (.slice (some ⟨g', 0, none⟩) h.toNat cap) h.toNat (us.take (h.toNat * sz)) := by
    refine ⟨by rw [List.length_take]; omega, .inr ⟨g', cap, ⟨cl⟩, rfl, f2, f3, by omega, f5, f6, htk⟩⟩
  have hmn : X.mine (.slice (some ⟨g', 0, none⟩) h.toNat cap) := fun g hg => q2.2 g (by rw [f1]; exact hg)
  have hA := hdead.appendTo s (u := .slice (some ⟨g', 0, none⟩) h.toNat cap) (v' := .slice (some ⟨g', 0, none⟩) h.toNat cap) (w' := w) (us := us.take (h.toNat * sz)) (news := []) (L := L.take h.toNat) ⟨hown, hmn⟩ (by rw [List.append_nil, List.length_take, Nat.min_eq_left hle]; exact hown) ⟨rfl, rfl, rfl, Nat.le_refl _, fun _ _ _ => rfl⟩ (.inl rfl) (fun g hg => q3 g (by rw [f1]; exact hg)) (fun s' g hg hs' => by
      simp only [AS.hup] at hs'
      by_cases he : s' = s
      · subst he; rw [Nat.beq_refl] at hs'; simp [zI] at hs'
      · rw [zV he] at hs'
        simp [vblk] at hg
        subst hg
        exact he (hR.sep s' s g' hs' hbs))
    (by rw [List.append_nil, hft, List.length_take, List.length_take, q4]) (fun y hy => q5 y (List.mem_of_mem_take hy)) (fun j x y hx hy => by
      rw [hft, List.getElem?_take] at hx
      rw [List.append_nil, List.getElem?_take] at hy
      split at hx
      · rename_i hj; rw [if_pos hj] at hy; exact q6 j x y hx hy
      · cases hx)
  have hkd : ((τ.hup s ⟨k, .dead⟩).H s).k = k := by simp [AS.hup, Nat.beq_refl]
  rw [hkd] at hA
  refine ⟨.slice (some ⟨g', 0, none⟩) h.toNat cap, w, M, _, ?_, hA, .own _ _ _ _ (by simp [updρ]) rfl⟩
  unfold execOp
  simp only [← e1, f1, h2, Option.map_none, Option.map_some, Sem.run_bind, hr]
  rfl
end
end Go.Proofs.YtnafokinifbfhaaGreatDoor
namespace Go.Proofs.YtnafokinifbfhaaGreatDoor
open Go Go.RowKit
section
variable {X : Ctx} {n : Nat} {M : Nat → Option (Array Value)} {ρ : Nat → Nat → Option Value} {σ : AS} {a : Act} {w : World}
end
section
variable {P : Program} {TB : Tabs} {G : Nat → Option (List Value)} {f : FuncId} {args : List AV} {L : List (Value × Value)}
end
section
variable {P : Program} {X : Ctx} {n : Nat} {ops : Array Oper} {os : List Oper} {acc : List Rule} {σ : AS} {K : List Rule → AS → Prop} {gt : List (Nat × AV)} {ty : TypeId} {ps : String} {af : Array Edge} {g : Option (Nat × Bool)}
end
/-- Ends with three and with four results. -/
theorem ret0_3 {TB : Tabs} {σ : AS} {fn : Func} {r : AV} {e : Exit} {t1 t2 t3 : Nat} {y1 y2 y3 : AV} (he : e = .normal ∨ e = .ret) (hfn : fn.results = #[.tmp t1, .tmp t2, .tmp t3]) (h1 : vf (σ.T t1) = some y1) (h2 : vf (σ.T t2) = some y2) (h3 : vf (σ.T t3) = some y3) (hr : Ren (bufs σ) (yg 0 []) r (.tu [y1, y2, y3])) : RetQ TB fn 0 r [] e σ := by
  refine ret0 he (xs := [σ.T t1, σ.T t2, σ.T t3]) ?_ (by rw [qN h1, qN h2, qN h3]; exact hr)
  rw [hfn]
  exact ⟨.tmp t1, .tmp t2, .tmp t3, trivial⟩
end Go.Proofs.YtnafokinifbfhaaGreatDoor
