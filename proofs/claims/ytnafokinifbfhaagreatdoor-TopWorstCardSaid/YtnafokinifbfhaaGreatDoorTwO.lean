/- first() is true, its second part, and the whole as a call in the walks' machine; conditions: the table of positions and that of classes hold what they were laid with / first() as a call in a walk; conditions: the table of positions and that of classes stand / permitofficetop.TopWorst, by the abstract machine: for every list of numbers it answers true; conditions: the tables of positions and of classes stand. -/
import Derived.Test.YtnafokinifbfhaaGreatDoorCxYb
import Derived.Test.YtnafokinifbfhaaGreatDoorAbsH
import Derived.Test.YtnafokinifbfhaaGreatDoorHaB
import Derived.Test.YtnafokinifbfhaaGreatDoorMkM
import Derived.Test.YtnafokinifbfhaaGreatDoorNwB
set_option linter.unusedVariables false
set_option linter.unusedSimpArgs false
namespace Go.Proofs.YtnafokinifbfhaaGreatDoor.Cx
open Go Go.RowKit
section
variable {P : Program} {TB : Tabs} {tb : Tb} (hT : TbOk P TB tb)
theorem exec_seq {f : Nat} {a b : Code} {s s' : CS} (h : exec tb f (.seq a b) s = some (.normal, s')) : ∃ f' s1, exec tb f' a s = some (.normal, s1) ∧ exec tb f' b s1 = some (.normal, s') := by
  cases f with
  | zero => cases h
  | succ f =>
    change kQ (exec tb f b) (exec tb f a s) = some (.normal, s') at h
    unfold kQ at h
    split at h
    · rename_i s1 hr; exact ⟨f, s1, hr, h⟩
    · rename_i hne; exact absurd h (hne s')
include hT
theorem nH {n : Nat} {X : Ctx} {c2 : Code} {Q : Exit → Act → World → Prop} {s : CS} (hQ : ∀ ρ' a' w', Rel X n () ρ' (stOf s.T s.H) a' w' → c2.wp P Q a' w') : ∀ (l : List Code) (f : Nat) (s0 : CS), exec tb f (l.foldr .seq .skip) s0 = some (.normal, s) → (∀ c ∈ l, dstC n c = true) → ∀ ρ a w, Rel X n () ρ (stOf s0.T s0.H) a w → (l.foldr .seq c2).wp P Q a w
  | [], f, s0, h, hd, ρ, a, w, hR => by
    cases f with
    | zero => cases h
    | succ f =>
      injection h with h
      injection h with _ h
      subst h
      exact hQ ρ a w hR
  | c :: l, f, s0, h, hd, ρ, a, w, hR => by
    obtain ⟨f', s1, h1, h2⟩ := exec_seq h
    have hok := sA hT f' n c s0 .normal s1 h1 (hd c (by simp))
    obtain ⟨m, r⟩ := hok.run
    refine wp_seq (aL (r X (hg s0.H) (fun _ _ => rfl) (Exit.then ((l.foldr .seq c2).wp P Q) Q) (fun ρ' a' w' hR' => ?_) ρ a w hR))
    have ov : ovr s1.W (hg s1.H) (hg s0.H) = hg s1.H := by
      funext q
      by_cases hq : Bt s1.W q
      · exact aG hq
      · rw [qE hq, hok.cov q hq]
    rw [ov] at hR'
    exact nH hQ l f' s1 h2 (fun c hc => hd c (by simp [hc])) ρ' a' w' hR'
end
theorem bodyF_eq : Tryz.f7.body = some (partA.foldr .seq partB) := rfl
theorem dstA : partA.all (dstC Tryz.f7.ntmps) = true := by kernel_rfl
theorem dstB : dstC Tryz.f7.ntmps partB = true := by kernel_rfl
theorem resF1 : Tryz.f7.results = #[.tmp 0] := rfl
theorem H0_get (q : Nat) : hg H0 q = if q = 0 then CO.ro posV else if q = 1 then CO.ro clsV else CO.none := by
  show Tr.get CO.none H0 q = _
  unfold H0
  rw [jj]
  by_cases h0 : q = 0
  · subst h0; rfl
  · rw [yF h0, if_neg h0, cond_false]
    by_cases ho : q % 2 = 1
    · rw [ho]
      show Tr.get CO.none (Tr.node Tr.nil (CO.ro clsV) Tr.nil) (q / 2) = _
      rw [jj]
      by_cases h1 : q / 2 = 0
      · rw [if_pos (by omega), h1]; rfl
      · rw [yF h1, if_neg (by omega), cond_false, fC, fC]; cases Nat.beq (q / 2 % 2) 1 <;> rfl
    · rw [yF ho, cond_false, fC, if_neg (by omega)]
theorem first_calls (w : World) (h0 : ∃ t fr, w.heap[0]? = some (.cells ⟨posV⟩ t fr)) (h1 : ∃ t fr, w.heap[1]? = some (.cells ⟨clsV⟩ t fr)) :
    Calls Tryz.prog 7 ⟨[]⟩ w fun e w' => e = .returned (.bool true) ∧ w'.os = w.os ∧ w'.tape = w.tape ∧ w'.output = w.output ∧ w.heap.size ≤ w'.heap.size ∧ ∀ g, g < w.heap.size → w'.heap[g]? = w.heap[g]? := by
  have hs1 : 1 < w.heap.size := by obtain ⟨t, fr, h⟩ := h1; exact (Array.getElem?_eq_some_iff.1 h).1
  refine calls_of_wp Tryz.func7 bodyF_eq ?_
  have hA := runA
  unfold gcO at hA
  split at hA
  · rename_i s hs
    injection hA with hA
    cases hB : exec xt 100000 partB s1 with
    | none => have := runB; rw [hB] at this; cases this
    | some p =>
      obtain ⟨e, s2⟩ := p
      have hb := runB
      rw [hB] at hb
      cases e with
      | ret =>
        have hb : (match s2.T.get (.v undef) 0 with | .v (.bool b) => b | _ => false) = true := hb
        have hT0 : tg s2.T 0 = .v (.bool true) := by
          show s2.T.get (.v undef) 0 = _
          split at hb
          · rename_i b hv; rw [hv, hb]
          · cases hb
        have hR0 : Rel ⟨w, fun _ => none⟩ Tryz.f7.ntmps () (fun _ => none) (stOf s0.T s0.H) { tmps := (⟨[]⟩ : Array Value) ++ Array.replicate (Tryz.f7.ntmps - (⟨[]⟩ : Array Value).size) undef, defers := [] } w := by
          refine ⟨⟨fun q => ?_, fun q1 q2 g b z b' z' l1 l2 r1 r2 => (by cases r1), fun q hq => rfl, fun q y e => (by cases e), rfl, rfl, rfl, Nat.le_refl _, fun _ _ => rfl⟩, by simp, fun i => ?_, rfl⟩
          · show Desc _ _ w q (hg H0 q)
            rw [H0_get]
            by_cases e0 : q = 0
            · rw [if_pos e0]; subst e0; exact ⟨by show 0 < w.heap.size; omega, h0⟩
            · rw [if_neg e0]
              by_cases e1 : q = 1
              · rw [if_pos e1]; subst e1; exact ⟨hs1, h1⟩
              · rw [if_neg e1]; trivial
          · show Rep _ (.v undef) _
            have : ((⟨[]⟩ : Array Value) ++ Array.replicate (Tryz.f7.ntmps - (⟨[]⟩ : Array Value).size) undef).getD i undef = undef := by
              rw [Array.getD_eq_getD_getElem?, Array.getElem?_append_right (by simp)]
              simp [Array.getElem?_replicate]
              split <;> rfl
            rw [this]
            exact .v undef
        refine nH xtOk (fun ρ' a' w' hR' => ?_) partA 100000 s0 hs (fun c hc => List.all_eq_true.1 dstA c hc) _ _ w hR0
        have hG := Rel.gc (kT := keepT) (kH := keepH) (s := s) hR'
        rw [hA] at hG
        have hok := sA xtOk 100000 _ partB s1 .ret s2 hB dstB
        obtain ⟨m, r⟩ := hok.run
        refine aL (r ⟨w, fun _ => none⟩ (hg s1.H) (fun _ _ => rfl) _ (fun ρ2 a2 w2 hR2 => ?_) ρ' a' w' hG)
        have h2 := hR2.tm 0
        rw [show (⟨tg s2.T, ovr s2.W (hg s2.H) (hg s1.H)⟩ : AS).T 0 = .v (.bool true) from hT0] at h2
        refine ⟨hR2.df, .bool true, ?_, rfl, hR2.os, hR2.tape, hR2.output, hR2.size, hR2.frame⟩
        have h3 := h2.v_inv
        unfold results
        rw [resF1]
        simp
        simpa using h3
      | _ => cases hb
  · cases hA
end Go.Proofs.YtnafokinifbfhaaGreatDoor.Cx
namespace Go.Proofs.YtnafokinifbfhaaGreatDoor
open Go Go.RowKit
variable {G : Nat → Option (List Value)}
theorem xP (h0 : G 0 = some Cx.posV) (h1 : G 1 = some Cx.clsV) : zl Tryz.prog G 7 [] [] (.v (.bool true)) [] := by
  refine ⟨zM Tryz.func7 (by kernel_rfl) rfl, fun M w gs vs hl hG hn hr hv ha => ?_⟩
  obtain rfl : vs = [] := List.length_eq_zero_iff.1 hv
  obtain rfl : gs = [] := List.length_eq_zero_iff.1 hr.len
  refine (Cx.first_calls w (hl 0 _ (hG 0 _ h0)) (hl 1 _ (hG 1 _ h1))).mono ?_
  rintro e w' ⟨he, h2, h3, h4, h5, h6⟩
  refine ⟨.bool true, M, [], he, fun _ _ h => h, fun g arr h => ?_, h2, h3, h4, h5, fun g hg _ => h6 g hg, fun _ _ h => h, by simp, by simp, ⟨rfl, by simp⟩, .v _ _⟩
  obtain ⟨t, fr, hh⟩ := hl g arr h
  exact ⟨t, fr, (h6 g (Array.getElem?_eq_some_iff.1 hh).1).trans hh⟩
end Go.Proofs.YtnafokinifbfhaaGreatDoor
namespace Go.Proofs.YtnafokinifbfhaaGreatDoor
open Go Go.RowKit
set_option maxRecDepth 10000
variable {G : Nat → Option (List Value)}
theorem nwU6 {D : Dk} (h : DkOk D) (hG : GCls G) (hP : GPos G) : NwU G (net1 D 6).1 (net5 D 6 9).1 ∧ 0 < (net5 D 6 9).1.length := by
  have hk := cG D (nodes := 6) (by decide) (by decide)
  have hN : (net1 D 6).1.length = netK D 6 := aK _ _
  have hv := rG h 9 (nodes := 6) (by decide) (by decide)
  have hp := net5_pos D 6 (m := 9) (by decide)
  have hK : netK D 6 ≤ 32 := by
    have := D.in_ (n := max 1 (6 - 1)) (by omega) (by omega)
    omega
  refine ⟨⟨hG, hP, by omega, by have := hv.len; omega, fun x hx => ?_, fun x hx => ?_, net_valid h (by decide) (by decide) (by decide), fun d hd => ?_, fun x hx => ?_⟩, hp⟩
  · obtain ⟨j, hj⟩ := List.getElem?_of_mem hx
    rw [(eY _ _ j x hj).1, tK]; decide
  · obtain ⟨j, hj⟩ := List.getElem?_of_mem hx
    rw [(hv.at_ j x hj).nm, tK]; decide
  · obtain ⟨j, hj⟩ := List.getElem?_of_mem hd
    rw [hN]; exact (hv.at_ j d hj).ends
  · obtain ⟨j, hj⟩ := List.getElem?_of_mem hx
    have := eY _ _ j x hj
    omega
theorem wG {V : List Dv} {m t : List Int} (M : MkOk V m) (A : Agr m t) : StOk V t := mG M t (lA A)
set_option maxHeartbeats 16000000 in
theorem worstL_A (l : List Int) (hG0 : G 0 = some Cx.posV) (hG1 : G 1 = some Cx.clsV) (hG : GCls G) : zl Tryz.prog G 3 [.sl 1 (l.map iv)] [] (.v (.bool true)) [] := by
  refine zY tbOk (zM Tryz.func3 (by kernel_rfl) rfl) Tryz.func3 rfl _ Tryz.ntmps3 (Nat.le_of_ble_eq_true rfl) fun X hX => ?_
  subst hX
  repeat (first | ((with_reducible refine zI ?_); refine zJ rfl ?_) | ((with_reducible refine zE ?_); refine zF rfl ?_)  | refine zK ?_ | refine zB rfl ?_ | with_reducible (first | refine zG ?_ | refine zH ?_) | ((with_reducible refine zA ?_ ?_); kernel_rfl))
  refine zk (few_A (l.map iv)) (by repeat' (first | exact trivial | exact Ren.sl _ _ | refine ⟨?_, ?_⟩)) (by repeat' exact RenB.v _) ?_
  repeat (first | ((with_reducible refine k_un ?_); refine jy rfl ?_)  | refine zK ?_ | refine zB rfl ?_ | with_reducible refine zG ?_ )
  refine zh rfl (fun h => ?_) (fun h => ?_)
  · repeat (first   | refine zB rfl ?_ | with_reducible refine zH ?_ | ((with_reducible refine zA ?_ ?_); kernel_rfl))
    refine zk (xP hG0 hG1) (by repeat' exact trivial) (by repeat' exact RenB.v _) ?_
    repeat (first | ((with_reducible refine zE ?_); refine zF rfl ?_)  | refine zK ?_ | refine zB rfl ?_ | with_reducible (first | refine zG ?_ | refine zf ?_ | refine zS ?_) )
    refine yC (by first | exact .inr rfl | exact .inl rfl) rfl rfl ?_
    rfl
  have hl : l.length ≤ 400 := by simp at h; omega
  have dk := DkOk.new hl
  obtain ⟨U, v0⟩ := nwU6 (G := X.G) dk hG hG0
  have hnet := network_A (G := X.G) (dk0 l) 6 9 dk (by decide) (by decide) (by decide)
  have hd1 := (rG dk 9 (nodes := 6) (by decide) (by decide)).dk
  obtain ⟨N, hN⟩ : ∃ N, N = (net1 (dk0 l) 6).1 := ⟨_, rfl⟩
  obtain ⟨V, hV⟩ : ∃ V, V = (net5 (dk0 l) 6 9).1 := ⟨_, rfl⟩
  obtain ⟨D1, hD1⟩ : ∃ E, E = (net5 (dk0 l) 6 9).2 := ⟨_, rfl⟩
  rw [← hN, ← hV, ← hD1] at hnet
  rw [← hN, ← hV] at U
  rw [← hV] at v0
  rw [← hD1] at hd1
  have hvle := U.v
  have hmk := masks_A (G := X.G) N V 5 D1 hd1 v0 hvle (by decide)
  obtain ⟨hd2, M⟩ := mskP_ok (V := V) (k := 5) hd1 (by decide)
  obtain ⟨⟨D2, m⟩, hq2⟩ : ∃ q, q = mskP V 5 D1 := ⟨_, rfl⟩
  rw [← hq2] at hmk hd2 M
  dsimp only at hmk hd2 M
  have hwi := within_A (G := X.G) m D2 hd2 (by rw [M.l]; exact hvle)
  obtain ⟨hd3, A⟩ := witP_ok hd2 M.p
  obtain ⟨⟨D3, t⟩, hq3⟩ : ∃ q, q = witP m D2 := ⟨_, rfl⟩
  rw [← hq3] at hwi hd3 A
  dsimp only at hwi hd3 A
  have hwo := xH (G := X.G) N V m U M
  have hcu := Cust_A (G := X.G) N V t U (wG M A)
  have hle : decide (bG N V t < cA N V m) = false := decide_eq_false (by have := uY (N := N) (V := V) (lA A); omega)
  repeat (first | ((with_reducible refine zI ?_); refine zJ rfl ?_)  | refine zB rfl ?_ | with_reducible (first | refine zG ?_ | refine zH ?_ | refine zR ?_) | ((with_reducible refine zA ?_ ?_); kernel_rfl))
  refine wK (new_A l) (by repeat' (first | exact trivial | exact Ren.sl _ _ | refine ⟨?_, ?_⟩)) ⟨.sl _ _, .v _, .v _, trivial⟩ rfl ?_
  repeat (first | ((with_reducible refine zI ?_); refine zJ rfl ?_) | ((with_reducible refine zE ?_); refine zF rfl ?_)  | refine zK ?_ | refine zB rfl ?_ | with_reducible (first | refine zG ?_ | refine zH ?_) | ((with_reducible refine zA ?_ ?_); kernel_rfl))
  refine yg (y := .ag [.sl 3 (N.map Nd.av), .sl 5 (V.map Dv.av)]) (ss := [(27, 1)]) (hnet) (by repeat' (first | exact trivial | exact Ren.v _ | exact Ren.ptr _ _ _ _ rfl | refine ⟨?_, ?_⟩)) (by simp) (in1 rfl rfl) rfl (yx rfl) (by repeat' (first | exact trivial | exact RenB.sl _ _ | refine eZ ?_ | refine ⟨?_, ?_⟩)) ?_
  repeat (first | ((with_reducible refine zI ?_); refine zJ rfl ?_) | ((with_reducible refine zQ ?_); refine zZ tbOk rfl rfl rfl rfl (Nat.le_of_ble_eq_true rfl) ?_) | ((with_reducible refine zz ?_); refine yN tbOk rfl rfl rfl rfl rfl rfl rfl (Nat.le_of_ble_eq_true rfl) rfl ?_) | ((with_reducible refine yw ?_); refine yu tbOk rfl rfl ?_)  | refine zK ?_ | refine zB rfl ?_ | with_reducible (first | refine zG ?_ | refine zH ?_) | ((with_reducible refine zA ?_ ?_); kernel_rfl))
  refine yg (ss := [(27, 1)]) (hmk) (by repeat' (first | exact trivial | exact Ren.v _ | exact Ren.sl _ _ | exact Ren.ptr _ _ _ _ rfl | refine zp ?_ | refine ⟨?_, ?_⟩)) (by simp) (in1 rfl rfl) rfl (yx rfl) (by repeat' exact RenB.sl _ _) ?_
  repeat (first | ((with_reducible refine zI ?_); refine zJ rfl ?_) | ((with_reducible refine zE ?_); refine zF rfl ?_)  | refine zK ?_ | refine zB rfl ?_ | with_reducible (first | refine zG ?_ | refine zH ?_) | ((with_reducible refine zA ?_ ?_); kernel_rfl))
  refine yg (ss := [(27, 1)]) (hwi) (by repeat' (first | exact trivial | exact Ren.sl _ _ | exact Ren.ptr _ _ _ _ rfl | refine ⟨?_, ?_⟩)) (by simp) (in1 rfl rfl) rfl (yx rfl) (by repeat' exact RenB.sl _ _) ?_
  repeat (first | ((with_reducible refine zI ?_); refine zJ rfl ?_) | ((with_reducible refine zE ?_); refine zF rfl ?_) | ((with_reducible refine zQ ?_); refine zZ tbOk rfl rfl rfl rfl (Nat.le_of_ble_eq_true rfl) ?_)  | refine zK ?_ | refine zB rfl ?_ | with_reducible (first | refine zG ?_ | refine zH ?_) | ((with_reducible refine zA ?_ ?_); kernel_rfl))
  refine zk (hwo) (by repeat' (first | exact trivial | exact Ren.sl _ _ | refine zp ?_ | refine ⟨?_, ?_⟩)) (by repeat' (first | exact trivial | exact RenB.v _ | refine yQ ?_ | refine ⟨?_, ?_⟩)) ?_
  repeat (first | ((with_reducible refine zI ?_); refine zJ rfl ?_) | ((with_reducible refine zE ?_); refine zF rfl ?_) | ((with_reducible refine zQ ?_); refine zZ tbOk rfl rfl rfl rfl (Nat.le_of_ble_eq_true rfl) ?_) | ((with_reducible refine yZ ?_); refine yX rfl rfl ?_)  | refine zK ?_ | refine zB rfl ?_ | with_reducible (first | refine zG ?_ | refine zH ?_) | ((with_reducible refine zA ?_ ?_); kernel_rfl))
  refine zk (hcu) (by repeat' (first | exact trivial | exact Ren.sl _ _ | refine zp ?_ | refine ⟨?_, ?_⟩)) (by repeat' (first | exact trivial | exact RenB.v _ | refine yQ ?_ | refine ⟨?_, ?_⟩)) ?_
  repeat (first | ((with_reducible refine zI ?_); refine zJ rfl ?_) | ((with_reducible refine zE ?_); refine zF rfl ?_) | ((with_reducible refine yZ ?_); refine yX rfl rfl ?_) | ((with_reducible refine zt ?_); refine yL rfl (by first | rfl | assumption) rfl ?_) | ((with_reducible refine zP ?_); refine zV rfl rfl rfl ?_)  | refine zK ?_ | refine zB rfl ?_ | refine yr rfl rfl (by first | rfl | assumption) ?_ | with_reducible (first | refine zG ?_ | refine zH ?_ | refine zW ?_ | refine zR ?_) | ((with_reducible refine zA ?_ ?_); kernel_rfl) | refine zm rfl (by first | rfl | assumption) ?_)
  refine ya (ι := Nat × Dk × List Int × List Int) (fun i => i.1 ≤ 4 ∧ DkOk i.2.1 ∧ MkOk V i.2.2.1 ∧ Agr i.2.2.1 i.2.2.2) (fun i => 4 - i.1) (fun v i => [(3, .ptr 27 (v 27) 0), (4, .ptr 4 (v 4) 0), (5, .sl 1 (i.2.2.1.map iv)), (6, .sl 1 (i.2.2.2.map iv)), (7, .v (.int .i64 (cA N V i.2.2.1))), (11, .v (.int .i64 (i.1 : Nat)))]) (fun v i => [(27, .box i.2.1.cells), (4, .box [.sl 3 (N.map Nd.av), .sl 5 (V.map Dv.av)])]) ?_ ?_
  · exact ⟨(0, D3, m, t), ⟨Nat.zero_le _, hd3, M, A⟩, trivial, ⟨rfl, rfl, rfl, rfl, rfl, rfl, trivial⟩, ⟨rfl, rfl, trivial⟩⟩
  clear hle hcu hwo hwi hmk hnet hd3 A M hq3 hq2 h
  clear m t
  rintro v ⟨k, E, m, t⟩ ⟨hk, hE, M, A⟩
  dsimp only at hk hE M A ⊢
  repeat (first | ((with_reducible refine zI ?_); refine zJ rfl ?_) | ((with_reducible refine zP ?_); refine zV rfl rfl rfl ?_)  | refine zK ?_ | refine zB rfl ?_ | with_reducible (first | refine zG ?_ | refine zH ?_) | ((with_reducible refine zA ?_ ?_); kernel_rfl))
  refine zh rfl (fun h => ?_) (fun h => ?_)
  · have hlt : k < 4 := by have := of_decide_eq_true h; omega
    have hop := mop_A (G := X.G) N V E hE hvle
    have hin := E.in_ (n := (V.length : Nat)) (by omega) (by omega)
    have hin2 := E.next.in_ (n := 2) (by decide) (by decide)
    obtain ⟨di, hdi⟩ := Int.eq_ofNat_of_zero_le hin.1
    obtain ⟨p, hp⟩ : ∃ p, p = 1 + E.next.val 2 := ⟨_, rfl⟩
    rw [hdi, ← hp] at hop
    have hp12 : p = 1 ∨ p = 2 := by omega
    have hdv : di < V.length := by omega
    obtain ⟨d, hd⟩ := zT hdv
    have hE2 := hE.next.next
    have hmay := may_A (G := X.G) N V m di d p [] U M hd hp12 (by decide)
    have hnl := no_loss (N := N) (d := d) (pr := []) (pos := p) M hdv
    have hml := M.l
    have htl := A.l
    have hmm : (m.map iv).length = m.length := by simp
    have htm : (t.map iv).length = t.length := by simp
    have hmq : (mayP N V m di d p []).length ≤ 1000 := by
      unfold mayP
      rw [tV]
      have := (hzG (q := m.getD di 0 == p) (L := (allP m).map fun s => inP N V s di d p []) (out := []) ⟨List.nodup_nil, fun x hx => by cases hx⟩ (fun hs hh x hx => by
        obtain ⟨s, _, rfl⟩ := List.mem_map.1 hh
        exact inP_in hx)).len
      omega
    obtain ⟨Y, hY⟩ : ∃ Y, Y = mayP N V m di d p [] := ⟨_, rfl⟩
    rw [← hY] at hmay hnl hmq
    have hhas := has_A (G := X.G) Y 3 (by unfold maxLen; omega)
    repeat (first | ((with_reducible refine zI ?_); refine zJ rfl ?_) | ((with_reducible refine zQ ?_); refine zZ tbOk rfl rfl rfl rfl (Nat.le_of_ble_eq_true rfl) ?_)  | refine zB rfl ?_ | with_reducible (first | refine zG ?_ | refine zH ?_ | refine zW ?_ | refine zR ?_) | ((with_reducible refine zA ?_ ?_); kernel_rfl))
    refine yg (y := .ag [.v (.int .i64 (di : Nat)), .v (.int .i64 p)]) (ss := [(27, v 27)]) (hop) (by repeat' (first | exact trivial | exact Ren.sl _ _ | exact Ren.ptr _ _ _ _ rfl | refine zp ?_ | refine ⟨?_, ?_⟩)) (by simp) (in1 rfl rfl) rfl (yx rfl) (by repeat' (first | exact trivial | exact RenB.v _ | refine eZ ?_ | refine ⟨?_, ?_⟩)) ?_
    repeat (first | ((with_reducible refine zI ?_); refine zJ rfl ?_) | ((with_reducible refine zQ ?_); refine zZ tbOk rfl rfl rfl rfl (Nat.le_of_ble_eq_true rfl) ?_) | ((with_reducible refine zz ?_); refine yN tbOk rfl rfl rfl rfl rfl rfl rfl (Nat.le_of_ble_eq_true rfl) rfl ?_) | ((with_reducible refine yw ?_); refine yu tbOk rfl rfl ?_) | ((with_reducible refine jX ?_); refine jh tbOk rfl rfl rfl rfl rfl ?_)  | refine zK ?_ | refine zB rfl ?_ | with_reducible (first | refine zG ?_ | refine zH ?_) | ((with_reducible refine zA ?_ ?_); kernel_rfl))
    refine zk (hmay) (by repeat' (first | exact trivial | exact Ren.v _ | exact Ren.sl _ _ | exact Ren.nil _ | refine zp ?_ | refine ⟨?_, ?_⟩)) (by repeat' (first | exact trivial | exact RenB.v _ | exact RenB.sl _ _ | refine yQ ?_ | refine ⟨?_, ?_⟩)) ?_
    repeat (first | ((with_reducible refine zI ?_); refine zJ rfl ?_) | ((with_reducible refine zE ?_); refine zF rfl ?_) | ((with_reducible refine yZ ?_); refine yX rfl rfl ?_) | ((with_reducible refine zP ?_); refine zV rfl rfl rfl ?_)  | refine zK ?_ | refine zB rfl ?_ | with_reducible (first | refine zG ?_ | refine zH ?_ | refine zR ?_) | ((with_reducible refine zA ?_ ?_); kernel_rfl) | refine zm rfl (by first | rfl | assumption) ?_)
    refine zk (hhas) (by repeat' (first | exact trivial | exact Ren.v _ | exact Ren.sl _ _ | refine ⟨?_, ?_⟩)) (by repeat' exact RenB.v _) ?_
    repeat (first   | refine zK ?_ | with_reducible refine zG ?_ )
    refine zh rfl (fun c => ?_) (fun c => ?_)
    · repeat (first | ((with_reducible refine zI ?_); refine zJ rfl ?_) | ((with_reducible refine zE ?_); refine zF rfl ?_) | ((with_reducible refine zP ?_); refine zX rfl rfl (by omega) ?_)  | refine zK ?_ | refine zB rfl ?_ | with_reducible (first | refine zG ?_ | refine zd ?_ | refine zw ?_) | ((with_reducible refine zb ?_ ?_); rfl) | ((with_reducible refine zA ?_ ?_); kernel_rfl))
      exact ⟨(k + 1, E.next.next, m, t), ⟨hlt, hE2, M, A⟩, by show 4 - (k + 1) < 4 - k; omega, ⟨rfl, rfl, rfl, rfl, rfl, rfl, trivial⟩, ⟨rfl, rfl, trivial⟩⟩
    have hno := hnl (fun h3 => by rw [bP.2 h3] at c; cases c)
    have hlo := lost_A (G := X.G) N V t (t.set di p) U (wG M A) (st_set hp12 (wG M A))
    rw [lost_none hno (lA A)] at hlo
    have hw2 := xH (G := X.G) N V (m.set di p) U (vW hp12 M)
    have hle : decide (cA N V (m.set di p) < cA N V m) = false := decide_eq_false (by have := wX U M hdv hp12 hno; omega)
    repeat (first | ((with_reducible refine zI ?_); refine zJ rfl ?_)  | refine zB rfl ?_ | with_reducible (first | refine zG ?_ | refine zH ?_ | refine zR ?_) | ((with_reducible refine zA ?_ ?_); kernel_rfl))
    with_reducible refine yB ?_
    refine gR tbOk rfl rfl rfl rfl rfl (by decide) rfl rfl rfl (nL t) (by simp only [List.length_map]; omega) ?_
    repeat (first | ((with_reducible refine zI ?_); refine zJ rfl ?_) | ((with_reducible refine zE ?_); refine zF rfl ?_) | ((with_reducible refine zO ?_); refine zL tbOk rfl rfl rfl rfl ?_) | ((with_reducible refine zQ ?_); refine zN tbOk rfl rfl rfl rfl rfl ?_)  | refine zK ?_ | refine zB rfl ?_ | with_reducible (first | refine zG ?_ | refine zH ?_) | ((with_reducible refine zA ?_ ?_); kernel_rfl))
    (with_reducible refine zU ?_); refine zq tbOk rfl rfl rfl rfl rfl rfl ⟨by omega, by rw [List.length_map]; omega⟩ ?_
    repeat (first   | refine zB rfl ?_  )
    (with_reducible refine zz ?_); refine jG (L' := (t.set (di : Int).toNat p).map iv) tbOk rfl rfl rfl rfl rfl rfl rfl rfl rfl (by rw [jP, List.length_map]; omega) (by simp) (je _) (aD _ _ _) ?_
    rw [Int.toNat_natCast]
    repeat (first  | refine zK ?_ | with_reducible (first | refine zG ?_ | refine zH ?_))
    refine gE (t := 15) (s := 79) rfl rfl ?_
    repeat (first | ((with_reducible refine zI ?_); refine zJ rfl ?_) | ((with_reducible refine zQ ?_); refine zZ tbOk rfl rfl rfl rfl (Nat.le_of_ble_eq_true rfl) ?_)  | refine zB rfl ?_  | ((with_reducible refine zA ?_ ?_); kernel_rfl))
    refine zk (hlo) (by repeat' (first | exact trivial | exact Ren.sl _ _ | refine zp ?_ | refine ⟨?_, ?_⟩)) (by repeat' (first | exact trivial | exact RenB.v _ | exact RenB.sl _ _ | refine yQ ?_ | refine ⟨?_, ?_⟩)) ?_
    repeat (first | ((with_reducible refine zI ?_); refine zJ rfl ?_) | ((with_reducible refine zE ?_); refine zF rfl ?_) | ((with_reducible refine yZ ?_); refine yX rfl rfl ?_)  | refine zK ?_ | refine zB rfl ?_ | with_reducible (first | refine zG ?_ | refine zH ?_) | ((with_reducible refine zA ?_ ?_); kernel_rfl))
    with_reducible refine yB ?_
    refine gR tbOk rfl rfl rfl rfl rfl (by decide) rfl rfl rfl (nL m) (by simp only [List.length_map]; omega) ?_
    repeat (first | ((with_reducible refine zI ?_); refine zJ rfl ?_) | ((with_reducible refine zE ?_); refine zF rfl ?_) | ((with_reducible refine zO ?_); refine zL tbOk rfl rfl rfl rfl ?_) | ((with_reducible refine zQ ?_); refine zN tbOk rfl rfl rfl rfl rfl ?_)  | refine zK ?_ | refine zB rfl ?_ | with_reducible (first | refine zG ?_ | refine zH ?_) | ((with_reducible refine zA ?_ ?_); kernel_rfl))
    (with_reducible refine zU ?_); refine zq tbOk rfl rfl rfl rfl rfl rfl ⟨by omega, by rw [List.length_map]; omega⟩ ?_
    repeat (first   | refine zB rfl ?_  )
    (with_reducible refine zz ?_); refine jG (L' := (m.set (di : Int).toNat p).map iv) tbOk rfl rfl rfl rfl rfl rfl rfl rfl rfl (by rw [jP, List.length_map]; omega) (by simp) (je _) (aD _ _ _) ?_
    rw [Int.toNat_natCast]
    repeat (first  | refine zK ?_ | with_reducible (first | refine zG ?_ | refine zH ?_))
    refine gE (t := 19) (s := 95) rfl rfl ?_
    repeat (first | ((with_reducible refine zI ?_); refine zJ rfl ?_) | ((with_reducible refine zQ ?_); refine zZ tbOk rfl rfl rfl rfl (Nat.le_of_ble_eq_true rfl) ?_)  | refine zB rfl ?_  | ((with_reducible refine zA ?_ ?_); kernel_rfl))
    refine zk (hw2) (by repeat' (first | exact trivial | exact Ren.sl _ _ | refine zp ?_ | refine ⟨?_, ?_⟩)) (by repeat' (first | exact trivial | exact RenB.v _ | refine yQ ?_ | refine ⟨?_, ?_⟩)) ?_
    repeat (first | ((with_reducible refine zI ?_); refine zJ rfl ?_) | ((with_reducible refine zE ?_); refine zF rfl ?_) | ((with_reducible refine yZ ?_); refine yX rfl rfl ?_) | ((with_reducible refine zt ?_); refine yL rfl (by first | rfl | assumption) rfl ?_) | ((with_reducible refine yB ?_); refine yj tbOk rfl rfl ?_) | ((with_reducible refine zP ?_); (first | refine zX rfl rfl (by omega) ?_ | refine zV rfl rfl rfl ?_))  | refine zK ?_ | refine zB rfl ?_ | refine yr rfl rfl (by first | rfl | assumption) ?_ | with_reducible (first | refine zG ?_ | refine ze ?_ | refine zH ?_ | refine zR ?_) | ((with_reducible refine zA ?_ ?_); kernel_rfl) | refine zm rfl (by first | rfl | assumption) ?_)
    exact ⟨(k + 1, E.next.next, m.set di p, t.set di p), ⟨hlt, hE2, vW hp12 M, agr_next hp12 A⟩, by show 4 - (k + 1) < 4 - k; omega, ⟨rfl, rfl, rfl, rfl, rfl, rfl, trivial⟩, ⟨rfl, rfl, trivial⟩⟩
  · repeat (first   | refine zB rfl ?_ | with_reducible (first | refine zG ?_ | refine zd ?_ | refine zH ?_ | refine zw ?_) | ((with_reducible refine zb ?_ ?_); rfl) | ((with_reducible refine zA ?_ ?_); kernel_rfl))
    refine zk (xP hG0 hG1) (by repeat' exact trivial) (by repeat' exact RenB.v _) ?_
    repeat (first | ((with_reducible refine zE ?_); refine zF rfl ?_)  | refine zK ?_ | refine zB rfl ?_ | with_reducible (first | refine zG ?_ | refine zS ?_) )
    refine yC (by first | exact .inr rfl | exact .inl rfl) rfl rfl ?_
    rfl
end Go.Proofs.YtnafokinifbfhaaGreatDoor
