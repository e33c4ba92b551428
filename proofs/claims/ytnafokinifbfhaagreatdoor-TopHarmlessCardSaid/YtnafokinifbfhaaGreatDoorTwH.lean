/- first() is true, its second part, and the whole as a call in the walks' machine; conditions: the table of positions and that of classes hold what they were laid with / first() as a call in a walk; conditions: the table of positions and that of classes stand / permitofficetop.TopHarmless, by the abstract machine: for every list of numbers it answers true; conditions: the tables of positions and of classes stand. -/
import Derived.Test.YtnafokinifbfhaaGreatDoorCxYb
import Derived.Test.YtnafokinifbfhaaGreatDoorAbsH
import Derived.Test.YtnafokinifbfhaaGreatDoorRcD
import Derived.Test.YtnafokinifbfhaaGreatDoorNwA
import Derived.Test.YtnafokinifbfhaaGreatDoorNwB
import Derived.Test.YtnafokinifbfhaaGreatDoorZg
set_option linter.unusedVariables false
set_option linter.unusedSimpArgs false
namespace Go.Proofs.YtnafokinifbfhaaGreatDoor.Cx
open Go Go.RowKit
section
variable {P : Program} {TB : Tabs} {tb : Tb} (hT : TbOk P TB tb)
theorem exec_seq {f : Nat} {a b : Code} {s s' : CS} (h : exec tb f (.seq a b) s = some (.normal, s')) : ∃ f' s1, exec tb f' a s = some (.normal, s1) ∧ exec tb f' b s1 = some (.normal, s') := by
  cases f with
  | zero => cases h
  | succ f =>
    change mR (exec tb f b) (exec tb f a s) = some (.normal, s') at h
    unfold mR at h
    split at h
    · rename_i s1 hr; exact ⟨f, s1, hr, h⟩
    · rename_i hne; exact absurd h (hne s')
include hT
theorem pZ {n : Nat} {X : Ctx} {c2 : Code} {Q : Exit → Act → World → Prop} {s : CS} (hQ : ∀ ρ' a' w', Rel X n () ρ' (stOf s.T s.H) a' w' → c2.wp P Q a' w') : ∀ (l : List Code) (f : Nat) (s0 : CS), exec tb f (l.foldr .seq .skip) s0 = some (.normal, s) → (∀ c ∈ l, dstC n c = true) → ∀ ρ a w, Rel X n () ρ (stOf s0.T s0.H) a w → (l.foldr .seq c2).wp P Q a w
  | [], f, s0, h, hd, ρ, a, w, hR => by
    cases f with
    | zero => cases h
    | succ f =>
      injection h with h
      injection h with _ h
      subst h
      exact hQ ρ a w hR
  | c :: l, f, s0, h, hd, ρ, a, w, hR => by
    obtain ⟨f', s1, h1, h2⟩ := exec_seq h
    have hok := tQ hT f' n c s0 .normal s1 h1 (hd c (by simp))
    obtain ⟨m, r⟩ := hok.run
    refine wp_seq (aV (r X (hg s0.H) (fun _ _ => rfl) (Exit.then ((l.foldr .seq c2).wp P Q) Q) (fun ρ' a' w' hR' => ?_) ρ a w hR))
    have ov : ovr s1.W (hg s1.H) (hg s0.H) = hg s1.H := by
      funext q
      by_cases hq : Bt s1.W q
      · exact bA hq
      · rw [jv hq, hok.cov q hq]
    rw [ov] at hR'
    exact pZ hQ l f' s1 h2 (fun c hc => hd c (by simp [hc])) ρ' a' w' hR'
end
theorem bodyF_eq : Tryz.f7.body = some (partA.foldr .seq partB) := rfl
theorem dstA : partA.all (dstC Tryz.f7.ntmps) = true := by kernel_rfl
theorem dstB : dstC Tryz.f7.ntmps partB = true := by kernel_rfl
theorem resF1 : Tryz.f7.results = #[.tmp 0] := rfl
theorem H0_get (q : Nat) : hg H0 q = if q = 0 then CO.ro posV else if q = 1 then CO.ro clsV else CO.none := by
  show Tr.get CO.none H0 q = _
  unfold H0
  rw [jQ]
  by_cases h0 : q = 0
  · subst h0; rfl
  · rw [zV h0, if_neg h0, cond_false]
    by_cases ho : q % 2 = 1
    · rw [ho]
      show Tr.get CO.none (Tr.node Tr.nil (CO.ro clsV) Tr.nil) (q / 2) = _
      rw [jQ]
      by_cases h1 : q / 2 = 0
      · rw [if_pos (by omega), h1]; rfl
      · rw [zV h1, if_neg (by omega), cond_false, gD, gD]; cases Nat.beq (q / 2 % 2) 1 <;> rfl
    · rw [zV ho, cond_false, gD, if_neg (by omega)]
/-- first() is true, whatever the world, if the two tables stand. -/
theorem first_calls (w : World) (h0 : ∃ t fr, w.heap[0]? = some (.cells ⟨posV⟩ t fr)) (h1 : ∃ t fr, w.heap[1]? = some (.cells ⟨clsV⟩ t fr)) :
    Calls Tryz.prog 7 ⟨[]⟩ w fun e w' => e = .returned (.bool true) ∧ w'.os = w.os ∧ w'.tape = w.tape ∧ w'.output = w.output ∧ w.heap.size ≤ w'.heap.size ∧ ∀ g, g < w.heap.size → w'.heap[g]? = w.heap[g]? := by
  have hs1 : 1 < w.heap.size := by obtain ⟨t, fr, h⟩ := h1; exact (Array.getElem?_eq_some_iff.1 h).1
  refine calls_of_wp Tryz.func7 bodyF_eq ?_
  have hA := runA
  unfold gcO at hA
  split at hA
  · rename_i s hs
    injection hA with hA
    cases hB : exec xt 100000 partB s1 with
    | none => have := runB; rw [hB] at this; cases this
    | some p =>
      obtain ⟨e, s2⟩ := p
      have hb := runB
      rw [hB] at hb
      cases e with
      | ret =>
        have hb : (match s2.T.get (.v undef) 0 with | .v (.bool b) => b | _ => false) = true := hb
        have hT0 : tg s2.T 0 = .v (.bool true) := by
          show s2.T.get (.v undef) 0 = _
          split at hb
          · rename_i b hv; rw [hv, hb]
          · cases hb
        have hR0 : Rel ⟨w, fun _ => none⟩ Tryz.f7.ntmps () (fun _ => none) (stOf s0.T s0.H) { tmps := (⟨[]⟩ : Array Value) ++ Array.replicate (Tryz.f7.ntmps - (⟨[]⟩ : Array Value).size) undef, defers := [] } w := by
          refine ⟨⟨fun q => ?_, fun q1 q2 g b z b' z' l1 l2 r1 r2 => (by cases r1), fun q hq => rfl, fun q y e => (by cases e), rfl, rfl, rfl, Nat.le_refl _, fun _ _ => rfl⟩, by simp, fun i => ?_, rfl⟩
          · show Desc _ _ w q (hg H0 q)
            rw [H0_get]
            by_cases e0 : q = 0
            · rw [if_pos e0]; subst e0; exact ⟨by show 0 < w.heap.size; omega, h0⟩
            · rw [if_neg e0]
              by_cases e1 : q = 1
              · rw [if_pos e1]; subst e1; exact ⟨hs1, h1⟩
              · rw [if_neg e1]; trivial
          · show Rep _ (.v undef) _
            have : ((⟨[]⟩ : Array Value) ++ Array.replicate (Tryz.f7.ntmps - (⟨[]⟩ : Array Value).size) undef).getD i undef = undef := by
              rw [Array.getD_eq_getD_getElem?, Array.getElem?_append_right (by simp)]
              simp [Array.getElem?_replicate]
              split <;> rfl
            rw [this]
            exact .v undef
        refine pZ xtOk (fun ρ' a' w' hR' => ?_) partA 100000 s0 hs (fun c hc => List.all_eq_true.1 dstA c hc) _ _ w hR0
        have hG := Rel.gc (kT := keepT) (kH := keepH) (s := s) hR'
        rw [hA] at hG
        have hok := tQ xtOk 100000 _ partB s1 .ret s2 hB dstB
        obtain ⟨m, r⟩ := hok.run
        refine aV (r ⟨w, fun _ => none⟩ (hg s1.H) (fun _ _ => rfl) _ (fun ρ2 a2 w2 hR2 => ?_) ρ' a' w' hG)
        have h2 := hR2.tm 0
        rw [show (⟨tg s2.T, ovr s2.W (hg s2.H) (hg s1.H)⟩ : AS).T 0 = .v (.bool true) from hT0] at h2
        refine ⟨hR2.df, .bool true, ?_, rfl, hR2.os, hR2.tape, hR2.output, hR2.size, hR2.frame⟩
        have h3 := h2.v_inv
        unfold results
        rw [resF1]
        simp
        simpa using h3
      | _ => cases hb
  · cases hA
end Go.Proofs.YtnafokinifbfhaaGreatDoor.Cx
namespace Go.Proofs.YtnafokinifbfhaaGreatDoor
open Go Go.RowKit
variable {G : Nat → Option (List Value)}
theorem nE (h0 : G 0 = some Cx.posV) (h1 : G 1 = some Cx.clsV) : zJ Tryz.prog G 7 [] [] (.v (.bool true)) [] := by
  refine ⟨zA Tryz.func7 (by kernel_rfl) rfl, fun M w gs vs hl hG hn hr hv ha => ?_⟩
  obtain rfl : vs = [] := List.length_eq_zero_iff.1 hv
  obtain rfl : gs = [] := List.length_eq_zero_iff.1 hr.len
  refine (Cx.first_calls w (hl 0 _ (hG 0 _ h0)) (hl 1 _ (hG 1 _ h1))).mono ?_
  rintro e w' ⟨he, h2, h3, h4, h5, h6⟩
  refine ⟨.bool true, M, [], he, fun _ _ h => h, fun g arr h => ?_, h2, h3, h4, h5, fun g hg _ => h6 g hg, fun _ _ h => h, by simp, by simp, ⟨rfl, by simp⟩, .v _ _⟩
  obtain ⟨t, fr, hh⟩ := hl g arr h
  exact ⟨t, fr, (h6 g (Array.getElem?_eq_some_iff.1 hh).1).trans hh⟩
end Go.Proofs.YtnafokinifbfhaaGreatDoor
namespace Go.Proofs.YtnafokinifbfhaaGreatDoor
open Go Go.RowKit
set_option maxRecDepth 10000
variable {G : Nat → Option (List Value)}
theorem nwH6 {D : Dk} (h : DkOk D) (hG : GCls G) (hP : GPos G) : NwU G (net1 D 6).1 (net5 D 6 9).1 ∧ 0 < (net5 D 6 9).1.length ∧ ∀ d ∈ (net5 D 6 9).1, 1 ≤ d.k ∧ d.k ≤ 6 := by
  have hk := dG D (nodes := 6) (by decide) (by decide)
  have hN : (net1 D 6).1.length = netK D 6 := aK _ _
  have hv := uK h 9 (nodes := 6) (by decide) (by decide)
  have hp := net5_pos D 6 (m := 9) (by decide)
  have hK : netK D 6 ≤ 32 := by
    have := D.in_ (n := max 1 (6 - 1)) (by omega) (by omega)
    omega
  refine ⟨⟨hG, hP, by omega, by have := hv.len; omega, fun x hx => ?_, fun x hx => ?_, net_valid h (by decide) (by decide) (by decide), fun d hd => ?_, fun x hx => ?_⟩, hp, fun d hd => ?_⟩
  · obtain ⟨j, hj⟩ := List.getElem?_of_mem hx
    rw [(fQ _ _ j x hj).1, wU]; decide
  · obtain ⟨j, hj⟩ := List.getElem?_of_mem hx
    rw [(hv.at_ j x hj).nm, wU]; decide
  · obtain ⟨j, hj⟩ := List.getElem?_of_mem hd
    rw [hN]; exact (hv.at_ j d hj).ends
  · obtain ⟨j, hj⟩ := List.getElem?_of_mem hx
    have := fQ _ _ j x hj
    omega
  · obtain ⟨j, hj⟩ := List.getElem?_of_mem hd
    exact (hv.at_ j d hj).k1
/-- What an operation does that only loses customers. -/
theorem harm_plain {N : List Nd} {V : List Dv} {m t : List Int} {i : Nat} {d : Dv} {p : Int} {pr : List Int} (U : NwU G N V) (M : MkOk V m) (A : Agr m t) (hd : V[i]? = some d) (hp : p = 1 ∨ p = 2) (hs : ((mayP N V m i d p pr).any fun x => !hasI [3, 7] x) = false) :
    (∀ v ∈ fltP N V (t.set i p), v ∈ fltP N V t) ∧ (jZ N V t (t.set i p) ≠ [] → ¬ d.k = 3 ∧ ∃ w, (allP m).find? (fun s => hasI (inP N V s i d p pr) 3) = some w ∧ w ∈ allP m ∧ jZ N V w (w.set i p) ≠ []) := by
  have hi := zM hd
  have ht := agr_all A
  have S := lU M t ht
  have hno : ∀ h : Int, h ∈ inP N V t i d p pr → h = 3 ∨ h = 7 := fun h hh => by
    by_cases h7 : h = 7
    · exact .inr h7
    · have hm : h ∈ mayP N V m i d p pr := mayP_mem.2 ⟨t, ht, hh, .inl h7⟩
      rw [List.any_eq_false] at hs
      have := hs h hm
      left
      unfold hasI at this
      simp at this
      omega
  have hil : i < t.length := by rw [S.l]; exact hi
  refine ⟨fun v hv => ?_, fun hl => ?_⟩
  · unfold fltP at hv ⊢
    rw [mD] at hv ⊢
    obtain ⟨k, h1, h2, h3⟩ := hv
    refine ⟨k, h1, h2, safe_fault U.ends hd hil S.p hp ?_ h1 h3⟩
    by_cases e : t.getD i 0 = p
    · exact .inl e
    · right
      cases hq : ((p == 2) && (ofP N V t i d == 4)) with
      | false => rfl
      | true =>
        have h1 : (1 : Int) ∈ inP N V t i d p pr := by
          unfold inP
          rw [iN, tP e, hq]
          simp
        have := hno 1 h1
        omega
  · have e : ¬ t.getD i 0 = p := fun e => by
      obtain ⟨y, hy⟩ := zB hil
      rw [getD_some hy] at e
      rw [e] at hy
      exact hl (by rw [pX hy]; exact vT.2 fun _ h => h)
    refine ⟨fun hk => ?_, ?_⟩
    · refine hl (disc_loss U.ends hd hk hil S.p hp ?_ e)
      cases hq : badP N V t d p (ofP N V t i d) with
      | false => rfl
      | true =>
        have h1 : (2 : Int) ∈ inP N V t i d p pr := by
          unfold inP
          rw [iN, tP e, hq]
          simp
        have := hno 2 h1
        omega
    · have h3 : (3 : Int) ∈ inP N V t i d p pr := loss_in.2 ⟨e, hl⟩
      have hsome : ((allP m).find? (fun s => hasI (inP N V s i d p pr) 3)).isSome = true := by
        rw [List.find?_isSome]
        exact ⟨t, ht, qg.2 h3⟩
      obtain ⟨w, hw⟩ := Option.isSome_iff_exists.1 hsome
      refine ⟨w, hw, List.mem_of_find?_eq_some hw, ?_⟩
      have := List.find?_some hw
      exact (loss_in.1 (qg.1 this)).2
set_option maxHeartbeats 16000000 in
theorem harmL_A (l : List Int) (hG0 : G 0 = some Cx.posV) (hG1 : G 1 = some Cx.clsV) (hG : GCls G) : zJ Tryz.prog G 4 [.sl 1 (l.map iv)] [] (.v (.bool true)) [] := by
  refine zE tbOk (zA Tryz.func4 (by kernel_rfl) rfl) Tryz.func4 rfl _ Tryz.ntmps4 (Nat.le_of_ble_eq_true rfl) fun X hX => ?_
  subst hX
  refine zg1 ?_
  refine zG (few_A (l.map iv)) (by repeat' (first | exact trivial | exact Ren.sl _ _ | refine ⟨?_, ?_⟩)) (by repeat' exact RenB.v _) ?_
  refine zg5 ?_
  refine zF rfl (fun h => ?_) (fun h => ?_)
  · refine zg11 ?_
    refine zG (nE hG0 hG1) (by repeat' exact trivial) (by repeat' exact RenB.v _) ?_
    refine zg5 ?_
    refine zL (by first | exact .inr rfl | exact .inl rfl) rfl rfl ?_
    rfl
  have hl : l.length ≤ 400 := by simp at h; omega
  have dk := DkOk.new hl
  obtain ⟨U, v0, hK⟩ := nwH6 (G := X.G) dk hG hG0
  have hnet := network_A (G := X.G) (dk0 l) 6 9 dk (by decide) (by decide) (by decide)
  have hd1 := (uK dk 9 (nodes := 6) (by decide) (by decide)).dk
  obtain ⟨N, hN⟩ : ∃ N, N = (net1 (dk0 l) 6).1 := ⟨_, rfl⟩
  obtain ⟨V, hV⟩ : ∃ V, V = (net5 (dk0 l) 6 9).1 := ⟨_, rfl⟩
  obtain ⟨D1, hD1⟩ : ∃ E, E = (net5 (dk0 l) 6 9).2 := ⟨_, rfl⟩
  rw [← hN, ← hV, ← hD1] at hnet
  rw [← hN, ← hV] at U
  rw [← hV] at v0 hK
  rw [← hD1] at hd1
  have hvle := U.v
  have hnle := U.n
  have hmk := masks_A (G := X.G) N V 5 D1 hd1 v0 hvle (by decide)
  obtain ⟨hd2, M⟩ := mskP_ok (V := V) (k := 5) hd1 (by decide)
  obtain ⟨⟨D2, m⟩, hq2⟩ : ∃ q, q = mskP V 5 D1 := ⟨_, rfl⟩
  rw [← hq2] at hmk hd2 M
  dsimp only at hmk hd2 M
  have hwi := within_A (G := X.G) m D2 hd2 (by rw [M.l]; exact hvle)
  obtain ⟨hd3, A⟩ := witP_ok hd2 M.p
  obtain ⟨⟨D3, t⟩, hq3⟩ : ∃ q, q = witP m D2 := ⟨_, rfl⟩
  rw [← hq3] at hwi hd3 A
  dsimp only at hwi hd3 A
  have hop := mop_A (G := X.G) N V D3 hd3 hvle
  have hin := D3.in_ (n := (V.length : Nat)) (by omega) (by omega)
  have hin2 := D3.next.in_ (n := 2) (by decide) (by decide)
  obtain ⟨di, hdi⟩ := Int.eq_ofNat_of_zero_le hin.1
  obtain ⟨p, hp⟩ : ∃ p, p = 1 + D3.next.val 2 := ⟨_, rfl⟩
  rw [hdi, ← hp] at hop
  have hp12 : p = 1 ∨ p = 2 := by omega
  have hdv : di < V.length := by omega
  obtain ⟨d, hd⟩ := zB hdv
  have hall := all_A (G := X.G) N V hnle
  have hal := uT N.length
  obtain ⟨pr, hpr⟩ : ∃ pr, pr = allN N.length := ⟨_, rfl⟩
  rw [← hpr] at hall hal
  have hsafe := safe_A (G := X.G) N V m di d p pr [3, 7] U M hd hp12 (by omega) (by decide)
  have hml := M.l
  have htl := A.l
  have S := lU M t (agr_all A)
  have S2 := xQ (d := di) hp12 S
  have hlaw := harm_plain (pr := pr) U M A hd hp12
  obtain ⟨bad, hbad⟩ : ∃ b, b = (mayP N V m di d p pr).any fun x => !hasI [3, 7] x := ⟨_, rfl⟩
  rw [← hbad] at hsafe hlaw
  refine zg0 ?_
  refine x_call_new (new_A l) (by repeat' (first | exact trivial | exact Ren.sl _ _ | refine ⟨?_, ?_⟩)) ⟨.sl _ _, .v _, .v _, trivial⟩ rfl ?_
  refine zg1 ?_
  refine zy (y := .ag [.sl 3 (N.map Nd.av), .sl 5 (V.map Dv.av)]) (ss := [(32, 1)]) (hnet) (by repeat' (first | exact trivial | exact Ren.v _ | exact Ren.ptr _ _ _ _ rfl | refine ⟨?_, ?_⟩)) (by simp) (in1 rfl rfl) rfl (yP rfl) (by repeat' (first | exact trivial | exact RenB.sl _ _ | refine gB ?_ | refine ⟨?_, ?_⟩)) ?_
  refine zg4 ?_
  refine zy (ss := [(32, 1)]) (hmk) (by repeat' (first | exact trivial | exact Ren.v _ | exact Ren.sl _ _ | exact Ren.ptr _ _ _ _ rfl | refine zO ?_ | refine ⟨?_, ?_⟩)) (by simp) (in1 rfl rfl) rfl (yP rfl) (by repeat' exact RenB.sl _ _) ?_
  refine zg1 ?_
  refine zy (ss := [(32, 1)]) (hwi) (by repeat' (first | exact trivial | exact Ren.sl _ _ | exact Ren.ptr _ _ _ _ rfl | refine ⟨?_, ?_⟩)) (by simp) (in1 rfl rfl) rfl (yP rfl) (by repeat' exact RenB.sl _ _) ?_
  refine zg0 ?_
  refine zy (y := .ag [.v (.int .i64 (di : Nat)), .v (.int .i64 p)]) (ss := [(32, 1)]) (hop) (by repeat' (first | exact trivial | exact Ren.sl _ _ | exact Ren.ptr _ _ _ _ rfl | refine zO ?_ | refine ⟨?_, ?_⟩)) (by simp) (in1 rfl rfl) rfl (yP rfl) (by repeat' (first | exact trivial | exact RenB.v _ | refine gB ?_ | refine ⟨?_, ?_⟩)) ?_
  refine zg4 ?_
  refine zG (hall) (by repeat' (first | exact trivial | exact Ren.sl _ _ | refine zO ?_ | refine ⟨?_, ?_⟩)) (by repeat' exact RenB.sl _ _) ?_
  refine zg4 ?_
  refine zG (hsafe) (by repeat' (first | exact trivial | exact Ren.v _ | exact Ren.sl _ _ | exact Ren.nil _ | refine zO ?_ | refine ⟨?_, ?_⟩)) (by repeat' (first | exact trivial | exact RenB.v _ | refine zZ ?_ | refine ⟨?_, ?_⟩)) ?_
  cases bad with
  | true =>
    refine zg12 ?_
    refine zG (nE hG0 hG1) (by repeat' exact trivial) (by repeat' exact RenB.v _) ?_
    refine zg5 ?_
    refine zL (by first | exact .inr rfl | exact .inl rfl) rfl rfl ?_
    rfl
  | false =>
    obtain ⟨hf, hlo⟩ := hlaw rfl
    have hmm : (m.map iv).length = m.length := by simp
    have htm : (t.map iv).length = t.length := by simp
    have hrf := rfaults_A (G := X.G) N V t U S hK
    have hcf := cfaults_A (G := X.G) N V (t.set di p) U S2
    have hfl1 := cA (zd N V t) N.length
    have hfl2 := cA (zd N V (t.set di p)) N.length
    have hlost := lost_A (G := X.G) N V t (t.set di p) U S S2
    have hy : (V.map Dv.av)[di]? = some d.av := gM hd
    have hvl : (V.map Dv.av).length = V.length := by simp
    obtain ⟨Fb, hFb⟩ : ∃ F, F = fltP N V t := ⟨_, rfl⟩
    obtain ⟨Fa, hFa⟩ : ∃ F, F = fltP N V (t.set di p) := ⟨_, rfl⟩
    have hfl1 : Fb.length ≤ N.length := by rw [hFb]; exact hfl1
    have hfl2 : Fa.length ≤ N.length := by rw [hFa]; exact hfl2
    rw [← hFb] at hrf hf
    rw [← hFa] at hcf hf
    have hFm : (Fa.map iv).length = Fa.length := by simp
    refine zg12 ?_
    with_reducible refine yV ?_
    refine kC tbOk rfl rfl rfl rfl rfl (by decide) rfl rfl rfl (oY t) (by simp only [List.length_map]; omega) ?_
    refine zg6 ?_
    (with_reducible refine zH ?_); refine zK tbOk rfl rfl rfl rfl rfl rfl ⟨by omega, by rw [List.length_map]; omega⟩ ?_
    refine zg1 ?_
    (with_reducible refine zt ?_); refine zz (L' := (t.set (di : Int).toNat p).map iv) tbOk rfl rfl rfl rfl rfl rfl rfl rfl rfl (by rw [yS, List.length_map]; omega) (by simp) (yY _) (jt _ _ _) ?_
    rw [Int.toNat_natCast]
    repeat (first | fail | refine yh ?_ | with_reducible (first | refine zw ?_ | refine zp ?_))
    refine gV (t := 11) (s := 62) rfl rfl ?_
    refine zg11 ?_
    refine zG (hrf) (by repeat' (first | exact trivial | exact Ren.sl _ _ | refine zO ?_ | refine ⟨?_, ?_⟩)) (by repeat' (first | exact trivial | exact RenB.v _ | exact RenB.sl _ _ | refine zZ ?_ | refine ⟨?_, ?_⟩)) ?_
    refine zg12 ?_
    refine zG (hcf) (by repeat' (first | exact trivial | exact Ren.sl _ _ | refine zO ?_ | refine ⟨?_, ?_⟩)) (by repeat' (first | exact trivial | exact RenB.v _ | exact RenB.sl _ _ | refine zZ ?_ | refine ⟨?_, ?_⟩)) ?_
    refine zg13 ?_
    refine zQ (ι := Nat) (fun k => k ≤ Fa.length) (fun k => Fa.length - k) (fun v k => [(4, .ptr 4 (v 4) 0), (5, .sl 1 (m.map iv)), (6, .sl 1 (t.map iv)), (7, .ptr 7 (v 7) 0), (8, .ptr 8 (v 8) 0), (11, .sl 1 ((t.set di p).map iv)), (12, .sl 1 (Fb.map iv)), (15, .v (.int .i64 0)), (81, .sl 1 (Fa.map iv)), (82, .v (.int .i64 (Fa.map iv).length)), (83, .v (.int .i64 (k : Nat)))]) (fun v k => [(4, .box [.sl 3 (N.map Nd.av), .sl 5 (V.map Dv.av)]), (7, .box [.v (.int .i64 (di : Nat)), .v (.int .i64 p)]), (8, .box [.v (.int .i64 0), .v (.slice none 0 0), .sl 1 (pr.map iv)])]) ?_ ?_
    · exact ⟨0, Nat.zero_le _, trivial, ⟨rfl, rfl, rfl, rfl, rfl, rfl, rfl, rfl, rfl, rfl, rfl, trivial⟩, ⟨rfl, rfl, rfl, trivial⟩⟩
    rintro v k hk
    refine zg1 ?_
    refine zF rfl (fun h => ?_) (fun h => ?_)
    · have hlt : k < Fa.length := by simpa using h
      obtain ⟨x, hx⟩ := zB hlt
      have hyx := qA hx
      have hin := has_A (G := X.G) Fb x (by unfold maxLen; omega)
      rw [qg.2 (hf x (List.mem_of_getElem? hx))] at hin
      refine zg3 ?_
      refine zG (hin) (by repeat' (first | exact trivial | exact Ren.v _ | exact Ren.sl _ _ | refine ⟨?_, ?_⟩)) (by repeat' exact RenB.v _) ?_
      refine zg10 ?_
      exact ⟨k + 1, hlt, by omega, ⟨rfl, rfl, rfl, rfl, rfl, rfl, rfl, rfl, rfl, rfl, rfl, trivial⟩, ⟨rfl, rfl, rfl, trivial⟩⟩
    clear h hk
    rcases Classical.em (jZ N V t (t.set di p) = []) with hnil | hnil
    · have hrl := rlocks_A (G := X.G) N V [] U.nn U.vn (by unfold maxLen; omega) (by unfold maxLen; omega)
      have e0 : lksE N V [] = 0 := by unfold lksE; rw [if_neg (by simpa using U.e), if_neg (by decide)]; rfl
      rw [e0] at hrl
      rw [hnil] at hlost
      refine zg13 ?_
      refine zG (hlost) (by repeat' (first | exact trivial | exact Ren.sl _ _ | refine zO ?_ | refine ⟨?_, ?_⟩)) (by repeat' (first | exact trivial | exact RenB.v _ | exact RenB.sl _ _ | refine zZ ?_ | refine ⟨?_, ?_⟩)) ?_
      refine zg15 ?_
      refine zG (hrl) (by repeat' (first | exact trivial | exact Ren.sl _ _ | exact Ren.nil _ | refine zO ?_ | refine ⟨?_, ?_⟩)) (by repeat' exact RenB.v _) ?_
      refine zg15 ?_
      refine zG (nE hG0 hG1) (by repeat' exact trivial) (by repeat' exact RenB.v _) ?_
      refine zg5 ?_
      refine zL (by first | exact .inr rfl | exact .inl rfl) rfl rfl ?_
      rfl
    · obtain ⟨hk3, w, hw, hwa, hwl⟩ := hlo hnil
      have Aw := all_agr M hwa
      have Sw := lU M w hwa
      have hwit := wit_A (G := X.G) N V m di d p 3 pr w U M hd hp12 (by omega) hw
      have hagr := ragree_A (G := X.G) m w (by omega) M.p Aw
      have haft := after_A (G := X.G) w di p (by rw [Sw.l]; exact hdv) (by rw [Sw.l]; exact hvle)
      have hrl := rlost_A (G := X.G) N V w (w.set di p) U Sw (xQ hp12 Sw) hK
      have b1 : decide ((((jZ N V t (t.set di p)).map iv).length : Int) > 0) = true := decide_eq_true (by have := List.length_pos_iff.2 hnil; rw [List.length_map]; omega)
      have b2 : decide ((((jZ N V w (w.set di p)).map iv).length : Int) > 0) = true := decide_eq_true (by have := List.length_pos_iff.2 hwl; rw [List.length_map]; omega)
      have b3 : (d.k == 3) = false := by simpa using hk3
      refine zg13 ?_
      refine zG (hlost) (by repeat' (first | exact trivial | exact Ren.sl _ _ | refine zO ?_ | refine ⟨?_, ?_⟩)) (by repeat' (first | exact trivial | exact RenB.v _ | exact RenB.sl _ _ | refine zZ ?_ | refine ⟨?_, ?_⟩)) ?_
      refine zg12 ?_
      refine zG (hwit) (by repeat' (first | exact trivial | exact Ren.v _ | exact Ren.sl _ _ | exact Ren.nil _ | refine zO ?_ | refine ⟨?_, ?_⟩)) (by repeat' (first | exact trivial | exact RenB.v _ | exact RenB.sl _ _ | refine zZ ?_ | refine ⟨?_, ?_⟩)) ?_
      refine zg4 ?_
      refine zG (hagr) (by repeat' (first | exact trivial | exact Ren.sl _ _ | refine ⟨?_, ?_⟩)) (by repeat' exact RenB.v _) ?_
      refine zg15 ?_
      refine zG (haft) (by repeat' (first | exact trivial | exact Ren.sl _ _ | refine ⟨?_, ?_⟩)) (by repeat' exact RenB.sl _ _) ?_
      refine zg1 ?_
      refine zG (hrl) (by repeat' (first | exact trivial | exact Ren.sl _ _ | refine zO ?_ | refine ⟨?_, ?_⟩)) (by repeat' (first | exact trivial | exact RenB.v _ | exact RenB.sl _ _ | refine zZ ?_ | refine ⟨?_, ?_⟩)) ?_
      refine zg15 ?_
      refine zG (nE hG0 hG1) (by repeat' exact trivial) (by repeat' exact RenB.v _) ?_
      refine zg5 ?_
      refine zL (by first | exact .inr rfl | exact .inl rfl) rfl rfl ?_
      rfl
end Go.Proofs.YtnafokinifbfhaaGreatDoor
