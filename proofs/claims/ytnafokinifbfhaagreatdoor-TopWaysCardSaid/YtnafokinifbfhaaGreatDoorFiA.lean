/- first() is true, its second part, and the whole as a call in the walks' machine; conditions: the table of positions and that of classes hold what they were laid with / first() as a call in a walk; conditions: the table of positions and that of classes stand. -/
import Derived.Test.YtnafokinifbfhaaGreatDoorCxYb
import Derived.Test.YtnafokinifbfhaaGreatDoorAbsH
set_option linter.unusedVariables false
set_option linter.unusedSimpArgs false
namespace Go.Proofs.YtnafokinifbfhaaGreatDoor.Cx
open Go Go.RowKit
section
variable {P : Program} {TB : Tabs} {tb : Tb} (hT : TbOk P TB tb)
theorem exec_seq {f : Nat} {a b : Code} {s s' : CS} (h : exec tb f (.seq a b) s = some (.normal, s')) : ∃ f' s1, exec tb f' a s = some (.normal, s1) ∧ exec tb f' b s1 = some (.normal, s') := by
  cases f with
  | zero => cases h
  | succ f =>
    change iO (exec tb f b) (exec tb f a s) = some (.normal, s') at h
    unfold iO at h
    split at h
    · rename_i s1 hr; exact ⟨f, s1, hr, h⟩
    · rename_i hne; exact absurd h (hne s')
include hT
theorem lR {n : Nat} {X : Ctx} {c2 : Code} {Q : Exit → Act → World → Prop} {s : CS} (hQ : ∀ ρ' a' w', Rel X n () ρ' (stOf s.T s.H) a' w' → c2.wp P Q a' w') : ∀ (l : List Code) (f : Nat) (s0 : CS), exec tb f (l.foldr .seq .skip) s0 = some (.normal, s) → (∀ c ∈ l, dstC n c = true) → ∀ ρ a w, Rel X n () ρ (stOf s0.T s0.H) a w → (l.foldr .seq c2).wp P Q a w
  | [], f, s0, h, hd, ρ, a, w, hR => by
    cases f with
    | zero => cases h
    | succ f =>
      injection h with h
      injection h with _ h
      subst h
      exact hQ ρ a w hR
  | c :: l, f, s0, h, hd, ρ, a, w, hR => by
    obtain ⟨f', s1, h1, h2⟩ := exec_seq h
    have hok := pG hT f' n c s0 .normal s1 h1 (hd c (by simp))
    obtain ⟨m, r⟩ := hok.run
    refine wp_seq (aF (r X (hg s0.H) (fun _ _ => rfl) (Exit.then ((l.foldr .seq c2).wp P Q) Q) (fun ρ' a' w' hR' => ?_) ρ a w hR))
    have ov : ovr s1.W (hg s1.H) (hg s0.H) = hg s1.H := by
      funext q
      by_cases hq : Bt s1.W q
      · exact qw hq
      · rw [jt hq, hok.cov q hq]
    rw [ov] at hR'
    exact lR hQ l f' s1 h2 (fun c hc => hd c (by simp [hc])) ρ' a' w' hR'
end
theorem bodyF_eq : Tryz.f7.body = some (partA.foldr .seq partB) := rfl
theorem dstA : partA.all (dstC Tryz.f7.ntmps) = true := by kernel_rfl
theorem dstB : dstC Tryz.f7.ntmps partB = true := by kernel_rfl
theorem resF1 : Tryz.f7.results = #[.tmp 0] := rfl
theorem H0_get (q : Nat) : hg H0 q = if q = 0 then CO.ro posV else if q = 1 then CO.ro clsV else CO.none := by
  show Tr.get CO.none H0 q = _
  unfold H0
  rw [jX]
  by_cases h0 : q = 0
  · subst h0; rfl
  · rw [yC h0, if_neg h0, cond_false]
    by_cases ho : q % 2 = 1
    · rw [ho]
      show Tr.get CO.none (Tr.node Tr.nil (CO.ro clsV) Tr.nil) (q / 2) = _
      rw [jX]
      by_cases h1 : q / 2 = 0
      · rw [if_pos (by omega), h1]; rfl
      · rw [yC h1, if_neg (by omega), cond_false, dP, dP]; cases Nat.beq (q / 2 % 2) 1 <;> rfl
    · rw [yC ho, cond_false, dP, if_neg (by omega)]
/-- first() is true, whatever the world, if the two tables stand. -/
theorem first_calls (w : World) (h0 : ∃ t fr, w.heap[0]? = some (.cells ⟨posV⟩ t fr)) (h1 : ∃ t fr, w.heap[1]? = some (.cells ⟨clsV⟩ t fr)) :
    Calls Tryz.prog 7 ⟨[]⟩ w fun e w' => e = .returned (.bool true) ∧ w'.os = w.os ∧ w'.tape = w.tape ∧ w'.output = w.output ∧ w.heap.size ≤ w'.heap.size ∧ ∀ g, g < w.heap.size → w'.heap[g]? = w.heap[g]? := by
  have hs1 : 1 < w.heap.size := by obtain ⟨t, fr, h⟩ := h1; exact (Array.getElem?_eq_some_iff.1 h).1
  refine calls_of_wp Tryz.func7 bodyF_eq ?_
  have hA := runA
  unfold gcO at hA
  split at hA
  · rename_i s hs
    injection hA with hA
    cases hB : exec xt 100000 partB s1 with
    | none => have := runB; rw [hB] at this; cases this
    | some p =>
      obtain ⟨e, s2⟩ := p
      have hb := runB
      rw [hB] at hb
      cases e with
      | ret =>
        have hb : (match s2.T.get (.v undef) 0 with | .v (.bool b) => b | _ => false) = true := hb
        have hT0 : tg s2.T 0 = .v (.bool true) := by
          show s2.T.get (.v undef) 0 = _
          split at hb
          · rename_i b hv; rw [hv, hb]
          · cases hb
        have hR0 : Rel ⟨w, fun _ => none⟩ Tryz.f7.ntmps () (fun _ => none) (stOf s0.T s0.H) { tmps := (⟨[]⟩ : Array Value) ++ Array.replicate (Tryz.f7.ntmps - (⟨[]⟩ : Array Value).size) undef, defers := [] } w := by
          refine ⟨⟨fun q => ?_, fun q1 q2 g b z b' z' l1 l2 r1 r2 => (by cases r1), fun q hq => rfl, fun q y e => (by cases e), rfl, rfl, rfl, Nat.le_refl _, fun _ _ => rfl⟩, by simp, fun i => ?_, rfl⟩
          · show Desc _ _ w q (hg H0 q)
            rw [H0_get]
            by_cases e0 : q = 0
            · rw [if_pos e0]; subst e0; exact ⟨by show 0 < w.heap.size; omega, h0⟩
            · rw [if_neg e0]
              by_cases e1 : q = 1
              · rw [if_pos e1]; subst e1; exact ⟨hs1, h1⟩
              · rw [if_neg e1]; trivial
          · show Rep _ (.v undef) _
            have : ((⟨[]⟩ : Array Value) ++ Array.replicate (Tryz.f7.ntmps - (⟨[]⟩ : Array Value).size) undef).getD i undef = undef := by
              rw [Array.getD_eq_getD_getElem?, Array.getElem?_append_right (by simp)]
              simp [Array.getElem?_replicate]
              split <;> rfl
            rw [this]
            exact .v undef
        refine lR xtOk (fun ρ' a' w' hR' => ?_) partA 100000 s0 hs (fun c hc => List.all_eq_true.1 dstA c hc) _ _ w hR0
        have hG := Rel.gc (kT := keepT) (kH := keepH) (s := s) hR'
        rw [hA] at hG
        have hok := pG xtOk 100000 _ partB s1 .ret s2 hB dstB
        obtain ⟨m, r⟩ := hok.run
        refine aF (r ⟨w, fun _ => none⟩ (hg s1.H) (fun _ _ => rfl) _ (fun ρ2 a2 w2 hR2 => ?_) ρ' a' w' hG)
        have h2 := hR2.tm 0
        rw [show (⟨tg s2.T, ovr s2.W (hg s2.H) (hg s1.H)⟩ : AS).T 0 = .v (.bool true) from hT0] at h2
        refine ⟨hR2.df, .bool true, ?_, rfl, hR2.os, hR2.tape, hR2.output, hR2.size, hR2.frame⟩
        have h3 := h2.v_inv
        unfold results
        rw [resF1]
        simp
        simpa using h3
      | _ => cases hb
  · cases hA
end Go.Proofs.YtnafokinifbfhaaGreatDoor.Cx
namespace Go.Proofs.YtnafokinifbfhaaGreatDoor
open Go Go.RowKit
variable {G : Nat → Option (List Value)}
theorem wF (h0 : G 0 = some Cx.posV) (h1 : G 1 = some Cx.clsV) : zu Tryz.prog G 7 [] [] (.v (.bool true)) [] := by
  refine ⟨zM Tryz.func7 (by kernel_rfl) rfl, fun M w gs vs hl hG hn hr hv ha => ?_⟩
  obtain rfl : vs = [] := List.length_eq_zero_iff.1 hv
  obtain rfl : gs = [] := List.length_eq_zero_iff.1 hr.len
  refine (Cx.first_calls w (hl 0 _ (hG 0 _ h0)) (hl 1 _ (hG 1 _ h1))).mono ?_
  rintro e w' ⟨he, h2, h3, h4, h5, h6⟩
  refine ⟨.bool true, M, [], he, fun _ _ h => h, fun g arr h => ?_, h2, h3, h4, h5, fun g hg _ => h6 g hg, fun _ _ h => h, by simp, by simp, ⟨rfl, by simp⟩, .v _ _⟩
  obtain ⟨t, fr, hh⟩ := hl g arr h
  exact ⟨t, fr, (h6 g (Array.getElem?_eq_some_iff.1 hh).1).trans hh⟩
end Go.Proofs.YtnafokinifbfhaaGreatDoor
