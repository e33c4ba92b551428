/- Certificates: which messages are accepted in which state (the table), by plain functions; nothing of the program stands here. -/
import Derived.Test.YthhhpnbnkolgmaaDoorCeP
set_option linter.unusedVariables false
set_option linter.unusedSimpArgs false
namespace Go.Proofs.YthhhpnbnkolgmaaDoor
open Go Go.RowKit
def wantB (c : Ce) (st said k : Int) : Bool := (decide (k = c.ask) && ((decide (st = 1) && decide (said = 2)) || (decide (st = 4) && decide (said = 5)))) || (decide (k = c.giv) && decide (st = 2) && decide (said = 4))
theorem all_one {N : List Nd} {V : List Dv} {c : Ce} (h : CeOk N V c) : allE N V [c] = 0 := allE_iff.2 ⟨⟨fun x hx => by simp at hx; subst hx; exact h, List.pairwise_singleton _ _⟩, by simp⟩
theorem all_nil {N : List Nd} {V : List Dv} : allE N V [] = 0 := allE_iff.2 ⟨⟨fun x hx => (by cases hx), List.Pairwise.nil⟩, by simp⟩
theorem find_one (c : Ce) (s : Int) : findC [stC c s] c.ask c.num = 0 := by
  unfold findC idxG isC stC; simp
theorem go_one (c : Ce) (st said k : Int) : hearGo [stC c st] 0 k (stC c said) rowsC =
    if said = 2 ∧ k = c.ask ∧ st = 1 then ([stC c 3], 0) else if said = 4 ∧ k = c.giv ∧ st = 2 then ([], 0) else if said = 5 ∧ k = c.ask ∧ st = 4 then ([], 0) else ([], 50) := by
  have ha : atC [stC c st] 0 = stC c st := rfl
  have hf : ∀ a b d m, fitC [stC c st] 0 k (stC c said) ⟨a, b, d, m⟩ = (decide (a = said) && mineC m k (stC c said) && decide (st = b)) := fun a b d m => by
    unfold fitC
    rw [ha]
    show (decide (a = said) && mineC m k (stC c said) && decide ((0 : Int) ≤ 0) && decide (st = b) && decide (c.giv = c.giv) && decide (c.lk = c.lk)) = _
    simp
  unfold rowsC
  rw [hearGo, hearGo, hearGo, hearGo, hf, hf, hf]
  have e1 : mineC true k (stC c said) = decide (k = c.ask) := by unfold mineC; exact decide_eq_decide.2 ⟨fun e => e.symm, fun e => e.symm⟩
  have e2 : mineC false k (stC c said) = decide (k = c.giv) := by unfold mineC; exact decide_eq_decide.2 ⟨fun e => e.symm, fun e => e.symm⟩
  rw [e1, e2]
  have w3 : withC [stC c st] 0 3 = [stC c 3] := rfl
  have w0 : withC [stC c st] 0 0 = [] := rfl
  dsimp only
  rw [w3, w0]
  simp only [Bool.and_eq_true, decide_eq_true_eq, eq_comm (a := (2 : Int)), eq_comm (a := (4 : Int)), eq_comm (a := (5 : Int)), and_assoc]
theorem hear_one {N : List Nd} {V : List Dv} {c : Ce} (h : CeOk N V c) (st said k : Int) (h1 : 1 ≤ st ∧ st ≤ 5) (h2 : 1 ≤ said ∧ said ≤ 5) : hearC N V [stC c st] k (stC c said) =
    if said = 1 then ([], if c.giv = k then 4 else 50) else if said = 2 ∧ k = c.ask ∧ st = 1 then ([stC c 3], 0) else if said = 4 ∧ k = c.giv ∧ st = 2 then ([], 0) else if said = 5 ∧ k = c.ask ∧ st = 4 then ([], 0) else ([], 50) := by
  unfold hearC
  rw [all_one (h.state h1.1 h1.2), certE_iff.2 (h.state h2.1 h2.2), if_neg (by decide), if_neg (by decide)]
  have hf : findC [stC c st] (stC c said).ask (stC c said).num = 0 := find_one c st
  rw [hf, go_one]
  show (if said = 1 then (if c.giv ≠ k then (([], 50) : List Ce × Int) else if (0 : Int) ≤ 0 then ([], 4) else _) else _) = _
  by_cases hs : said = 1
  · rw [if_pos hs, if_pos hs]
    by_cases hg : c.giv = k
    · simp [hg]
    · simp [hg]
  · rw [if_neg hs, if_neg hs]
theorem hear_tab {N : List Nd} {V : List Dv} {c : Ce} (h : CeOk N V c) (st said k : Int) (h1 : 1 ≤ st ∧ st ≤ 5) (h2 : 1 ≤ said ∧ said ≤ 5) :
    ((hearC N V [stC c st] k (stC c said)).2 == 0) = wantB c st said k ∧ (wantB c st said k = true → said = 2 → (hearC N V [stC c st] k (stC c said)).1 = [stC c 3]) ∧ (wantB c st said k = true → ¬ said = 2 → (hearC N V [stC c st] k (stC c said)).1 = []) := by
  rw [hear_one h st said k h1 h2]
  have hne := h.ne
  have hw : wantB c st said k = true ↔ (k = c.ask ∧ ((st = 1 ∧ said = 2) ∨ (st = 4 ∧ said = 5))) ∨ (k = c.giv ∧ st = 2 ∧ said = 4) := by unfold wantB; simp [and_assoc]
  have key : ∀ (R : List Ce × Int), (R.2 = 0 ↔ wantB c st said k = true) → ((R.2 == 0) = wantB c st said k) := fun R hR => by
    cases hb : wantB c st said k with
    | true => simpa using hR.2 hb
    | false =>
      have : ¬ R.2 = 0 := fun e => by rw [hR.1 e] at hb; cases hb
      simpa using this
  refine ⟨key _ ?_, fun hb hs => ?_, fun hb hs => ?_⟩
  · rw [hw]
    split
    · rename_i c1
      constructor
      · intro e; split at e <;> cases e
      · intro e; omega
    split
    · rename_i c1; exact ⟨fun _ => .inl ⟨c1.2.1, .inl ⟨c1.2.2, c1.1⟩⟩, fun _ => rfl⟩
    split
    · rename_i c1; exact ⟨fun _ => .inr ⟨c1.2.1, c1.2.2, c1.1⟩, fun _ => rfl⟩
    split
    · rename_i c1; exact ⟨fun _ => .inl ⟨c1.2.1, .inr ⟨c1.2.2, c1.1⟩⟩, fun _ => rfl⟩
    · constructor
      · intro e; cases e
      · intro e; omega
  · rw [hw] at hb
    rw [if_neg (by omega), if_pos (by omega)]
  · rw [hw] at hb
    rw [if_neg (by omega), if_neg (by omega)]
    split
    · rfl
    split
    · rfl
    · rfl
theorem hear_nil {N : List Nd} {V : List Dv} {c : Ce} (h : CeOk N V c) (said k : Int) (h2 : 1 ≤ said ∧ said ≤ 5) :
    ((hearC N V [] k (stC c said)).2 == 0) = (decide (k = c.giv) && decide (said = 1)) ∧ ((hearC N V [] k (stC c said)).2 = 0 → (hearC N V [] k (stC c said)).1.length = 1) := by
  have e : hearC N V [] k (stC c said) = if said = 1 ∧ k = c.giv then ([stC c said], 0) else ([], 50) := by
    unfold hearC
    rw [all_nil, certE_iff.2 (h.state h2.1 h2.2), if_neg (by decide), if_neg (by decide)]
    have hf : findC [] (stC c said).ask (stC c said).num = -1 := rfl
    rw [hf]
    show (if said = 1 then (if c.giv ≠ k then (([], 50) : List Ce × Int) else if (0 : Int) ≤ -1 then ([], 4) else putC [] (stC c said)) else hearGo [] (-1) k (stC c said) rowsC) = _
    by_cases hs : said = 1
    · rw [if_pos hs]
      by_cases hg : c.giv = k
      · rw [if_neg (by simpa using hg), if_neg (by decide), if_pos ⟨hs, hg.symm⟩]; rfl
      · rw [if_pos hg, if_neg (fun e => hg e.2.symm)]
    · rw [if_neg hs, if_neg (fun e => hs e.1)]
      have hf : ∀ t, fitC [] (-1) k (stC c said) t = false := fun t => by unfold fitC; simp
      unfold rowsC
      rw [hearGo, hf, hearGo, hf, hearGo, hf]; rfl
  rw [e]
  split
  · rename_i c1
    exact ⟨by simp [c1.1, c1.2], fun _ => rfl⟩
  · rename_i c1
    refine ⟨?_, fun e => by cases e⟩
    have : (decide (k = c.giv) && decide (said = 1)) = false := by
      cases hb : (decide (k = c.giv) && decide (said = 1)) with
      | false => rfl
      | true => simp at hb; exact absurd ⟨hb.2, hb.1⟩ c1
    rw [this]; rfl
end Go.Proofs.YthhhpnbnkolgmaaDoor
