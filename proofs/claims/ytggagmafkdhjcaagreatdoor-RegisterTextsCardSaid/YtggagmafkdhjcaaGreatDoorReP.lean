/- Ascending lists over a strict order: the place of an element, laying in, taking out; and the order of strings; nothing of the program stands here / Registers as sorted lists: plain law of adding and removing; nothing of the program's walk stands here. -/
import Derived.Test.YtggagmafkdhjcaaGreatDoorAbsL
import Derived.Test.YtggagmafkdhjcaaGreatDoorReB
set_option linter.unusedVariables false
set_option linter.unusedSimpArgs false
namespace Go.Proofs.YtggagmafkdhjcaaGreatDoor
open Go Go.RowKit
structure StrictOrd {α : Type} (lt : α → α → Bool) : Prop where
  irr : ∀ a, lt a a = false
  tr : ∀ a b c, lt a b = true → lt b c = true → lt a c = true
  tot : ∀ a b, lt a b = false → lt b a = false → a = b
theorem StrictOrd.asymm {α : Type} {lt : α → α → Bool} (h : StrictOrd lt) {a b : α} (h1 : lt a b = true) : lt b a = false := by
  cases h2 : lt b a
  · rfl
  · have := h.tr a b a h1 h2; rw [h.irr] at this; cases this
theorem StrictOrd.ne {α : Type} {lt : α → α → Bool} (h : StrictOrd lt) {a b : α} (h1 : lt a b = true) : a ≠ b := fun e => by
  subst e; rw [h.irr] at h1; cases h1
theorem fN : ∀ x : List UInt8, Op.bytesLess x x = false
  | [] => rfl
  | a :: x => by simp only [Op.bytesLess]; simp [fN x]
theorem lC : ∀ x y z : List UInt8, Op.bytesLess x y = true → Op.bytesLess y z = true → Op.bytesLess x z = true
  | [], [], z, h, _ => by simp [Op.bytesLess] at h
  | [], b :: y, [], _, h => by simp [Op.bytesLess] at h
  | [], b :: y, c :: z, _, _ => by simp [Op.bytesLess]
  | a :: x, [], z, h, _ => by simp [Op.bytesLess] at h
  | a :: x, b :: y, [], _, h => by simp [Op.bytesLess] at h
  | a :: x, b :: y, c :: z, h1, h2 => by
    simp only [Op.bytesLess] at *
    have ih := lC x y z
    by_cases e1 : a = b
    · subst e1
      simp at h1
      by_cases e2 : a = c
      · subst e2
        simp at h2
        simp [ih h1 h2]
      · simp [e2] at h2 ⊢
        exact h2
    · simp [e1] at h1
      by_cases e2 : b = c
      · subst e2
        simp [e1, h1]
      · simp [e2] at h2
        have h3 : a < c := by
          have a1 := UInt8.lt_iff_toNat_lt.1 h1
          have a2 := UInt8.lt_iff_toNat_lt.1 h2
          exact UInt8.lt_iff_toNat_lt.2 (by omega)
        have e3 : ¬ a = c := fun e => by subst e; exact absurd h3 (by simp)
        simp [e3, h3]
theorem fU : ∀ x y : List UInt8, Op.bytesLess x y = false → Op.bytesLess y x = false → x = y
  | [], [], _, _ => rfl
  | [], b :: y, h, _ => by simp [Op.bytesLess] at h
  | a :: x, [], _, h => by simp [Op.bytesLess] at h
  | a :: x, b :: y, h1, h2 => by
    simp only [Op.bytesLess] at *
    by_cases e1 : a = b
    · subst e1
      simp at h1 h2
      rw [fU x y h1 h2]
    · have e2 : ¬ b = a := fun e => e1 e.symm
      simp [e1] at h1
      simp [e2] at h2
      exact absurd (UInt8.le_antisymm h2 h1) e1
theorem jf : StrictOrd jQ := ⟨fun a => fN _, fun a b c => lC _ _ _, fun a b h1 h2 => ja.1 (by unfold jM; rw [fU _ _ h1 h2]; simp)⟩
section
variable {α : Type} (lt : α → α → Bool)
variable {lt}
end
end Go.Proofs.YtggagmafkdhjcaaGreatDoor
namespace Go.Proofs.YtggagmafkdhjcaaGreatDoor
open Go Go.RowKit
def StrR (L : List Per) : Prop := L.Pairwise fun a b => jQ a.n b.n = true
def NeqN (L : List Per) : Prop := L.Pairwise fun a b => a.n ≠ b.n
def VL (L : List Per) : Prop := L.length ≤ 64 ∧ (∀ p ∈ L, jF p = 0) ∧ StrR L
theorem iF {E : Per → Int} : ∀ (L : List Per) (q : Option Per), pgoE E q L = 0 ↔ (∀ p ∈ L, E p = 0) ∧ StrR L ∧ ∀ x, q = some x → ∀ p ∈ L, jQ x.n p.n = true
  | [], q => by simp [pgoE, StrR]
  | p :: r, q => by
    have ih := iF (E := E) r (some p)
    constructor
    · intro h
      unfold pgoE at h
      split at h
      · rename_i h1; exact absurd h h1
      · rename_i h1
        have h1' : E p = 0 := by simpa using h1
        have h' : pgoE E (some p) r = 0 ∧ ∀ x, q = some x → jQ x.n p.n = true := by
          cases q with
          | none => exact ⟨by simpa using h, fun x hx => by cases hx⟩
          | some x =>
            cases hl : less x p with
            | false => simp [hl] at h
            | true =>
              simp [hl] at h
              exact ⟨h, fun y hy => by cases hy; rw [aZ]; exact hl⟩
        obtain ⟨i1, i2, i3⟩ := ih.1 h'.1
        have i3' := i3 p rfl
        refine ⟨fun x hx => (List.mem_cons.1 hx).elim (fun e => e ▸ h1') (i1 x), List.Pairwise.cons i3' i2, fun x hx y hy => ?_⟩
        have hxp := h'.2 x hx
        rcases List.mem_cons.1 hy with rfl | hy
        · exact hxp
        · exact jf.tr _ _ _ hxp (i3' y hy)
    · rintro ⟨h1, h2, h3⟩
      cases h2 with
      | cons h4 h5 =>
        unfold pgoE
        rw [if_neg (by simp [h1 p (by simp)])]
        have hr := ih.2 ⟨fun x hx => h1 x (by simp [hx]), h5, fun x hx y hy => by cases hx; exact h4 y hy⟩
        cases q with
        | none => simpa using hr
        | some x =>
          have := h3 x rfl p (by simp)
          rw [aZ] at this
          simp [this, hr]
theorem aX (L : List Per) : jI jF L = 0 ↔ VL L := by
  unfold jI VL
  split
  · rename_i h
    constructor
    · intro h2; cases h2
    · rintro ⟨h2, _⟩; omega
  · rename_i h
    rw [iF]
    constructor
    · rintro ⟨h1, h2, _⟩; exact ⟨by omega, h1, h2⟩
    · rintro ⟨h0, h1, h2⟩; exact ⟨h1, h2, fun x hx => by cases hx⟩
theorem kI : ∀ {A B : List Per}, StrR A → StrR B → (∀ x, x ∈ A ↔ x ∈ B) → A = B
  | [], [], _, _, _ => rfl
  | [], b :: B, _, _, h => absurd ((h b).2 (by simp)) (by simp)
  | a :: A, [], _, _, h => absurd ((h a).1 (by simp)) (by simp)
  | a :: A, b :: B, hA, hB, h => by
    cases hA with
    | cons ha hA =>
      cases hB with
      | cons hb hB =>
        have e : a = b := by
          rcases List.mem_cons.1 ((h a).1 (by simp)) with e | e
          · exact e
          · rcases List.mem_cons.1 ((h b).2 (by simp)) with e2 | e2
            · exact e2.symm
            · have := jf.asymm (hb a e)
              rw [ha b e2] at this
              cases this
        subst e
        refine congrArg (a :: ·) (kI hA hB fun x => ?_)
        constructor
        · intro hx
          rcases List.mem_cons.1 ((h x).1 (by simp [hx])) with e | e
          · subst e
            have := ha x hx
            rw [jf.irr] at this
            cases this
          · exact e
        · intro hx
          rcases List.mem_cons.1 ((h x).2 (by simp [hx])) with e | e
          · subst e
            have := hb x hx
            rw [jf.irr] at this
            cases this
          · exact e
theorem uW : SwoB ltP := ⟨fun x y h => by
  rw [eL] at h ⊢
  exact jf.asymm h, fun x y z h => by
  rw [eL] at h
  rw [eL, eL]
  cases h1 : jQ x.n y.n with
  | true => exact .inl rfl
  | false =>
    refine .inr ?_
    cases h2 : jQ y.n x.n with
    | true => exact jf.tr _ _ _ h2 h
    | false =>
      have := jf.tot _ _ h1 h2
      rw [← this]; exact h⟩
theorem nJ {L : List Per} (h : StrR L) : NeqN L := h.imp fun {a b} hab e => by
  rw [e, jf.irr] at hab
  cases hab
theorem iJ {A B : List Per} (h : A.Perm B) (hB : NeqN B) : NeqN A := (List.Perm.pairwise_iff (R := fun a b : Per => a.n ≠ b.n) (fun {x y} hxy => Ne.symm hxy) h).2 hB
theorem pB {L : List Per} (h : NeqN L) : StrR (jv ltP L) := by
  have hs := hF uW L
  have hn := iJ (bL (lt := ltP) L) h
  unfold StrR
  rw [List.pairwise_iff_getElem]
  intro i j hi hj hij
  have h1 := hs i j _ _ hij (by rw [qR] at hj; exact hj) (List.getElem?_eq_getElem hi) (List.getElem?_eq_getElem hj)
  have h2 := (List.pairwise_iff_getElem.1 hn) i j hi hj hij
  rw [eL] at h1
  cases h3 : jQ ((jv ltP L)[i]).n ((jv ltP L)[j]).n with
  | true => rfl
  | false => exact absurd (jf.tot _ _ h3 h1) h2
theorem kN {nm : ByteArray} {p : Per} : qh nm p = true ↔ p.n = nm := by
  unfold qh
  exact ja
theorem gF {nm : ByteArray} : ∀ {L : List Per} (k : Nat), (∀ x ∈ L, x.n ≠ nm) → idxP nm L k = -1
  | [], k, _ => rfl
  | p :: r, k, h => by
    unfold idxP
    rw [if_neg (fun e => h p (by simp) (kN.1 e))]
    exact gF (k + 1) fun x hx => h x (by simp [hx])
/-- The register with a person more. -/
theorem tN {R : List Per} {p : Per} (hR : VL R) (hp : jF p = 0) (hl : R.length < 64) (hn : ∀ x ∈ R, x.n ≠ p.n) :
    addK R p = (jv ltP (R ++ [p]), 0) ∧ VL (jv ltP (R ++ [p])) ∧ ∀ x, x ∈ jv ltP (R ++ [p]) ↔ x ∈ R ∨ x = p := by
  have hc := (aX R).2 hR
  have hm : ∀ x, x ∈ jv ltP (R ++ [p]) ↔ x ∈ R ∨ x = p := fun x => by
    rw [(bL (lt := ltP) (R ++ [p])).mem_iff]
    simp
  refine ⟨?_, ⟨by rw [qR]; simp; omega, fun x hx => ?_, pB ?_⟩, hm⟩
  · unfold addK
    rw [if_neg (by simp [hc]), if_neg (by simp [hp]), if_neg (by rw [gF 0 hn]; decide), if_neg (by omega)]
  · rcases (hm x).1 hx with h | rfl
    · exact hR.2.1 x h
    · exact hp
  · unfold NeqN
    rw [List.pairwise_append]
    exact ⟨nJ hR.2.2, List.pairwise_singleton _ _, fun a ha b hb => by simp at hb; subst hb; exact hn a ha⟩
end Go.Proofs.YtggagmafkdhjcaaGreatDoor
