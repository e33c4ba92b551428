/- Safes with keys that people lock, by plain functions: which safes are valid, and what all functions return; nothing of the program stands here. -/
import Derived.Test.YtlmkloghbgglkaaDoorOrdP
import Derived.Test.YtlmkloghbgglkaaDoorLexP
set_option linter.unusedVariables false
set_option linter.unusedSimpArgs false
namespace Go.Proofs.YtlmkloghbgglkaaDoor
open Go Go.RowKit
structure Sf where
  num : Int
  keys : List Int
  locked : List ByteArray
  deriving DecidableEq
instance : Inhabited Sf := ⟨⟨0, [], []⟩⟩
def hasI (K : List Int) (k : Int) : Bool := K.any fun x => decide (x = k)
def hasS (K : List ByteArray) (k : ByteArray) : Bool := K.any fun x => decide (x = k)
theorem hasI_iff {K : List Int} {k : Int} : hasI K k = true ↔ k ∈ K := by unfold hasI; simp
theorem hasS_iff {K : List ByteArray} {k : ByteArray} : hasS K k = true ↔ k ∈ K := by unfold hasS; simp
def hasP (P : List Sf) (k : Int) : Bool := P.any fun s => hasI s.keys k
def prevI (q : Option Int) (k : Int) : Bool := match q with | none => false | some q => decide (k ≤ q)
def prevS (q : Option ByteArray) (k : ByteArray) : Bool := match q with | none => false | some q => !strLt q k
def prevN (q : Option Sf) (s : Sf) : Bool := match q with | none => false | some q => decide (s.num ≤ q.num)
def keyE (P : List Sf) (q : Option Int) (k : Int) : Int := if k < 0 ∨ 65536 < k then 5 else if prevI q k = true then 14 else if hasP P k = true then 4 else 0
def keyGo (P : List Sf) : Option Int → List Int → Int
  | _, [] => 0
  | q, k :: l => if keyE P q k ≠ 0 then keyE P q k else keyGo P (some k) l
def nameE (q : Option ByteArray) (s : ByteArray) : Int := if nameB s.data.toList = false then 3 else if prevS q s = true then 14 else 0
def nameGo : Option ByteArray → List ByteArray → Int
  | _, [] => 0
  | q, s :: l => if nameE q s ≠ 0 then nameE q s else nameGo (some s) l
def peopleE (l : List ByteArray) : Int := if 16 < l.length then 1 else nameGo none l
def sfE (P : List Sf) (q : Option Sf) (s : Sf) : Int :=
  if s.num < 1 ∨ 16 < s.num then 5 else if prevN q s = true then 14 else if keyGo P none s.keys ≠ 0 then keyGo P none s.keys else peopleE s.locked
def sfGo (P : List Sf) (q : Option Sf) : List Sf → Int
  | [] => 0
  | s :: l => if sfE P q s ≠ 0 then sfE P q s else sfGo (P ++ [s]) (some s) l
def chkS (L : List Sf) : Int := if 16 < L.length then 1 else sfGo [] none L
/-- A safe that is right by itself. -/
structure SfOk (s : Sf) : Prop where
  num : 1 ≤ s.num ∧ s.num ≤ 16
  key : ∀ k ∈ s.keys, 0 ≤ k ∧ k ≤ 65536
  kasc : AscG ltI s.keys
  len : s.locked.length ≤ 16
  name : ∀ n ∈ s.locked, nameB n.data.toList = true
  nasc : AscG strLt s.locked
def Before (a b : Sf) : Prop := a.num < b.num ∧ ∀ k ∈ b.keys, k ∉ a.keys
theorem keyGo_iff (P : List Sf) : ∀ (K : List Int) (q : Option Int), keyGo P q K = 0 ↔ (∀ k ∈ K, (0 ≤ k ∧ k ≤ 65536) ∧ ∀ s ∈ P, k ∉ s.keys) ∧ (∀ x, q = some x → ∀ k ∈ K, x < k) ∧ AscG ltI K
  | [], q => by simp [keyGo, AscG]
  | k :: l, q => by
    have ih := keyGo_iff P l (some k)
    have hP : hasP P k = false ↔ ∀ s ∈ P, k ∉ s.keys := by
      unfold hasP
      rw [List.any_eq_false]
      constructor
      · intro h s hs hk; exact h s hs (hasI_iff.2 hk)
      · intro h s hs hk; exact h s hs (hasI_iff.1 hk)
    have hE : keyE P q k = 0 ↔ (0 ≤ k ∧ k ≤ 65536) ∧ (∀ x, q = some x → x < k) ∧ ∀ s ∈ P, k ∉ s.keys := by
      unfold keyE
      rw [← hP]
      cases q with
      | none =>
        by_cases h1 : k < 0 ∨ 65536 < k
        · rw [if_pos h1]; constructor
          · intro h; cases h
          · rintro ⟨h, -⟩; omega
        · rw [if_neg h1, if_neg (by simp [prevI])]
          cases h2 : hasP P k <;> simp <;> omega
      | some x =>
        by_cases h1 : k < 0 ∨ 65536 < k
        · rw [if_pos h1]; constructor
          · intro h; cases h
          · rintro ⟨h, -⟩; omega
        · rw [if_neg h1]
          by_cases h3 : k ≤ x
          · rw [if_pos (by simpa [prevI] using h3)]; constructor
            · intro h; cases h
            · rintro ⟨-, h, -⟩; have := h x rfl; omega
          · rw [if_neg (by simpa [prevI] using h3)]
            cases h2 : hasP P k <;> simp <;> omega
    unfold keyGo
    by_cases h0 : keyE P q k = 0
    · rw [if_neg (by simp [h0]), ih]
      obtain ⟨a, b, c⟩ := hE.1 h0
      constructor
      · rintro ⟨d, e, f⟩
        refine ⟨fun x hx => ?_, fun x hx y hy => ?_, List.pairwise_cons.2 ⟨fun y hy => by simpa [ltI] using e k rfl y hy, f⟩⟩
        · rcases List.mem_cons.1 hx with rfl | hx
          · exact ⟨a, c⟩
          · exact d x hx
        · rcases List.mem_cons.1 hy with rfl | hy
          · exact b x hx
          · have := b x hx; have := e k rfl y hy; omega
      · rintro ⟨d, e, f⟩
        obtain ⟨f1, f2⟩ := List.pairwise_cons.1 f
        exact ⟨fun x hx => d x (by simp [hx]), fun x hx y hy => by injection hx with hx; subst hx; simpa [ltI] using f1 y hy, f2⟩
    · rw [if_pos h0]
      constructor
      · intro h; exact absurd h h0
      · rintro ⟨d, e, f⟩
        exact absurd (hE.2 ⟨(d k (by simp)).1, fun x hx => e x hx k (by simp), (d k (by simp)).2⟩) h0
theorem nameGo_iff : ∀ (K : List ByteArray) (q : Option ByteArray), nameGo q K = 0 ↔ (∀ k ∈ K, nameB k.data.toList = true) ∧ (∀ x, q = some x → ∀ k ∈ K, strLt x k = true) ∧ AscG strLt K
  | [], q => by simp [nameGo, AscG]
  | k :: l, q => by
    have ih := nameGo_iff l (some k)
    have hE : nameE q k = 0 ↔ nameB k.data.toList = true ∧ (∀ x, q = some x → strLt x k = true) := by
      unfold nameE
      cases q with
      | none => cases h1 : nameB k.data.toList <;> simp [prevS]
      | some x => cases h1 : nameB k.data.toList <;> cases h2 : strLt x k <;> simp [prevS, h2]
    unfold nameGo
    by_cases h0 : nameE q k = 0
    · rw [if_neg (by simp [h0]), ih]
      obtain ⟨a, b⟩ := hE.1 h0
      constructor
      · rintro ⟨d, e, f⟩
        refine ⟨fun x hx => ?_, fun x hx y hy => ?_, List.pairwise_cons.2 ⟨fun y hy => e k rfl y hy, f⟩⟩
        · rcases List.mem_cons.1 hx with rfl | hx
          · exact a
          · exact d x hx
        · rcases List.mem_cons.1 hy with rfl | hy
          · exact b x hx
          · exact strLt_ord.tr _ _ _ (b x hx) (e k rfl y hy)
      · rintro ⟨d, e, f⟩
        obtain ⟨f1, f2⟩ := List.pairwise_cons.1 f
        exact ⟨fun x hx => d x (by simp [hx]), fun x hx y hy => by injection hx with hx; subst hx; exact f1 y hy, f2⟩
    · rw [if_pos h0]
      constructor
      · intro h; exact absurd h h0
      · rintro ⟨d, e, f⟩
        exact absurd (hE.2 ⟨d k (by simp), fun x hx => e x hx k (by simp)⟩) h0
theorem sfE_iff (P : List Sf) (q : Option Sf) (s : Sf) : sfE P q s = 0 ↔ SfOk s ∧ (∀ x, q = some x → x.num < s.num) ∧ ∀ x ∈ P, ∀ k ∈ s.keys, k ∉ x.keys := by
  have hk := keyGo_iff P s.keys none
  have hn := nameGo_iff s.locked none
  have hq : prevN q s = false ↔ ∀ x, q = some x → x.num < s.num := by
    cases q with
    | none => simp [prevN]
    | some x => simp [prevN]
  unfold sfE
  by_cases h1 : s.num < 1 ∨ 16 < s.num
  · rw [if_pos h1]
    constructor
    · intro h; cases h
    · rintro ⟨h, -⟩; have := h.num; omega
  rw [if_neg h1]
  by_cases h2 : prevN q s = true
  · rw [if_pos h2]
    constructor
    · intro h; cases h
    · rintro ⟨-, h, -⟩; rw [← hq, h2] at h; cases h
  rw [if_neg h2]
  have h2' := hq.1 (by simpa using h2)
  by_cases h3 : keyGo P none s.keys = 0
  · rw [if_neg (by simp [h3])]
    obtain ⟨a, -, b⟩ := hk.1 h3
    unfold peopleE
    by_cases h4 : 16 < s.locked.length
    · rw [if_pos h4]
      constructor
      · intro h; cases h
      · rintro ⟨h, -⟩; have := h.len; omega
    · rw [if_neg h4, hn]
      constructor
      · rintro ⟨c, -, d⟩
        exact ⟨⟨by omega, fun k hk => (a k hk).1, b, by omega, c, d⟩, h2', fun x hx k hk => (a k hk).2 x hx⟩
      · rintro ⟨h, -⟩
        exact ⟨h.name, by simp, h.nasc⟩
  · rw [if_pos h3]
    constructor
    · intro h; exact absurd h h3
    · rintro ⟨h, -, h5⟩
      exact absurd (hk.2 ⟨fun k hk => ⟨h.key k hk, fun x hx => h5 x hx k hk⟩, by simp, h.kasc⟩) h3
theorem sfGo_iff : ∀ (L P : List Sf) (q : Option Sf), sfGo P q L = 0 ↔ (∀ s ∈ L, SfOk s) ∧ (∀ x, q = some x → ∀ s ∈ L, x.num < s.num) ∧ (∀ x ∈ P, ∀ s ∈ L, ∀ k ∈ s.keys, k ∉ x.keys) ∧ L.Pairwise Before
  | [], P, q => by simp [sfGo]
  | s :: l, P, q => by
    have ih := sfGo_iff l (P ++ [s]) (some s)
    have hE := sfE_iff P q s
    unfold sfGo
    by_cases h0 : sfE P q s = 0
    · rw [if_neg (by simp [h0]), ih]
      obtain ⟨a, b, c⟩ := hE.1 h0
      constructor
      · rintro ⟨d, e, f, g⟩
        refine ⟨fun x hx => ?_, fun x hx y hy => ?_, fun x hx y hy => ?_, List.pairwise_cons.2 ⟨fun y hy => ⟨e s rfl y hy, fun k hk => f s (by simp) y hy k hk⟩, g⟩⟩
        · rcases List.mem_cons.1 hx with rfl | hx
          · exact a
          · exact d x hx
        · rcases List.mem_cons.1 hy with rfl | hy
          · exact b x hx
          · have := b x hx; have := e s rfl y hy; omega
        · rcases List.mem_cons.1 hy with rfl | hy
          · exact c x hx
          · exact f x (by simp [hx]) y hy
      · rintro ⟨d, e, f, g⟩
        obtain ⟨g1, g2⟩ := List.pairwise_cons.1 g
        refine ⟨fun x hx => d x (by simp [hx]), fun x hx y hy => by injection hx with hx; subst hx; exact (g1 y hy).1, fun x hx y hy => ?_, g2⟩
        rcases List.mem_append.1 hx with hx | hx
        · exact f x hx y (by simp [hy])
        · rw [List.mem_singleton] at hx; subst hx; exact (g1 y hy).2
    · rw [if_pos h0]
      constructor
      · intro h; exact absurd h h0
      · rintro ⟨d, e, f, g⟩
        exact absurd (hE.2 ⟨d s (by simp), fun x hx => e x hx s (by simp), fun x hx => f x hx s (by simp)⟩) h0
theorem chkS_iff (L : List Sf) : chkS L = 0 ↔ L.length ≤ 16 ∧ (∀ s ∈ L, SfOk s) ∧ L.Pairwise Before := by
  unfold chkS
  by_cases h : 16 < L.length
  · rw [if_pos h]
    constructor
    · intro h; cases h
    · rintro ⟨h, -⟩; omega
  · rw [if_neg h, sfGo_iff]
    constructor
    · rintro ⟨a, -, -, b⟩; exact ⟨by omega, a, b⟩
    · rintro ⟨-, a, b⟩; exact ⟨a, by simp, by simp, b⟩
/-- The first of which something holds, or -1. -/
def idxG {α : Type} (p : α → Bool) : List α → Nat → Int
  | [], _ => -1
  | x :: l, i => if p x = true then i else idxG p l (i + 1)
theorem idxG_at {α : Type} {p : α → Bool} {L : List α} {k : Nat} {x : α} (h : L[k]? = some x) : idxG p (L.drop k) k = if p x = true then (k : Int) else idxG p (L.drop (k + 1)) (k + 1) := by rw [drop_at h]; rfl
theorem idxG_any {α : Type} (p : α → Bool) : ∀ (L : List α) (i : Nat), decide (idxG p L i ≥ 0) = L.any p
  | [], i => by simp [idxG]
  | x :: L, i => by
    rw [idxG, List.any_cons]
    split
    · rename_i h; rw [h]; simp
    · rename_i h; rw [idxG_any p L (i + 1)]; simp [h]
theorem idxG_some {α : Type} {p : α → Bool} : ∀ {L : List α} {i : Nat}, 0 ≤ idxG p L i → ∃ j x, idxG p L i = ((i + j : Nat) : Int) ∧ L[j]? = some x ∧ p x = true
  | [], i, h => by simp [idxG] at h
  | x :: L, i, h => by
    rw [idxG] at h ⊢
    by_cases hp : p x = true
    · rw [if_pos hp]; exact ⟨0, x, rfl, rfl, hp⟩
    · rw [if_neg hp] at h ⊢
      obtain ⟨j, y, a, b, c⟩ := idxG_some h
      exact ⟨j + 1, y, by rw [a]; congr 1; omega, b, c⟩
theorem idxG_neg {α : Type} {p : α → Bool} {L : List α} {i : Nat} (h : idxG p L i < 0) : ∀ x ∈ L, p x = false := by
  have := idxG_any p L i
  rw [decide_eq_false (by omega)] at this
  exact fun x hx => by have := List.any_eq_false.1 this.symm x hx; simpa using this
def findS (L : List Sf) (n : Int) : Int := if chkS L ≠ 0 then -1 else idxG (fun s => decide (s.num = n)) L 0
def inIdx (L : List Sf) (k : Int) : Int := if chkS L ≠ 0 then -1 else idxG (fun s => hasI s.keys k) L 0
def inS (L : List Sf) (k : Int) : Int := if inIdx L k < 0 then 0 else match L[(inIdx L k).toNat]? with | some s => s.num | none => 0
def lkS (L : List Sf) (n : Int) (m : ByteArray) : Bool := if chkS L ≠ 0 then false else L.any fun s => decide (s.num = n) && hasS s.locked m
def atS (L : List Sf) (n : Int) : Sf := match L[(findS L n).toNat]? with | some s => s | none => ⟨0, [], []⟩
def openE (L : List Sf) (n : Int) : Int := if chkS L ≠ 0 then chkS L else if findS L n < 0 then 15 else if (atS L n).locked ≠ [] then 41 else 0
def putS (L : List Sf) (n k : Int) : List Sf × Int :=
  if openE L n ≠ 0 then ([], openE L n) else if k < 0 ∨ 65536 < k then ([], 5) else if 0 < inS L k then ([], 4)
  else (L.set (findS L n).toNat ⟨(atS L n).num, insG ltI k (atS L n).keys, (atS L n).locked⟩, 0)
def takeS (L : List Sf) (n k : Int) : List Sf × Int :=
  if openE L n ≠ 0 then ([], openE L n) else if hasI (atS L n).keys k = false then ([], 15)
  else (L.set (findS L n).toNat ⟨(atS L n).num, delG ltI k (atS L n).keys, (atS L n).locked⟩, 0)
def fixS (L : List Sf) (n : Int) (m : ByteArray) : List Sf × Int :=
  if chkS L ≠ 0 then ([], chkS L) else if findS L n < 0 then ([], 15) else if nameB m.data.toList = false then ([], 3) else if hasS (atS L n).locked m = true then ([], 4)
  else if (atS L n).locked.length = 16 then ([], 1) else (L.set (findS L n).toNat ⟨(atS L n).num, (atS L n).keys, insG strLt m (atS L n).locked⟩, 0)
def relS (L : List Sf) (n : Int) (m : ByteArray) : List Sf × Int :=
  if chkS L ≠ 0 then ([], chkS L) else if findS L n < 0 then ([], 15) else if hasS (atS L n).locked m = false then ([], 15)
  else (L.set (findS L n).toNat ⟨(atS L n).num, (atS L n).keys, delG strLt m (atS L n).locked⟩, 0)
end Go.Proofs.YtlmkloghbgglkaaDoor
