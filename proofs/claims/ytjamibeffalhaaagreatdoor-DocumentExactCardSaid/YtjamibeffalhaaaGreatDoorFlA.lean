/- Documents that a deck makes: the deck behind them, and their sizes; by plain functions; nothing of the program stands here / Own buffers handed to a call that gives them back with one element more: copies of rows of any size, the contract, and its law in a walk; conditions: none / What laying elements into, and taking them out of, slices of the caller's own needs, for elements of any size; conditions: none / Rows of elements, cell by cell: what a changed element or field does to them; nothing of the program stands here. -/
import Derived.Test.YtjamibeffalhaaaGreatDoorDmB
import Derived.Test.YtjamibeffalhaaaGreatDoorDzP
import Derived.Test.YtjamibeffalhaaaGreatDoorTieA
import Derived.Test.YtjamibeffalhaaaGreatDoorLcC
import Derived.Shelf.Spec.SlicesInsert
import Derived.Lib.AppendZerosOnto
import Derived.Test.YtjamibeffalhaaaGreatDoorAbsX
import Derived.Lib.SliceRun
set_option linter.unusedVariables false
set_option linter.unusedSimpArgs false
namespace Go.Proofs.YtjamibeffalhaaaGreatDoor
open Go Go.RowKit
/-- How great a made document is. -/
structure DcFew (d : Dc) : Prop where
  z : d.zone.length ≤ 3
  l : d.lk.length ≤ 5
  i : d.iss.size ≤ 2
  h : d.hol.size ≤ 2
  c : d.ce.length ≤ 4
  r : 0 ≤ d.rd ∧ d.rd ≤ 2
  s : 0 ≤ d.st ∧ d.st ≤ 7
  f : 0 ≤ d.safe ∧ d.safe ≤ 17
  n : (0 ≤ d.num ∧ d.num ≤ 60) ∨ d.num = 65537
theorem DcFew.sz {d : Dc} (h : DcFew d) : DcSz d := by
  have e : (16 : Nat) ≤ maxLen := by unfold maxLen; omega
  exact ⟨by have := h.z; omega, by have := h.l; omega, by have := h.i; omega, by have := h.h; omega, by have := h.c; omega⟩
theorem uZ (z : Int) : (issW z).size ≤ 2 := by
  unfold issW
  split
  · decide
  · split <;> decide
theorem uY (z : Int) : (holW z).size ≤ 2 := by
  unfold holW
  split
  · decide
  · split <;> decide
theorem xB (N : List Nd) (V : List Dv) {D : Dk} (hD : DkOk D) : DkOk (dc5 N V D) ∧ (doc0 N V D).zone.length ≤ 2 ∧ (doc0 N V D).lk.length ≤ 5 ∧ (doc0 N V D).ce.length ≤ 2 := by
  have hz := pX (n := N.length) hD.next.next.next.next
  have h3 : DkOk (dc3 N D) := hz.1.next.next.next.next.next
  have h4 : DkOk (dc4 N V D) := dW N V [] 5 0 _ [] h3
  have hl := (kP (N := N) (V := V) (S := []) 5 0 (dc3 N D) [] ⟨by simp, List.Pairwise.nil⟩).2
  have hc := oW ((dc4 N V D).val 3).toNat (dc4 N V D).next [] h4.next
  have hr := (dc4 N V D).in_ (n := 3) (by omega) (by omega)
  have hc2 := hc.2
  rw [List.length_nil] at hc2 hl
  unfold doc0 dc5
  dsimp only
  exact ⟨hc.1, hz.2, by omega, by omega⟩
theorem oS (N : List Nd) (V : List Dv) {D : Dk} (hD : DkOk D) : DkOk (docD N V D).2 ∧ DcFew (docD N V D).1 := by
  obtain ⟨h5, hz, hl, hc⟩ := xB N V hD
  have r1 := D.in_ (n := 60) (by omega) (by omega)
  have r3 := D.next.next.in_ (n := 5) (by omega) (by omega)
  have r4 := D.next.next.next.in_ (n := 3) (by omega) (by omega)
  have q1 := (dc2 N D).in_ (n := 4) (by omega) (by omega)
  have hi : (doc0 N V D).iss.size ≤ 2 := uZ _
  have hh : (doc0 N V D).hol.size ≤ 2 := uY _
  have hr : 0 ≤ (doc0 N V D).rd ∧ (doc0 N V D).rd ≤ 2 := ⟨r4.1, by show D.next.next.next.val 3 ≤ 2; omega⟩
  have hs : 0 ≤ (doc0 N V D).st ∧ (doc0 N V D).st ≤ 7 := ⟨by show 0 ≤ 1 + D.next.next.val 5; omega, by show 1 + D.next.next.val 5 ≤ 7; omega⟩
  have hf : 0 ≤ (doc0 N V D).safe ∧ (doc0 N V D).safe ≤ 17 := ⟨by show 0 ≤ 1 + (dc2 N D).val 4; omega, by show 1 + (dc2 N D).val 4 ≤ 17; omega⟩
  have hn : (0 ≤ (doc0 N V D).num ∧ (doc0 N V D).num ≤ 60) ∨ (doc0 N V D).num = 65537 := .inl ⟨by show 0 ≤ 1 + D.val 60; omega, by show 1 + D.val 60 ≤ 60; omega⟩
  unfold docD
  generalize doc0 N V D = d at *
  have hE := h5.next
  generalize (dc5 N V D).next = E at *
  generalize (dc5 N V D).val 20 = c
  have g8 := E.next.in_ (n := 8) (by omega) (by omega)
  have b : DcFew d := ⟨by omega, hl, hi, hh, by omega, hr, hs, hf, hn⟩
  unfold docC
  split
  · exact ⟨hE.next, { b with n := by dsimp only; split <;> omega }⟩
  split
  · exact ⟨hE.next.next, { b with s := by dsimp only; omega }⟩
  split
  · exact ⟨hE.next, { b with z := by simp; omega }⟩
  split
  · exact ⟨hE.next, { b with f := by dsimp only; split <;> omega }⟩
  split
  · exact ⟨hE, { b with h := hi }⟩
  split
  · exact ⟨hE, { b with }⟩
  split
  · exact ⟨hE, { b with c := by simp; omega }⟩
  split
  · exact ⟨hE, { b with i := (by decide : (⟨#[]⟩ : ByteArray).size ≤ 2) }⟩
  · exact ⟨hE, b⟩
theorem pQ (D : Dk) : (qq D).length = 6 := by
  obtain ⟨c0, c1, c2, c3, c4, c5, -, -, -, -, -, -, e⟩ := iU D
  rw [e]; rfl
theorem xO (D : Dk) : NwOk (qq D) (jj D) := by
  obtain ⟨n1, n2, n3, n4⟩ := uG D
  exact ⟨n1, n2, n3, n4⟩
end Go.Proofs.YtjamibeffalhaaaGreatDoor
namespace Go.Proofs.YtjamibeffalhaaaGreatDoor
open Go Go.RowKit
theorem dK {α : Type} : ∀ (xs cs : List α) (o : Nat), o + xs.length ≤ cs.length → putL cs o xs = cs.take o ++ xs ++ cs.drop (o + xs.length)
  | [], cs, o, h => by simp [putL]
  | x :: xs, cs, o, h => by
    simp at h
    rw [putL, dK xs _ _ (by simp; omega)]
    have e1 : (cs.set o x).take (o + 1) = cs.take o ++ [x] := by
      rw [List.take_add_one, List.take_set_of_le (by omega), List.getElem?_set_self (by omega)]; rfl
    have e2 : (cs.set o x).drop (o + 1 + xs.length) = cs.drop (o + (x :: xs).length) := by
      rw [List.drop_set_of_lt (by omega)]
      congr 1
      simp; omega
    rw [e1, e2]
    simp
section
variable {X : Ctx} {n : Nat} {M : Nat → Option (Array Value)} {ρ : Nat → Nat → Option Value} {σ : AS} {a : Act} {w : World}
/-- A buffer of the frame's own in the place of another one. -/
theorem Rel.ownTo (h : Rel X n M ρ σ a w) (d : Nat) {u v' : Value} {w' : World} {e sz m : Nat} {us us1 : List Value} {L : List AV} (hown0 : fX X w e sz u m us) (hown : w'.ownsRow 0 e sz v' L.length us1) (hg : w.grownBy w' u.ownBlock)
    (hat : v'.ownBlock = u.ownBlock ∨ ∃ g, w.heap.size ≤ g ∧ v'.ownBlock = some g) (hM : ∀ g, vblk u = some g → M g = none) (hne : ∀ s' g, vblk u = some g → yA ρ s' (σ.H s') ≠ some g)
    (hl : us1.length = (L.flatMap AV.cells).length) (hsz : ∀ x ∈ L, x.cells.length = sz) (hrep : ∀ (j : Nat) (x : AV) (y : Value), (L.flatMap AV.cells)[j]? = some x → us1[j]? = some y → Rep M noρ x y ∧ y.oneCell' = true) :
    Rel X n M (updρ ρ d ((σ.H d).k + 1) v') (σ.hup d ⟨(σ.H d).k + 1, .buf e sz L⟩) a w' := by
  have hvu := (jw hown0.1).1
  have hvv := (jw hown).1
  have hmine : X.mine v' := kS hown0 hown hat h.size
  have hm := aB (u := v') (qV h d)
  have hMn : ∀ g, w.heap.size ≤ g → M g = none := fun g hg => by
    cases hx : M g with
    | none => rfl
    | some arr => exact absurd (h.lt hx) (Nat.not_lt.2 hg)
  have hMv : ∀ g, vblk v' = some g → M g = none := fun g hg' => by
    rw [hvv] at hg'
    rcases hat with h1 | ⟨g1, hg1, h1⟩
    · exact hM g (by rw [hvu, ← h1]; exact hg')
    · rw [hg'] at h1; injection h1 with h1; rw [h1]; exact hMn _ hg1
  have hother : ∀ s', s' ≠ d → (σ.hup d ⟨(σ.H d).k + 1, .buf e sz L⟩).H s' = σ.H s' := fun s' hs => by simp [AS.hup, ym hs]
  have hsame : (σ.hup d ⟨(σ.H d).k + 1, .buf e sz L⟩).H d = ⟨(σ.H d).k + 1, .buf e sz L⟩ := by simp [AS.hup, Nat.beq_refl]
  have hblk : ∀ s', s' ≠ d → yA (updρ ρ d ((σ.H d).k + 1) v') s' (σ.H s') = yA ρ s' (σ.H s') := fun s' hs => by
    unfold yA updρ
    cases (σ.H s').c <;> simp [hs]
  have hblks : yA (updρ ρ d ((σ.H d).k + 1) v') d ⟨(σ.H d).k + 1, .buf e sz L⟩ = vblk v' := by simp [yA, updρ]
  have hkeep : ∀ s' g, yA ρ s' (σ.H s') = some g → w'.heap[g]? = w.heap[g]? := fun s' g hg' => hg.block g (h.blk_lt hg').1 (fun e => hne s' g (by rw [hvu]; exact e.symm) hg')
  have hdiff : ∀ s' g, yA ρ s' (σ.H s') = some g → vblk v' ≠ some g := fun s' g hg' e => by
    rw [hvv] at e
    rcases hat with h1 | ⟨g1, hg1, h1⟩
    · exact hne s' g (by rw [hvu, ← h1]; exact e) hg'
    · rw [e] at h1; injection h1 with h1; have := (h.blk_lt hg').1; omega
  refine ⟨fun g arr hgm => ?_, h.sz, fun i => (h.tm i).mono' (fun _ _ e => e) hm, fun s' k cs' e => ?_, fun s' k e1 sz1 L1 he => ?_, fun s1 s2 g e1 e2 => ?_, fun s' k hk => ?_, h.glob, h.base, fun i g e => hm _ _ _ (h.root i g e), hg.os.trans h.os, hg.tape.trans h.tape, hg.output.trans h.output, Nat.le_trans h.size hg.size, fun g hgl hn => ?_, h.df, fun s' k L1 he => by
    obtain ⟨hs, he'⟩ := fQ (by simp) he
    exact (h.mp s' k L1 he').mono hm (fun g hg' => hkeep s' g (h.mp_blk he' hg')) (fun _ _ e => e)⟩
  · obtain ⟨t, fr, hh⟩ := h.live g arr hgm
    refine ⟨t, fr, (hg.block g (h.lt hgm) (fun e => ?_)).trans hh⟩
    rw [hM g (by rw [hvu]; exact e.symm)] at hgm
    cases hgm
  · by_cases hs : s' = d
    · subst hs
      rw [hsame] at e
      injection e with _ e
      cases e
    · rw [hother s' hs] at e
      exact (h.box s' k cs' e).mono (fun _ _ e => e) hm (fun g hg' => hkeep s' g (by rw [e]; simp [yA, hg', vblk])) (fun _ _ e => e)
  · by_cases hs : s' = d
    · subst hs
      rw [hsame] at he
      injection he with e1 e2
      injection e2 with e2 e3 e4
      subst e1; subst e2; subst e3; subst e4
      exact ⟨v', us1, by simp [updρ], ⟨hown, hmine⟩, hMv, hl, hsz, hrep⟩
    · rw [hother s' hs] at he
      exact (h.buf s' k e1 sz1 L1 he).mono (fun _ _ e => e) hm (fun u g hu hg' => hkeep s' g (by rw [he]; simp [yA, hu, hg'])) (fun _ _ _ _ e => e)
  · by_cases h1 : s1 = d
    · by_cases h2 : s2 = d
      · rw [h1, h2]
      · exfalso
        subst h1
        rw [hsame, hblks] at e1
        rw [hother s2 h2, hblk s2 h2] at e2
        exact hdiff s2 g e2 e1
    · by_cases h2 : s2 = d
      · exfalso
        subst h2
        rw [hsame, hblks] at e2
        rw [hother s1 h1, hblk s1 h1] at e1
        exact hdiff s1 g e1 e2
      · rw [hother s1 h1, hblk s1 h1] at e1
        rw [hother s2 h2, hblk s2 h2] at e2
        exact h.sep s1 s2 g e1 e2
  · by_cases hs : s' = d
    · subst hs
      rw [hsame] at hk
      simp only at hk
      unfold updρ
      rw [if_neg (by omega)]
      exact h.fresh s' k (by omega)
    · rw [hother s' hs] at hk
      unfold updρ
      rw [if_neg (fun e => hs e.1)]
      exact h.fresh s' k hk
  · rw [hg.block g (Nat.lt_of_lt_of_le hgl h.size) (fun e => ?_)]
    · exact h.frame g hgl hn
    · rcases hown0.2 g (hvu.trans e.symm) with h1 | h1
      · omega
      · exact hn h1
end
section
variable {P : Program} {X : Ctx} {n : Nat} {ops : Array Oper} {os : List Oper} {acc : List Rule} {σ : AS} {K : List Rule → AS → Prop} {gt : List (Nat × AV)} {ty : TypeId} {ps : String} {af : Array Edge} {g : Option (Nat × Bool)}
end
end Go.Proofs.YtjamibeffalhaaaGreatDoor
namespace Go.Proofs.YtjamibeffalhaaaGreatDoor
open Go Go.RowKit
theorem dH {sz : Nat} : ∀ (L : List AV) (i : Nat), (∀ x ∈ L, x.cells.length = sz) → (L.take i).flatMap AV.cells = (L.flatMap AV.cells).take (i * sz) ∧ (L.drop i).flatMap AV.cells = (L.flatMap AV.cells).drop (i * sz)
  | [], i, _ => by simp
  | x :: L, 0, _ => by simp
  | x :: L, i + 1, h => by
    obtain ⟨h1, h2⟩ := dH L i fun y hy => h y (by simp [hy])
    have hx := h x (by simp)
    have hle : x.cells.length ≤ sz + i * sz := by rw [hx]; exact Nat.le_add_right _ _
    have he : sz + i * sz - x.cells.length = i * sz := by rw [hx]; exact Nat.add_sub_cancel_left _ _
    rw [List.take_succ_cons, List.drop_succ_cons, List.flatMap_cons, List.flatMap_cons, h1, h2, Nat.succ_mul, Nat.add_comm (i * sz) sz]
    constructor
    · rw [List.take_append, List.take_of_length_le hle, he]
    · rw [List.drop_append, List.drop_of_length_le hle, List.nil_append, he]
end Go.Proofs.YtjamibeffalhaaaGreatDoor
namespace Go.Proofs.YtjamibeffalhaaaGreatDoor
open Go Go.RowKit
theorem flat_set {sz : Nat} (L : List AV) (i : Nat) (y : AV) (h : ∀ x ∈ L, x.cells.length = sz) (hy : y.cells.length = sz) (hi : i < L.length) : (L.set i y).flatMap AV.cells = putL (L.flatMap AV.cells) (i * sz) y.cells := by
  obtain ⟨ft, -⟩ := dH L i h
  obtain ⟨-, fd⟩ := dH L (i + 1) h
  have hl : (L.flatMap AV.cells).length = L.length * sz := aA h
  have hle : i * sz + sz ≤ L.length * sz := by rw [← Nat.succ_mul]; exact Nat.mul_le_mul_right _ hi
  rw [dK _ _ _ (by rw [hl, hy]; exact hle), List.set_eq_take_append_cons_drop, if_pos hi, List.flatMap_append, List.flatMap_cons, ft, fd, hy, Nat.succ_mul, List.append_assoc]
theorem vJ {sz : Nat} {L : List AV} {i : Nat} {x : AV} (h : ∀ x ∈ L, x.cells.length = sz) (hx : L[i]? = some x) : ((L.flatMap AV.cells).drop (i * sz)).take sz = x.cells := by
  obtain ⟨-, fd⟩ := dH L i h
  rw [← fd, yV hx, List.flatMap_cons, List.take_append_of_le_length (by rw [h x (List.mem_of_getElem? hx)]; exact Nat.le_refl _), List.take_of_length_le (by rw [h x (List.mem_of_getElem? hx)]; exact Nat.le_refl _)]
end Go.Proofs.YtjamibeffalhaaaGreatDoor
