/- Documents that a deck makes: the deck behind them, and their sizes; by plain functions; nothing of the program stands here / Own buffers handed to a call that gives them back with one element more: copies of rows of any size, the contract, and its law in a walk; conditions: none / What laying elements into, and taking them out of, slices of the caller's own needs, for elements of any size; conditions: none / Rows of elements, cell by cell: what a changed element or field does to them; nothing of the program stands here / Calls that give back a new slice of their own whose elements may hold new slices, from a walk and in a walk; conditions: tables of types that agree with the program's / The reference of Text, by the abstract machine: the numeral of every integer; conditions: none. -/
import Derived.Test.YtjamibeffalhaaaGreatDoorDmB
import Derived.Test.YtjamibeffalhaaaGreatDoorDzP
import Derived.Test.YtjamibeffalhaaaGreatDoorTieA
import Derived.Test.YtjamibeffalhaaaGreatDoorAbsZ
import Derived.Shelf.Spec.SlicesInsert
import Derived.Lib.AppendZerosOnto
import Derived.Test.YtjamibeffalhaaaGreatDoorAbsX
import Derived.Lib.SliceRun
import Derived.Test.YtjamibeffalhaaaGreatDoorTxA
set_option linter.unusedVariables false
set_option linter.unusedSimpArgs false
namespace Go.Proofs.YtjamibeffalhaaaGreatDoor
open Go Go.RowKit
/-- How great a made document is. -/
structure DcFew (d : Dc) : Prop where
  z : d.zone.length ≤ 3
  l : d.lk.length ≤ 5
  i : d.iss.size ≤ 2
  h : d.hol.size ≤ 2
  c : d.ce.length ≤ 4
  r : 0 ≤ d.rd ∧ d.rd ≤ 2
  s : 0 ≤ d.st ∧ d.st ≤ 7
  f : 0 ≤ d.safe ∧ d.safe ≤ 17
  n : (0 ≤ d.num ∧ d.num ≤ 60) ∨ d.num = 65537
theorem DcFew.sz {d : Dc} (h : DcFew d) : DcSz d := by
  have e : (16 : Nat) ≤ maxLen := by unfold maxLen; omega
  exact ⟨by have := h.z; omega, by have := h.l; omega, by have := h.i; omega, by have := h.h; omega, by have := h.c; omega⟩
theorem uS (z : Int) : (issW z).size ≤ 2 := by
  unfold issW
  split
  · decide
  · split <;> decide
theorem uX (z : Int) : (holW z).size ≤ 2 := by
  unfold holW
  split
  · decide
  · split <;> decide
theorem xU (N : List Nd) (V : List Dv) {D : Dk} (hD : DkOk D) : DkOk (dc5 N V D) ∧ (doc0 N V D).zone.length ≤ 2 ∧ (doc0 N V D).lk.length ≤ 5 ∧ (doc0 N V D).ce.length ≤ 2 := by
  have hz := pC (n := N.length) hD.next.next.next.next
  have h3 : DkOk (dc3 N D) := hz.1.next.next.next.next.next
  have h4 : DkOk (dc4 N V D) := eU N V [] 5 0 _ [] h3
  have hl := (lC (N := N) (V := V) (S := []) 5 0 (dc3 N D) [] ⟨by simp, List.Pairwise.nil⟩).2
  have hc := pK ((dc4 N V D).val 3).toNat (dc4 N V D).next [] h4.next
  have hr := (dc4 N V D).in_ (n := 3) (by omega) (by omega)
  have hc2 := hc.2
  rw [List.length_nil] at hc2 hl
  unfold doc0 dc5
  dsimp only
  exact ⟨hc.1, hz.2, by omega, by omega⟩
theorem wV (N : List Nd) (V : List Dv) {D : Dk} (hD : DkOk D) : DkOk (docD N V D).2 ∧ DcFew (docD N V D).1 := by
  obtain ⟨h5, hz, hl, hc⟩ := xU N V hD
  have r1 := D.in_ (n := 60) (by omega) (by omega)
  have r3 := D.next.next.in_ (n := 5) (by omega) (by omega)
  have r4 := D.next.next.next.in_ (n := 3) (by omega) (by omega)
  have q1 := (dc2 N D).in_ (n := 4) (by omega) (by omega)
  have hi : (doc0 N V D).iss.size ≤ 2 := uS _
  have hh : (doc0 N V D).hol.size ≤ 2 := uX _
  have hr : 0 ≤ (doc0 N V D).rd ∧ (doc0 N V D).rd ≤ 2 := ⟨r4.1, by show D.next.next.next.val 3 ≤ 2; omega⟩
  have hs : 0 ≤ (doc0 N V D).st ∧ (doc0 N V D).st ≤ 7 := ⟨by show 0 ≤ 1 + D.next.next.val 5; omega, by show 1 + D.next.next.val 5 ≤ 7; omega⟩
  have hf : 0 ≤ (doc0 N V D).safe ∧ (doc0 N V D).safe ≤ 17 := ⟨by show 0 ≤ 1 + (dc2 N D).val 4; omega, by show 1 + (dc2 N D).val 4 ≤ 17; omega⟩
  have hn : (0 ≤ (doc0 N V D).num ∧ (doc0 N V D).num ≤ 60) ∨ (doc0 N V D).num = 65537 := .inl ⟨by show 0 ≤ 1 + D.val 60; omega, by show 1 + D.val 60 ≤ 60; omega⟩
  unfold docD
  generalize doc0 N V D = d at *
  have hE := h5.next
  generalize (dc5 N V D).next = E at *
  generalize (dc5 N V D).val 20 = c
  have g8 := E.next.in_ (n := 8) (by omega) (by omega)
  have b : DcFew d := ⟨by omega, hl, hi, hh, by omega, hr, hs, hf, hn⟩
  unfold docC
  split
  · exact ⟨hE.next, { b with n := by dsimp only; split <;> omega }⟩
  split
  · exact ⟨hE.next.next, { b with s := by dsimp only; omega }⟩
  split
  · exact ⟨hE.next, { b with z := by simp; omega }⟩
  split
  · exact ⟨hE.next, { b with f := by dsimp only; split <;> omega }⟩
  split
  · exact ⟨hE, { b with h := hi }⟩
  split
  · exact ⟨hE, { b with }⟩
  split
  · exact ⟨hE, { b with c := by simp; omega }⟩
  split
  · exact ⟨hE, { b with i := (by decide : (⟨#[]⟩ : ByteArray).size ≤ 2) }⟩
  · exact ⟨hE, b⟩
theorem xB (D : Dk) : (bF D).length = 6 := by
  obtain ⟨c0, c1, c2, c3, c4, c5, -, -, -, -, -, -, e⟩ := kF D
  rw [e]; rfl
theorem tie_ok (D : Dk) : NwOk (bF D) (qK D) := by
  obtain ⟨n1, n2, n3, n4⟩ := uI D
  exact ⟨n1, n2, n3, n4⟩
end Go.Proofs.YtjamibeffalhaaaGreatDoor
namespace Go.Proofs.YtjamibeffalhaaaGreatDoor
open Go Go.RowKit
theorem eC {α : Type} : ∀ (xs cs : List α) (o : Nat), o + xs.length ≤ cs.length → putL cs o xs = cs.take o ++ xs ++ cs.drop (o + xs.length)
  | [], cs, o, h => by simp [putL]
  | x :: xs, cs, o, h => by
    simp at h
    rw [putL, eC xs _ _ (by simp; omega)]
    have e1 : (cs.set o x).take (o + 1) = cs.take o ++ [x] := by
      rw [List.take_add_one, List.take_set_of_le (by omega), List.getElem?_set_self (by omega)]; rfl
    have e2 : (cs.set o x).drop (o + 1 + xs.length) = cs.drop (o + (x :: xs).length) := by
      rw [List.drop_set_of_lt (by omega)]
      congr 1
      simp; omega
    rw [e1, e2]
    simp
section
variable {X : Ctx} {n : Nat} {M : Nat → Option (Array Value)} {ρ : Nat → Nat → Option Value} {σ : AS} {a : Act} {w : World}
/-- A buffer of the frame's own in the place of another one. -/
theorem Rel.ownTo (h : Rel X n M ρ σ a w) (d : Nat) {u v' : Value} {w' : World} {e sz m : Nat} {us us1 : List Value} {L : List AV} (hown0 : gU X w e sz u m us) (hown : w'.ownsRow 0 e sz v' L.length us1) (hg : w.grownBy w' u.ownBlock)
    (hat : v'.ownBlock = u.ownBlock ∨ ∃ g, w.heap.size ≤ g ∧ v'.ownBlock = some g) (hM : ∀ g, vblk u = some g → M g = none) (hne : ∀ s' g, vblk u = some g → yD ρ s' (σ.H s') ≠ some g)
    (hl : us1.length = (L.flatMap AV.cells).length) (hsz : ∀ x ∈ L, x.cells.length = sz) (hrep : ∀ (j : Nat) (x : AV) (y : Value), (L.flatMap AV.cells)[j]? = some x → us1[j]? = some y → Rep M noρ x y ∧ y.oneCell' = true) :
    Rel X n M (updρ ρ d ((σ.H d).k + 1) v') (σ.hup d ⟨(σ.H d).k + 1, .buf e sz L⟩) a w' := by
  have hvu := (qE hown0.1).1
  have hvv := (qE hown).1
  have hmine : X.mine v' := lF hown0 hown hat h.size
  have hm := aD (u := v') (qh h d)
  have hMn : ∀ g, w.heap.size ≤ g → M g = none := fun g hg => by
    cases hx : M g with
    | none => rfl
    | some arr => exact absurd (h.lt hx) (Nat.not_lt.2 hg)
  have hMv : ∀ g, vblk v' = some g → M g = none := fun g hg' => by
    rw [hvv] at hg'
    rcases hat with h1 | ⟨g1, hg1, h1⟩
    · exact hM g (by rw [hvu, ← h1]; exact hg')
    · rw [hg'] at h1; injection h1 with h1; rw [h1]; exact hMn _ hg1
  have hother : ∀ s', s' ≠ d → (σ.hup d ⟨(σ.H d).k + 1, .buf e sz L⟩).H s' = σ.H s' := fun s' hs => by simp [AS.hup, jE hs]
  have hsame : (σ.hup d ⟨(σ.H d).k + 1, .buf e sz L⟩).H d = ⟨(σ.H d).k + 1, .buf e sz L⟩ := by simp [AS.hup, Nat.beq_refl]
  have hblk : ∀ s', s' ≠ d → yD (updρ ρ d ((σ.H d).k + 1) v') s' (σ.H s') = yD ρ s' (σ.H s') := fun s' hs => by
    unfold yD updρ
    cases (σ.H s').c <;> simp [hs]
  have hblks : yD (updρ ρ d ((σ.H d).k + 1) v') d ⟨(σ.H d).k + 1, .buf e sz L⟩ = vblk v' := by simp [yD, updρ]
  have hkeep : ∀ s' g, yD ρ s' (σ.H s') = some g → w'.heap[g]? = w.heap[g]? := fun s' g hg' => hg.block g (h.blk_lt hg').1 (fun e => hne s' g (by rw [hvu]; exact e.symm) hg')
  have hdiff : ∀ s' g, yD ρ s' (σ.H s') = some g → vblk v' ≠ some g := fun s' g hg' e => by
    rw [hvv] at e
    rcases hat with h1 | ⟨g1, hg1, h1⟩
    · exact hne s' g (by rw [hvu, ← h1]; exact e) hg'
    · rw [e] at h1; injection h1 with h1; have := (h.blk_lt hg').1; omega
  refine ⟨fun g arr hgm => ?_, h.sz, fun i => (h.tm i).mono' (fun _ _ e => e) hm, fun s' k cs' e => ?_, fun s' k e1 sz1 L1 he => ?_, fun s1 s2 g e1 e2 => ?_, fun s' k hk => ?_, h.glob, h.base, fun i g e => hm _ _ _ (h.root i g e), hg.os.trans h.os, hg.tape.trans h.tape, hg.output.trans h.output, Nat.le_trans h.size hg.size, fun g hgl hn => ?_, h.df, fun s' k L1 he => by
    obtain ⟨hs, he'⟩ := gH (by simp) he
    exact (h.mp s' k L1 he').mono hm (fun g hg' => hkeep s' g (h.mp_blk he' hg')) (fun _ _ e => e)⟩
  · obtain ⟨t, fr, hh⟩ := h.live g arr hgm
    refine ⟨t, fr, (hg.block g (h.lt hgm) (fun e => ?_)).trans hh⟩
    rw [hM g (by rw [hvu]; exact e.symm)] at hgm
    cases hgm
  · by_cases hs : s' = d
    · subst hs
      rw [hsame] at e
      injection e with _ e
      cases e
    · rw [hother s' hs] at e
      exact (h.box s' k cs' e).mono (fun _ _ e => e) hm (fun g hg' => hkeep s' g (by rw [e]; simp [yD, hg', vblk])) (fun _ _ e => e)
  · by_cases hs : s' = d
    · subst hs
      rw [hsame] at he
      injection he with e1 e2
      injection e2 with e2 e3 e4
      subst e1; subst e2; subst e3; subst e4
      exact ⟨v', us1, by simp [updρ], ⟨hown, hmine⟩, hMv, hl, hsz, hrep⟩
    · rw [hother s' hs] at he
      exact (h.buf s' k e1 sz1 L1 he).mono (fun _ _ e => e) hm (fun u g hu hg' => hkeep s' g (by rw [he]; simp [yD, hu, hg'])) (fun _ _ _ _ e => e)
  · by_cases h1 : s1 = d
    · by_cases h2 : s2 = d
      · rw [h1, h2]
      · exfalso
        subst h1
        rw [hsame, hblks] at e1
        rw [hother s2 h2, hblk s2 h2] at e2
        exact hdiff s2 g e2 e1
    · by_cases h2 : s2 = d
      · exfalso
        subst h2
        rw [hsame, hblks] at e2
        rw [hother s1 h1, hblk s1 h1] at e1
        exact hdiff s1 g e1 e2
      · rw [hother s1 h1, hblk s1 h1] at e1
        rw [hother s2 h2, hblk s2 h2] at e2
        exact h.sep s1 s2 g e1 e2
  · by_cases hs : s' = d
    · subst hs
      rw [hsame] at hk
      simp only at hk
      unfold updρ
      rw [if_neg (by omega)]
      exact h.fresh s' k (by omega)
    · rw [hother s' hs] at hk
      unfold updρ
      rw [if_neg (fun e => hs e.1)]
      exact h.fresh s' k hk
  · rw [hg.block g (Nat.lt_of_lt_of_le hgl h.size) (fun e => ?_)]
    · exact h.frame g hgl hn
    · rcases hown0.2 g (hvu.trans e.symm) with h1 | h1
      · omega
      · exact hn h1
end
section
variable {P : Program} {X : Ctx} {n : Nat} {ops : Array Oper} {os : List Oper} {acc : List Rule} {σ : AS} {K : List Rule → AS → Prop} {gt : List (Nat × AV)} {ty : TypeId} {ps : String} {af : Array Edge} {g : Option (Nat × Bool)}
end
end Go.Proofs.YtjamibeffalhaaaGreatDoor
namespace Go.Proofs.YtjamibeffalhaaaGreatDoor
open Go Go.RowKit
theorem gJ {sz : Nat} : ∀ (L : List AV) (i : Nat), (∀ x ∈ L, x.cells.length = sz) → (L.take i).flatMap AV.cells = (L.flatMap AV.cells).take (i * sz) ∧ (L.drop i).flatMap AV.cells = (L.flatMap AV.cells).drop (i * sz)
  | [], i, _ => by simp
  | x :: L, 0, _ => by simp
  | x :: L, i + 1, h => by
    obtain ⟨h1, h2⟩ := gJ L i fun y hy => h y (by simp [hy])
    have hx := h x (by simp)
    have hle : x.cells.length ≤ sz + i * sz := by rw [hx]; exact Nat.le_add_right _ _
    have he : sz + i * sz - x.cells.length = i * sz := by rw [hx]; exact Nat.add_sub_cancel_left _ _
    rw [List.take_succ_cons, List.drop_succ_cons, List.flatMap_cons, List.flatMap_cons, h1, h2, Nat.succ_mul, Nat.add_comm (i * sz) sz]
    constructor
    · rw [List.take_append, List.take_of_length_le hle, he]
    · rw [List.drop_append, List.drop_of_length_le hle, List.nil_append, he]
end Go.Proofs.YtjamibeffalhaaaGreatDoor
namespace Go.Proofs.YtjamibeffalhaaaGreatDoor
open Go Go.RowKit
theorem flat_set {sz : Nat} (L : List AV) (i : Nat) (y : AV) (h : ∀ x ∈ L, x.cells.length = sz) (hy : y.cells.length = sz) (hi : i < L.length) : (L.set i y).flatMap AV.cells = putL (L.flatMap AV.cells) (i * sz) y.cells := by
  obtain ⟨ft, -⟩ := gJ L i h
  obtain ⟨-, fd⟩ := gJ L (i + 1) h
  have hl : (L.flatMap AV.cells).length = L.length * sz := bD h
  have hle : i * sz + sz ≤ L.length * sz := by rw [← Nat.succ_mul]; exact Nat.mul_le_mul_right _ hi
  rw [eC _ _ _ (by rw [hl, hy]; exact hle), List.set_eq_take_append_cons_drop, if_pos hi, List.flatMap_append, List.flatMap_cons, ft, fd, hy, Nat.succ_mul, List.append_assoc]
end Go.Proofs.YtjamibeffalhaaaGreatDoor
namespace Go.Proofs.YtjamibeffalhaaaGreatDoor
open Go Go.RowKit
def lX (M : Nat → Option (Array Value)) (w : World) (e sz : Nat) (L : List AV) (en : Ending) (w' : World) : Prop :=
  ∃ u us M', en = .returned u ∧ (∀ g a, M g = some a → M' g = some a) ∧ aY M' w' ∧ (∀ g, g < w.heap.size → M g = none → M' g = none) ∧ Below w.heap.size w w' ∧ w'.ownsRow w.heap.size e sz u L.length us ∧ (∀ g, vblk u = some g → M' g = none) ∧
    us.length = (L.flatMap AV.cells).length ∧ (∀ x ∈ L, x.cells.length = sz) ∧ ∀ (j : Nat) (x : AV) (y : Value), (L.flatMap AV.cells)[j]? = some x → us[j]? = some y → Rep M' noρ x y ∧ y.oneCell' = true
def nO (P : Program) (G : Nat → Option (List Value)) (f : FuncId) (args : List AV) (e sz : Nat) (L : List AV) : Prop :=
  cX P f ∧ ∀ M w (vs : List Value), aY M w → (∀ g us, G g = some us → M g = some ⟨us⟩) → vs.length = args.length → (∀ (j : Nat) (x : AV) (u : Value), args[j]? = some x → vs[j]? = some u → Rep M (refρ []) x u) → Calls P f ⟨vs⟩ w (lX M w e sz L)
def RetW (TB : Tabs) (fn : Func) (e sz : Nat) (L : List AV) : Exit → AS → Prop := fun ex σ =>
  (ex = .normal ∨ ex = .ret) ∧ ∃ s k, ResL TB σ fn.results.toList [.own s k] ∧ σ.H s = ⟨k, .buf e sz L⟩
theorem retW {TB : Tabs} {fn : Func} {e sz s k t1 : Nat} {L : List AV} {σ : AS} {ex : Exit} (he : ex = .normal ∨ ex = .ret) (hfn : fn.results = #[.tmp t1]) (h1 : σ.T t1 = .own s k) (hH : σ.H s = ⟨k, .buf e sz L⟩) : RetW TB fn e sz L ex σ := by
  refine ⟨he, s, k, ?_, hH⟩
  rw [hfn, ← h1]
  exact ⟨.tmp t1, trivial⟩
section
variable {P : Program} {TB : Tabs} {G : Nat → Option (List Value)} {f : FuncId} {args : List AV} {e sz : Nat} {L : List AV}
theorem sK (hTB : TabsOk P TB) {fn : Func} {c : Code} (he : cX P f) (hf : P.funcs[f]? = some fn) (hb : fn.body = some c) (n : Nat) (hn : fn.ntmps = n) (hle : args.length ≤ n)
    (h : ∀ X : Ctx, X.G = G → AWp P X n c (RetW TB fn e sz L) (dE args [])) : nO P G f args e sz L := by
  refine ⟨he, fun M w vs hl hG hv hrep => ?_⟩
  refine calls_of_wp hf hb ?_
  rw [hn]
  have hR := mB (n := n) (gs := []) (refs := []) hl hG (by simp) ⟨rfl, by simp⟩ hv hrep hle
  refine wp_mono ((h ⟨w, [], [], G, M⟩ rfl).run M (refρ []) _ w hR) ?_
  rintro ex a' w' ⟨M', ρ', σ', hR', hex, s, k, hx, hH⟩
  obtain ⟨u, hu, hru⟩ := nN hTB hR' hx
  have hru' : Rep M' ρ' (.own s k) u := hru
  obtain ⟨v, us, b1, b2, b3, b4, b5, b6⟩ := hR'.buf s k e sz L hH
  have hvu : v = u := by
    cases hru' with
    | own _ _ _ _ h1 _ => rw [h1] at b1; injection b1 with b1; exact b1.symm
  subst hvu
  have hM0 : ∀ g a, M g = some a → M' g = some a := fun g a h => by
    obtain ⟨t, fr, hh⟩ := hl g a h
    rw [hR'.base g (Array.getElem?_eq_some_iff.1 hh).1 (by simp)]; exact h
  have hpost : lX M w e sz L (.returned v) w' := ⟨v, us, M', rfl, hM0, hR'.live, fun g hg hn => by rw [hR'.base g hg (by simp)]; exact hn, ⟨hR'.os, hR'.tape, hR'.output, hR'.size, fun g hg => hR'.frame g hg (by simp)⟩, b2.up rfl, b3, b4, b5, b6⟩
  rcases hex with rfl | rfl
  · exact ⟨hR'.df, v, hu, hpost⟩
  · exact ⟨hR'.df, v, hu, hpost⟩
end
section
variable {P : Program} {X : Ctx} {n : Nat} {ops : Array Oper} {os : List Oper} {acc : List Rule} {σ : AS} {K : List Rule → AS → Prop} {gt : List (Nat × AV)} {ty : TypeId} {ps : String} {af : Array Edge} {g : Option (Nat × Bool)}
theorem oO {f : FuncId} {tys : Array TypeId} {xs : List Operand} {args : List AV} {d k0 e sz : Nat} {q0 : Cont} {L : List AV} (hc : nO P X.G f args e sz L) (hargs : RenL noB (πs []) args (xs.map (ev σ))) (hH0 : σ.H d = ⟨k0, q0⟩)
    (h : Exec P X n ops os (mkG gt σ xs [d] (some d) (.own d (k0 + 1)) [(d, ⟨k0 + 1, .buf e sz L⟩)] :: acc) ((σ.hup d ⟨k0 + 1, .buf e sz L⟩).put (some d) (.own d (k0 + 1))) K) :
    Op1 P X n ops gt ⟨some d, .call ⟨.value (.func f), xs.toArray, tys⟩, ty, ps, af, g⟩ os acc σ K := by
  obtain rfl : (σ.H d).k = k0 := by rw [hH0]
  refine ⟨⟨mkR σ xs [d] (some d) (.own d ((σ.H d).k + 1)) [(d, ⟨(σ.H d).k + 1, .buf e sz L⟩)], fun hlt M ρ τ a w hf hR K Q hK => ?_, yV _ _ _ _ _ _, h⟩⟩
  have hH := jh hf (s := d) (by simp)
  obtain ⟨c1, c2, c3, c4⟩ := iC (ss := []) (refs := []) hR (by simp) trivial
  obtain ⟨a1, a2⟩ := cJ hR (fun x hx => yo hf hx) hargs c3
  unfold Oper.wp
  rw [dH hc.1, Oper.upon_enter]
  refine (hc.2 M w _ hR.live hR.glob a1 a2).mono ?_
  rintro en w' ⟨u, us, M', rfl, p1, p2, p3, hb, hown, q0, q1, q2, q3⟩
  have hR' := hR.call (ss := []) (gs := []) (cs' := []) (w' := w') (by simp) rfl rfl (by simp) p1 p2 hb.os hb.tape hb.output hb.size (fun g hg _ => hb.block g hg) p3 (by simp)
  have hR' : Rel X n M' ρ τ a w' := hR'
  have hown' := vD (X := X) hown hR.size
  have hne : ∀ s' g, vblk u = some g → yD ρ s' (τ.H s') ≠ some g := fun s' g hg e => by
    have hlt := (hR.blk_lt e).1
    rcases hown.2 with ⟨rfl, _⟩ | ⟨g', cap, cur, rfl, hg', _⟩
    · simp [vblk] at hg
    · simp [vblk] at hg
      omega
  have hA := hR'.ownTo d (L := L) hown' hown'.1 ⟨rfl, rfl, rfl, Nat.le_refl _, fun _ _ _ => rfl⟩ (.inl rfl) q0 hne q1 q2 q3
  rw [hH] at hA
  refine hK M' _ _ w' (hA.put (.own _ _ _ _ ?_ (qE hown'.1).2) hlt)
  simp [updρ]
end
section
variable {X : Ctx} {n : Nat} {M : Nat → Option (Array Value)} {ρ : Nat → Nat → Option Value} {σ : AS} {a : Act} {w : World}
end
section
variable {P : Program} {X : Ctx} {n : Nat} {ops : Array Oper} {os : List Oper} {acc : List Rule} {σ : AS} {K : List Rule → AS → Prop} {gt : List (Nat × AV)} {ty : TypeId} {ps : String} {af : Array Edge} {g : Option (Nat × Bool)}
end
section
variable {P : Program} {X : Ctx} {n : Nat} {ops : Array Oper} {os : List Oper} {acc : List Rule} {σ : AS} {K : List Rule → AS → Prop} {gt : List (Nat × AV)} {ty : TypeId} {ps : String} {af : Array Edge} {g : Option (Nat × Bool)} {TB : Tabs} (hTB : TabsOk P TB)
include hTB
end
end Go.Proofs.YtjamibeffalhaaaGreatDoor
namespace Go.Proofs.YtjamibeffalhaaaGreatDoor
open Go Go.RowKit
set_option maxRecDepth 10000
variable {G : Nat → Option (List Value)}
theorem tdm (m : Int) : (m.tdiv 10).natAbs = m.natAbs / 10 ∧ (m.tmod 10).natAbs = m.natAbs % 10 ∧ (0 ≤ m → 0 ≤ m.tdiv 10 ∧ 0 ≤ m.tmod 10) ∧ (m ≤ 0 → m.tdiv 10 ≤ 0 ∧ m.tmod 10 ≤ 0) := by
  rcases Int.le_total 0 m with h | h
  · rw [Int.tdiv_eq_ediv_of_nonneg h, Int.tmod_eq_emod_of_nonneg h]
    refine ⟨by omega, by omega, by omega, by omega⟩
  · obtain ⟨p, rfl⟩ : ∃ p, m = -p := ⟨-m, by omega⟩
    have hp : 0 ≤ p := by omega
    rw [Int.neg_tdiv, Int.neg_tmod, Int.tdiv_eq_ediv_of_nonneg hp, Int.tmod_eq_emod_of_nonneg hp]
    refine ⟨by omega, by omega, by omega, by omega⟩
theorem ba_ext {s : ByteArray} {l : List UInt8} (h : s.data.toList = l) : s = ⟨l.toArray⟩ := by
  subst h; rfl
theorem nR (a b : ByteArray) : (a ++ b).data.toList = a.data.toList ++ b.data.toList := by simp
set_option maxHeartbeats 2000000 in
theorem cA (n : Int) (h1 : -9223372036854775808 ≤ n) (h2 : n ≤ 9223372036854775807) : zz Tryz.prog G 33 [.v (.int .i64 n)] [] (.v (.string (txtP n))) [] := by
  have hi := mP n
  have hln : (digs n.natAbs).length ≤ 19 := kM 19 _ (by omega)
  refine zb tbOk (zc Tryz.func33 (by kernel_rfl) rfl) Tryz.func33 rfl _ Tryz.ntmps33 (Nat.le_of_ble_eq_true rfl) fun X hX => ?_
  subst hX
  repeat (first | ((with_reducible refine zK ?_); refine zJ rfl ?_) | ((with_reducible refine zE ?_); refine zF rfl ?_) | ((with_reducible refine zQ ?_); refine zT rfl rfl rfl ?_)  | refine zL ?_ | refine zB rfl ?_ | with_reducible (first | refine zG ?_ | refine zH ?_) | ((with_reducible refine zA ?_ ?_); kernel_rfl))
  refine zZ rfl (fun h => ?_) (fun h => ?_)
  · have h0 : n = 0 := by simpa using h
    rw [if_pos h0] at hi
    repeat (first | ((with_reducible refine zE ?_); refine zF rfl ?_)  | refine zL ?_ | refine zB rfl ?_ | with_reducible (first | refine zG ?_ | refine zO ?_ | refine zH ?_ | refine zN ?_) | ((with_reducible refine zA ?_ ?_); kernel_rfl))
    refine zm (by first | exact .inr rfl | exact .inl rfl) rfl rfl ?_
    unfold txtP
    rw [hi]
  · have h0 : n ≠ 0 := by simpa using h
    rw [if_neg h0] at hi
    repeat (first | ((with_reducible refine zK ?_); refine zJ rfl ?_) | ((with_reducible refine zE ?_); refine zF rfl ?_)  | refine zL ?_ | refine zB rfl ?_ | with_reducible (first | refine zG ?_ | refine zH ?_ | refine zY ?_ | refine zS ?_) | ((with_reducible refine zA ?_ ?_); kernel_rfl))
    refine yL (ι := Int × ByteArray) (fun q => (n < 0 → q.1 ≤ 0) ∧ (0 < n → 0 ≤ q.1) ∧ q.1.natAbs ≤ n.natAbs ∧ digs q.1.natAbs ++ q.2.data.toList = digs n.natAbs) (fun q => q.1.natAbs) (fun v q => [(0, .v (.int .i64 n)), (3, .v (.string q.2)), (4, .v (.int .i64 q.1))]) (fun v q => []) ?_ ?_
    · exact ⟨(n, ⟨#[]⟩), ⟨by show n < 0 → n ≤ 0; omega, by show 0 < n → 0 ≤ n; omega, Nat.le_refl _, by simp⟩, trivial, ⟨rfl, rfl, rfl, trivial⟩, trivial⟩
    rintro v ⟨m, s⟩ ⟨hm1, hm2, hm3, hf⟩
    simp only at hm1 hm2 hm3 hf
    dsimp only
    have hsl : s.size ≤ 19 := by
      have := congrArg List.length hf
      rw [List.length_append] at this
      have e : s.size = s.data.toList.length := by simp
      omega
    repeat (first | ((with_reducible refine zK ?_); refine zJ rfl ?_) | ((with_reducible refine zQ ?_); refine zT rfl rfl rfl ?_)  | refine zL ?_ | refine zB rfl ?_ | with_reducible (first | refine zG ?_ | refine zH ?_) | ((with_reducible refine zA ?_ ?_); kernel_rfl))
    refine zZ rfl (fun h => ?_) (fun h => ?_)
    · have hm0 : m ≠ 0 := by simpa using h
      obtain ⟨t1, t2, t3, t4⟩ := tdm m
      rw [mU (by omega), List.append_assoc] at hf
      have hwq : IntKind.i64.wrap (m.tdiv 10) = m.tdiv 10 := yg (by omega)
      repeat (first | ((with_reducible refine zK ?_); refine zJ rfl ?_) | ((with_reducible refine zE ?_); refine zF rfl ?_) | ((with_reducible refine zQ ?_); (first | refine zT rfl rfl rfl ?_ | refine tU rfl rfl (by first | decide | assumption | omega) ?_))  | refine zL ?_ | refine zB rfl ?_ | with_reducible (first | refine zG ?_ | refine zH ?_ | refine zY ?_ | refine zS ?_) | ((with_reducible refine zA ?_ ?_); kernel_rfl))
      refine zZ rfl (fun hd => ?_) (fun hd => ?_)
      · have hd2 : m.tmod 10 < 0 := by simpa using hd
        have hw : IntKind.i64.wrap (0 - m.tmod 10) = ((m.natAbs % 10 : Nat) : Int) := by rw [yg (by omega)]; omega
        repeat (first | ((with_reducible refine zK ?_); refine zJ rfl ?_) | ((with_reducible refine zE ?_); refine zF rfl ?_) | ((with_reducible refine k_un ?_); refine x_neg rfl ?_) | ((with_reducible refine jS ?_); refine qM tbOk rfl rfl rfl (by first | assumption | exact jQ (by omega) | exact yg (by omega) | exact jj (by omega)) ?_) | ((with_reducible refine zQ ?_); refine zg rfl rfl (by omega) ?_) | ((with_reducible refine zr ?_); refine zx tbOk rfl rfl rfl rfl rfl (by omega) rfl rfl rfl ?_) | refine zL ?_ | refine zB rfl ?_ | with_reducible refine zG ?_ | ((with_reducible refine zA ?_ ?_); kernel_rfl))
        refine bO Tryz.underlying42 Tryz.underlying5 Tryz.underlying9 rfl rfl (by simp) ?_
        repeat (first | ((with_reducible refine zK ?_); refine zJ rfl ?_)  | refine zB rfl ?_  )
        refine yc rfl rfl (by rw [strOfNums_size]; simp; omega) ?_
        repeat (first | ((with_reducible refine zK ?_); refine zJ rfl ?_) | ((with_reducible refine zE ?_); refine zF rfl ?_) | ((with_reducible refine zQ ?_); refine lY rfl rfl (by first | decide | assumption | omega) ?_)  | refine zL ?_ | refine zB rfl ?_ | with_reducible (first | refine zG ?_ | refine zu ?_) | ((with_reducible refine zA ?_ ?_); kernel_rfl))
        refine ⟨(IntKind.i64.wrap (m.tdiv 10), strOfNums [48 + IntKind.i64.wrap (0 - m.tmod 10)] ++ s), ?_, ?_, ⟨rfl, rfl, rfl, trivial⟩, trivial⟩
        · dsimp only
          rw [hwq]
          refine ⟨by omega, by omega, by omega, ?_⟩
          rw [← hf, t1, nR, strOfNums_data, hw]
          refine congrArg (_ ++ ·) (congrArg (· ++ _) ?_)
          show [_] = [_]
          congr 2
        · dsimp only
          rw [hwq]
          omega
      · have hd2 : ¬ m.tmod 10 < 0 := by simpa using hd
        have hw : m.tmod 10 = ((m.natAbs % 10 : Nat) : Int) := by omega
        repeat (first | ((with_reducible refine zK ?_); refine zJ rfl ?_) | ((with_reducible refine jS ?_); refine qM tbOk rfl rfl rfl (by first | assumption | exact jQ (by omega) | exact yg (by omega) | exact jj (by omega)) ?_) | ((with_reducible refine zQ ?_); refine zg rfl rfl (by omega) ?_) | ((with_reducible refine zr ?_); refine zx tbOk rfl rfl rfl rfl rfl (by omega) rfl rfl rfl ?_) | refine zB rfl ?_ | with_reducible (first | refine zG ?_ | refine zS ?_) | ((with_reducible refine zA ?_ ?_); kernel_rfl))
        refine bO Tryz.underlying42 Tryz.underlying5 Tryz.underlying9 rfl rfl (by simp) ?_
        repeat (first | ((with_reducible refine zK ?_); refine zJ rfl ?_)  | refine zB rfl ?_  )
        refine yc rfl rfl (by rw [strOfNums_size]; simp; omega) ?_
        repeat (first | ((with_reducible refine zK ?_); refine zJ rfl ?_) | ((with_reducible refine zE ?_); refine zF rfl ?_) | ((with_reducible refine zQ ?_); refine lY rfl rfl (by first | decide | assumption | omega) ?_)  | refine zL ?_ | refine zB rfl ?_ | with_reducible (first | refine zG ?_ | refine zu ?_) | ((with_reducible refine zA ?_ ?_); kernel_rfl))
        refine ⟨(IntKind.i64.wrap (m.tdiv 10), strOfNums [48 + m.tmod 10] ++ s), ?_, ?_, ⟨rfl, rfl, rfl, trivial⟩, trivial⟩
        · dsimp only
          rw [hwq]
          refine ⟨by omega, by omega, by omega, ?_⟩
          rw [← hf, t1, nR, strOfNums_data, hw]
          refine congrArg (_ ++ ·) (congrArg (· ++ _) ?_)
          show [_] = [_]
          congr 2
        · dsimp only
          rw [hwq]
          omega
    · have hm0 : m = 0 := by simpa using h
      have hf2 : s.data.toList = digs n.natAbs := by rw [← hf, hm0]; rfl
      repeat (first | ((with_reducible refine zK ?_); refine zJ rfl ?_) | ((with_reducible refine zQ ?_); refine zT rfl rfl rfl ?_)  | refine zL ?_ | refine zB rfl ?_ | with_reducible (first | refine zG ?_ | refine zo ?_ | refine zH ?_ | refine yB ?_) | ((with_reducible refine ze ?_ ?_); rfl) | ((with_reducible refine zA ?_ ?_); kernel_rfl))
      refine zZ rfl (fun hd => ?_) (fun hd => ?_)
      · rw [if_pos (by simpa using hd)] at hi
        repeat (first | ((with_reducible refine zK ?_); refine zJ rfl ?_)  | refine zB rfl ?_  | ((with_reducible refine zA ?_ ?_); kernel_rfl))
        refine yc rfl rfl (by show 1 + s.size ≤ _; omega) ?_
        repeat (first | ((with_reducible refine zK ?_); refine zJ rfl ?_) | ((with_reducible refine zE ?_); refine zF rfl ?_)  | refine zL ?_ | refine zB rfl ?_ | with_reducible (first | refine zG ?_ | refine zH ?_ | refine zN ?_) | ((with_reducible refine zA ?_ ?_); kernel_rfl))
        refine zm (by first | exact .inr rfl | exact .inl rfl) rfl rfl ?_
        unfold txtP
        rw [hi, ← hf2]
        refine congrArg (fun s => AV.v (.string s)) (Eq.symm (ba_ext ?_))
        rw [nR]; rfl
      · rw [if_neg (by simpa using hd)] at hi
        repeat (first | ((with_reducible refine zK ?_); refine zJ rfl ?_) | ((with_reducible refine zE ?_); refine zF rfl ?_)  | refine zL ?_ | refine zB rfl ?_ | with_reducible (first | refine zG ?_ | refine zH ?_ | refine zS ?_ | refine zN ?_) | ((with_reducible refine zA ?_ ?_); kernel_rfl))
        refine zm (by first | exact .inr rfl | exact .inl rfl) rfl rfl ?_
        unfold txtP
        rw [hi, ← hf2]
end Go.Proofs.YtjamibeffalhaaaGreatDoor
