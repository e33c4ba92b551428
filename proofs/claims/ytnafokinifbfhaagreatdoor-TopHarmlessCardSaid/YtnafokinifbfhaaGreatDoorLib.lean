/- Words for memory that the walks of this seat share: nothing of the program stands here; conditions: none. -/
import Derived.WalkKit
import Derived.Maps.AppendAt
import Derived.Deep.AppendLies
import Derived.RegionTactic
import Derived.Deep.Draws
import Derived.Deep.Quiet
set_option linter.unusedVariables false
set_option linter.unusedSimpArgs false
namespace Go.Proofs.YtnafokinifbfhaaGreatDoor
open Go Go.RowKit
theorem zv {α : Type} {L : List α} {k : Nat} {x : α} (h : L[k]? = some x) : L.drop k = x :: L.drop (k + 1) := by
  obtain ⟨hk, rfl⟩ := List.getElem?_eq_some_iff.1 h
  exact List.drop_eq_getElem_cons hk
theorem yr {α : Type} {L : List α} {k : Nat} {x : α} (h : L[k]? = some x) : L.take (k + 1) = L.take k ++ [x] := by
  obtain ⟨hk, rfl⟩ := List.getElem?_eq_some_iff.1 h
  rw [List.take_succ_eq_append_getElem hk]
theorem zB {α : Type} {L : List α} {k : Nat} (h : k < L.length) : ∃ x, L[k]? = some x := ⟨_, List.getElem?_eq_getElem h⟩
theorem zM {α : Type} {L : List α} {k : Nat} {x : α} (h : L[k]? = some x) : k < L.length := (List.getElem?_eq_some_iff.1 h).1

/-- A block known whole. -/
def Blk (w : World) (g : Nat) (t : TypeId) (cs : Array Value) : Prop := w.heap[g]? = some (.cells cs t (0, 0))
section
variable {w w' : World} {g : Nat} {t : TypeId} {cs : Array Value}
theorem Blk.lt (h : Blk w g t cs) : g < w.heap.size := by
  rcases Nat.lt_or_ge g w.heap.size with hlt | hge
  · exact hlt
  · unfold Blk at h; rw [Array.getElem?_eq_none hge] at h; cases h
theorem Blk.cell (h : Blk w g t cs) (i : Nat) : w.cell? ⟨g, i, none⟩ = cs[i]? := cell_of_row w g i cs t (0, 0) h
theorem Blk.frozen (h : Blk w g t cs) (i : Nat) : w.frozen? ⟨g, i, none⟩ = false := by
  unfold Blk at h
  simp [World.frozen?, h]
theorem Blk.new (w : World) (t : TypeId) (cs : Array Value) : Blk (w.alloc (.cells cs t)) w.heap.size t cs := heap_alloc_new w _
theorem Blk.newAt {n : Nat} (w : World) (t : TypeId) (cs : Array Value) (h : n = w.heap.size) : Blk (w.alloc (.cells cs t)) n t cs := by subst h; exact Blk.new w t cs
theorem Blk.alloc (h : Blk w g t cs) (o : Obj) : Blk (w.alloc o) g t cs := (Below.heap_alloc w o g h.lt).trans h
theorem Blk.set_ (h : Blk w g t cs) (i : Nat) (u : Value) : Blk (w.setCell ⟨g, i, none⟩ u) g t (cs.setIfInBounds i u) := by
  unfold Blk at h ⊢
  simp [World.setCell, Array.getElem?_modify, h]
theorem Blk.far (h : Blk w g t cs) {p : Addr} (hp : g ≠ p.block) (u : Value) : Blk (w.setCell p u) g t cs := (Below.heap_setCell w p u g hp).trans h
theorem Blk.grown {row : Option Nat} (h : Blk w g t cs) (hb : w.grownBy w' row) (hg : some g ≠ row) : Blk w' g t cs := (hb.block g h.lt hg).trans h
end

section
variable {w : World} {g : Nat} {t : TypeId} {a b c d e f : Value}
theorem Blk.c1 (h : Blk w g t #[a]) : w.cell? ⟨g, 0, none⟩ = some a := h.cell 0
theorem Blk.c2 (h : Blk w g t #[a, b]) : w.cell? ⟨g, 0, none⟩ = some a ∧ w.cell? ⟨g, 1, none⟩ = some b := ⟨h.cell 0, h.cell 1⟩
theorem Blk.c3 (h : Blk w g t #[a, b, c]) : w.cell? ⟨g, 0, none⟩ = some a ∧ w.cell? ⟨g, 1, none⟩ = some b ∧ w.cell? ⟨g, 2, none⟩ = some c := ⟨h.cell 0, h.cell 1, h.cell 2⟩
theorem Blk.c4 (h : Blk w g t #[a, b, c, d]) : w.cell? ⟨g, 0, none⟩ = some a ∧ w.cell? ⟨g, 1, none⟩ = some b ∧ w.cell? ⟨g, 2, none⟩ = some c ∧ w.cell? ⟨g, 3, none⟩ = some d := ⟨h.cell 0, h.cell 1, h.cell 2, h.cell 3⟩
theorem Blk.c5 (h : Blk w g t #[a, b, c, d, e]) : w.cell? ⟨g, 0, none⟩ = some a ∧ w.cell? ⟨g, 1, none⟩ = some b ∧ w.cell? ⟨g, 2, none⟩ = some c ∧ w.cell? ⟨g, 3, none⟩ = some d ∧ w.cell? ⟨g, 4, none⟩ = some e :=
  ⟨h.cell 0, h.cell 1, h.cell 2, h.cell 3, h.cell 4⟩
theorem Blk.c6 (h : Blk w g t #[a, b, c, d, e, f]) : w.cell? ⟨g, 0, none⟩ = some a ∧ w.cell? ⟨g, 1, none⟩ = some b ∧ w.cell? ⟨g, 2, none⟩ = some c ∧ w.cell? ⟨g, 3, none⟩ = some d ∧ w.cell? ⟨g, 4, none⟩ = some e ∧ w.cell? ⟨g, 5, none⟩ = some f :=
  ⟨h.cell 0, h.cell 1, h.cell 2, h.cell 3, h.cell 4, h.cell 5⟩
theorem Blk.f1 {cs : Array Value} (h : Blk w g t cs) : w.frozen? ⟨g, 0, none⟩ = false := h.frozen 0
theorem Blk.f2 {cs : Array Value} (h : Blk w g t cs) : w.frozen? ⟨g, 0, none⟩ = false ∧ w.frozen? ⟨g, 1, none⟩ = false := ⟨h.frozen 0, h.frozen 1⟩
theorem Blk.f3 {cs : Array Value} (h : Blk w g t cs) : w.frozen? ⟨g, 0, none⟩ = false ∧ w.frozen? ⟨g, 1, none⟩ = false ∧ w.frozen? ⟨g, 2, none⟩ = false := ⟨h.frozen 0, h.frozen 1, h.frozen 2⟩
theorem Blk.f5 {cs : Array Value} (h : Blk w g t cs) : w.frozen? ⟨g, 0, none⟩ = false ∧ w.frozen? ⟨g, 1, none⟩ = false ∧ w.frozen? ⟨g, 2, none⟩ = false ∧ w.frozen? ⟨g, 3, none⟩ = false ∧ w.frozen? ⟨g, 4, none⟩ = false :=
  ⟨h.frozen 0, h.frozen 1, h.frozen 2, h.frozen 3, h.frozen 4⟩
end
/-- Only block g, and what is new, has turned. -/
def Only (g : Nat) (w w' : World) : Prop := w.grownBy w' (some g)
section
variable {g : Nat} {a b c w : World}
theorem Only.refl (g : Nat) (w : World) : Only g w w := ⟨rfl, rfl, rfl, Nat.le_refl _, fun _ _ _ => rfl⟩
theorem Only.trans (h : Only g a b) (k : Only g b c) : Only g a c :=
  ⟨k.os.trans h.os, k.tape.trans h.tape, k.output.trans h.output, Nat.le_trans h.size k.size, fun i hi hn => (k.block i (Nat.lt_of_lt_of_le hi h.size) hn).trans (h.block i hi hn)⟩
theorem Only.alloc (h : Only g a w) (o : Obj) : Only g a (w.alloc o) := h.trans ⟨rfl, rfl, rfl, by simp, fun k hk _ => Below.heap_alloc w o k hk⟩
theorem Only.setCell (h : Only g a w) {p : Addr} (hp : p.block = g ∨ a.heap.size ≤ p.block) (u : Value) : Only g a (w.setCell p u) :=
  ⟨h.os, h.tape, h.output, by simpa [World.setCell] using h.size, fun i hi hne => (Below.heap_setCell w p u i (by
    rintro rfl
    rcases hp with hp | hp
    · exact hne (by rw [hp])
    · omega)).trans (h.block i hi hne)⟩
theorem Only.grown {row : Option Nat} (h : Only g a b) (hg : b.grownBy c row) (hr : ∀ k, row = some k → a.heap.size ≤ k) : Only g a c :=
  ⟨hg.os.trans h.os, hg.tape.trans h.tape, hg.output.trans h.output, Nat.le_trans h.size hg.size,
    fun i hi hn => (hg.block i (Nat.lt_of_lt_of_le hi h.size) (fun e => by have := hr i e.symm; omega)).trans (h.block i hi hn)⟩
theorem Only.cell (h : Only g a b) {p : Addr} (hp : p.block < a.heap.size) (hn : p.block ≠ g) : b.cell? p = a.cell? p :=
  World.cell?_of_block (h.block p.block hp (by intro e; injection e with e; exact hn e))
theorem Only.frozen (h : Only g a b) {p : Addr} (hp : p.block < a.heap.size) (hn : p.block ≠ g) : b.frozen? p = a.frozen? p :=
  World.frozen?_of_block (h.block p.block hp (by intro e; injection e with e; exact hn e))
theorem Only.blk {k : Nat} {t : TypeId} {cs : Array Value} (h : Only g a b) (hk : Blk a k t cs) (hn : k ≠ g) : Blk b k t cs :=
  hk.grown h (by intro e; injection e with e; exact hn e)
end

/-- A slice value at A reads as the list L, 'size' cells an element, in a block of which S holds; nil and empty ones let in. -/
def Rd {α : Type} (w : World) (S : Nat → Prop) (A : Option Addr) (size : Nat) (f : α → List Value) (L : List α) : Prop :=
  0 < L.length → ∃ b o, A = some ⟨b, o, none⟩ ∧ S b ∧ ∀ k j x u, L[k]? = some x → (f x)[j]? = some u → w.cell? ⟨b, o + k * size + j, none⟩ = some u
section
variable {α : Type} {w w' : World} {S S' : Nat → Prop} {A : Option Addr} {size : Nat} {f : α → List Value} {L : List α}
theorem Rd.nil (w : World) (S : Nat → Prop) (A : Option Addr) (size : Nat) (f : α → List Value) : Rd w S A size f [] := fun h => absurd h (by simp)
theorem Rd.keep (h : Rd w S A size f L) (hk : ∀ p : Addr, S p.block → w'.cell? p = w.cell? p) : Rd w' S A size f L := fun hl => by
  obtain ⟨b, o, e, hS, hc⟩ := h hl
  exact ⟨b, o, e, hS, fun k j x u hx hu => (hk ⟨b, _, none⟩ hS).trans (hc k j x u hx hu)⟩
theorem Rd.mono (h : Rd w S A size f L) (hS : ∀ b, S b → S' b) : Rd w S' A size f L := fun hl => by
  obtain ⟨b, o, e, hs, hc⟩ := h hl
  exact ⟨b, o, e, hS b hs, hc⟩
theorem Rd.only {g : Nat} (h : Rd w S A size f L) (hb : Only g w w') (hS : ∀ b, S b → b < w.heap.size ∧ b ≠ g) : Rd w' S A size f L := h.keep fun _ hp => hb.cell (hS _ hp).1 (hS _ hp).2
theorem Rd.at_ {k : Nat} {x : α} (h : Rd w S A size f L) (hx : L[k]? = some x) : ∃ b o, A = some ⟨b, o, none⟩ ∧ S b ∧ ∀ j u, (f x)[j]? = some u → w.cell? ⟨b, o + k * size + j, none⟩ = some u := by
  obtain ⟨b, o, e, hs, hc⟩ := h (by have := zM hx; omega)
  exact ⟨b, o, e, hs, fun j u hu => hc k j x u hx hu⟩
theorem uR (hs : 0 < size) (hf : ∀ x, (f x).length = size) : ∀ (L : List α) (j : Nat) (u : Value), (L.flatMap f)[j]? = some u → ∃ k r x, L[k]? = some x ∧ (f x)[r]? = some u ∧ j = k * size + r
  | [], j, u, h => by simp at h
  | y :: L, j, u, h => by
    rw [List.flatMap_cons] at h
    by_cases hj : j < (f y).length
    · rw [List.getElem?_append_left hj] at h
      exact ⟨0, j, y, rfl, h, by omega⟩
    · rw [List.getElem?_append_right (by omega), hf] at h
      obtain ⟨k, r, x, h1, h2, h3⟩ := uR hs hf L _ u h
      rw [hf] at hj
      exact ⟨k + 1, r, x, h1, h2, by rw [Nat.succ_mul]; omega⟩
theorem Rd.flat (h : Rd w S A size f L) (hs : 0 < size) (hf : ∀ x, (f x).length = size) (hl : 0 < L.length) : ∃ ad, A = some ad ∧ ∀ j u, (L.flatMap f)[j]? = some u → w.cell? (ad.add j) = some u := by
  obtain ⟨b, o, e, _, hc⟩ := h hl
  refine ⟨_, e, fun j u hu => ?_⟩
  obtain ⟨k, r, x, h1, h2, rfl⟩ := uR hs hf L j u hu
  rw [Addr.add_lit, ← Nat.add_assoc]
  exact hc k r x u h1 h2
end
section
variable {P : Program} (w : World)
theorem kE (base : Nat) (t ty e : TypeId) (i : TypeInfo) (size : Nat) (ht : P.underlying t = some (.slice e)) (hi : P.info? e = some i)
    (v : Value) (n : Nat) (xs : List Value) (hown : w.ownsRow base e size v n xs) (c : Nat) : (Builtin.append_ #[t, t] ty #[v, .slice none 0 c]).run P w = .ok v w := by
  rcases hown.2 with ⟨rfl, rfl⟩ | ⟨g, cap, cur, rfl, _, _, hnc, _⟩
  · simp [Builtin.append_, run_underlying ht, sizeOf, typeInfo, hi, Builtin.lenOf, Builtin.firstCells]
  · simp [Builtin.append_, run_underlying ht, sizeOf, typeInfo, hi, Builtin.lenOf, Builtin.firstCells, hnc, storeCells]
theorem jh (base : Nat) (t ty e : TypeId) (i : TypeInfo) (z : Value) (size bytes : Nat) (ht : P.underlying t = some (.slice e)) (hi : P.info? e = some i) (hz : i.zero = some z)
    (hsize : i.size = size) (hby : i.bytes = bytes) (hzs : z.cells.size = size) (hsz : 0 < size)
    (v : Value) (n : Nat) (xs : List Value) (hown : w.ownsRow base e size v n xs)
    (A : Option Addr) (m c : Nat) (news : List Value) (hl : news.length = m * size) (hr : 0 < m → ∃ ad, A = some ad ∧ ∀ j u, news[j]? = some u → w.cell? (ad.add j) = some u) (h1 : ∀ u ∈ news, u.oneCell' = true)
    (h63 : n + m ≤ maxLen) (hbytes : (n + m) * bytes ≤ 140737488355328) (hbase : base ≤ w.heap.size) :
    ∃ v' w', (Builtin.append_ #[t, t] ty #[v, .slice A m c]).run P w = .ok v' w' ∧ w'.ownsRow base e size v' (n + m) (xs ++ news) ∧ w.grownBy w' v.ownBlock ∧
      (v'.ownBlock = v.ownBlock ∨ v'.ownBlock = some w.heap.size) := by
  rcases A with _ | ad
  · have hm : m = 0 := by
      rcases Nat.eq_zero_or_pos m with h0 | h0
      · exact h0
      · obtain ⟨ad, h, _⟩ := hr h0
        cases h
    subst hm
    have hn : news = [] := List.eq_nil_of_length_eq_zero (by simpa using hl)
    subst hn
    exact ⟨v, w, kE w base t ty e i size ht hi v n xs hown c, by simpa using hown, World.grownBy.refl w _, .inl rfl⟩
  · have hcells : ∀ j u, news[j]? = some u → w.cell? (ad.add j) = some u := by
      intro j u hu
      rcases Nat.eq_zero_or_pos m with h0 | h0
      · subst h0
        have hn : news = [] := List.eq_nil_of_length_eq_zero (by simpa using hl)
        subst hn
        simp at hu
      · obtain ⟨ad', h, hc⟩ := hr h0
        injection h with h
        subst h
        exact hc j u hu
    obtain ⟨v', w', hrun, h2, h3, _, h5⟩ := run_append_own_at (P := P) w base t ty e i z size bytes ht hi hz hsize hby hzs hsz v n xs hown ad m c news hl hcells h1 h63 hbytes hbase
    exact ⟨v', w', hrun, h2, h3, h5⟩
/-- append onto a row of the call's own, whatever is appended: nil, empty or not. -/
theorem kX {ops : Array Oper} {rest : List Oper} {o : Oper} {a : Act} {Q : Exit → Act → World → Prop} (hgd : o.guard = none) (s x : Operand) (t : TypeId)
    (ho : o.op = .call { callee := .builtin .append, args := #[s, x], argTypes := #[t, t] })
    (base : Nat) (e : TypeId) (i : TypeInfo) (z : Value) (size bytes : Nat) (ht : P.underlying t = some (.slice e)) (hi : P.info? e = some i) (hz : i.zero = some z)
    (hsize : i.size = size) (hby : i.bytes = bytes) (hzs : z.cells.size = size) (hsz : 0 < size)
    (v : Value) (n : Nat) (xs : List Value) (hs : a.eval s = v) (hown : w.ownsRow base e size v n xs)
    (A : Option Addr) (m c : Nat) (news : List Value) (hx : a.eval x = .slice A m c) (hl : news.length = m * size) (hr : 0 < m → ∃ ad, A = some ad ∧ ∀ j u, news[j]? = some u → w.cell? (ad.add j) = some u) (h1 : ∀ u ∈ news, u.oneCell' = true)
    (h63 : n + m ≤ maxLen) (hbytes : (n + m) * bytes ≤ 140737488355328) (hbase : base ≤ w.heap.size)
    (h : ∀ v' w', w'.ownsRow base e size v' (n + m) (xs ++ news) → w.grownBy w' v.ownBlock → (v'.ownBlock = v.ownBlock ∨ v'.ownBlock = some w.heap.size) → wpList P ops Q rest (a.put o.dst v') w') : wpList P ops Q (o :: rest) a w := by
  obtain ⟨v', w', hrun, h2, h3, h4⟩ := jh (P := P) w base t o.type e i z size bytes ht hi hz hsize hby hzs hsz v n xs hown A m c news hl hr h1 h63 hbytes hbase
  refine wpList_plain hgd fun _ hK => ?_
  unfold Oper.wp execOp
  simp only [ho, resolve, invoke, builtin, Sem.run_bind, Sem.run_pure, Result.andThen_ok, List.map_toArray, List.map_cons, List.map_nil, hs, hx, hrun]
  exact hK _ _ (h v' w' h2 h3 h4)
end
end Go.Proofs.YtnafokinifbfhaaGreatDoor
