/- The two companies' protocol: whatever they do and whatever arrives in order, the giver has given what the asker counts on; plain lists, nothing of the program stands here. -/
import Derived.Test.YtamihjgfncjdoaaDoorNetA
import Derived.Test.YtamihjgfncjdoaaDoorCeC
set_option linter.unusedVariables false
set_option linter.unusedSimpArgs false
namespace Go.Proofs.YtamihjgfncjdoaaDoor
open Go Go.RowKit
theorem ceLt_key {a b a' b' : Ce} (h1 : a.ask = a'.ask) (h2 : a.num = a'.num) (h3 : b.ask = b'.ask) (h4 : b.num = b'.num) : ceLt a b = ceLt a' b' := by
  unfold ceLt
  rw [h1, h2, h3, h4]
theorem ceLt_or {a b : Ce} (h : ¬ (a.ask = b.ask ∧ a.num = b.num)) : ceLt a b = true ∨ ceLt b a = true := by
  rw [ceLt_iff, ceLt_iff]
  omega
theorem ceLt_nk {a b : Ce} (h : ceLt a b = true) : ¬ (a.ask = b.ask ∧ a.num = b.num) := by
  rw [ceLt_iff] at h
  omega
/-- In an ascending list a key stands once. -/
theorem asc_ne {L : List Ce} (h : AscG ceLt L) {i j : Nat} {a b : Ce} (ha : L[i]? = some a) (hb : L[j]? = some b) (hij : i ≠ j) : ¬ (a.ask = b.ask ∧ a.num = b.num) := by
  rcases Nat.lt_or_gt_of_ne hij with h1 | h1
  · exact ceLt_nk (asc_at h ha hb h1)
  · have := ceLt_nk (asc_at h hb ha h1)
    exact fun e => this ⟨e.1.symm, e.2.symm⟩
theorem asc_eq {L : List Ce} (h : AscG ceLt L) {a b : Ce} (ha : a ∈ L) (hb : b ∈ L) (e1 : a.ask = b.ask) (e2 : a.num = b.num) : a = b := by
  obtain ⟨i, hi⟩ := List.getElem?_of_mem ha
  obtain ⟨j, hj⟩ := List.getElem?_of_mem hb
  by_cases hij : i = j
  · subst hij; rw [hi] at hj; injection hj
  · exact absurd ⟨e1, e2⟩ (asc_ne h hi hj hij)
theorem ins_asc {c : Ce} : ∀ {L : List Ce}, AscG ceLt L → (∀ x ∈ L, ¬ (x.ask = c.ask ∧ x.num = c.num)) → AscG ceLt (insG ceLt c L)
  | [], _, _ => List.pairwise_singleton _ _
  | y :: l, h, hn => by
    obtain ⟨h1, h2⟩ := List.pairwise_cons.1 h
    rw [insG_cons]
    split
    · rename_i hy
      refine List.pairwise_cons.2 ⟨fun z hz => ?_, ins_asc h2 fun x hx => hn x (by simp [hx])⟩
      rcases insG_mem.1 hz with rfl | hz
      · exact hy
      · exact h1 z hz
    · rename_i hy
      have hxy : ceLt c y = true := (ceLt_or (hn y (by simp))).resolve_left hy
      refine List.pairwise_cons.2 ⟨fun z hz => ?_, h⟩
      rcases List.mem_cons.1 hz with rfl | hz
      · exact hxy
      · exact ceLt_tr hxy (h1 z hz)
/-- Valid lists. -/
def Vl (N : List Nd) (V : List Dv) (L : List Ce) : Prop := allE N V L = 0
theorem Vl.ls {N : List Nd} {V : List Dv} {L : List Ce} (h : Vl N V L) : CeLs N V L ∧ L.length ≤ 16 := allE_iff.1 h
theorem Vl.asc {N : List Nd} {V : List Dv} {L : List Ce} (h : Vl N V L) : AscG ceLt L := h.ls.1.2
theorem Vl.ok {N : List Nd} {V : List Dv} {L : List Ce} (h : Vl N V L) {c : Ce} (hc : c ∈ L) : CeOk N V c := h.ls.1.1 c hc
theorem Vl.nil {N : List Nd} {V : List Dv} : Vl N V [] := allE_iff.2 ⟨⟨fun c h => (by cases h), List.Pairwise.nil⟩, by simp⟩
theorem Vl.ins {N : List Nd} {V : List Dv} {L : List Ce} {c : Ce} (h : Vl N V L) (hc : CeOk N V c) (hl : L.length ≠ 16) (hn : ∀ x ∈ L, ¬ (x.ask = c.ask ∧ x.num = c.num)) : Vl N V (insG ceLt c L) :=
  allE_iff.2 ⟨⟨fun x hx => (insG_mem.1 hx).elim (fun e => e ▸ hc) h.ok, ins_asc h.asc hn⟩, by rw [insG_len]; have := h.ls.2; omega⟩
theorem set_at {α : Type} {L : List α} {j i : Nat} {z x : α} (h : (L.set j z)[i]? = some x) : (i = j ∧ x = z) ∨ (i ≠ j ∧ L[i]? = some x) := by
  by_cases e : j = i
  · subst e
    have hl := lt_at h
    rw [List.length_set] at hl
    rw [List.getElem?_set_self hl] at h
    injection h with h
    exact .inl ⟨rfl, h.symm⟩
  · rw [List.getElem?_set_ne e] at h
    exact .inr ⟨fun h => e h.symm, h⟩
theorem Vl.set {N : List Nd} {V : List Dv} {L : List Ce} {y : Ce} {j : Nat} {s : Int} (h : Vl N V L) (hj : L[j]? = some y) (h1 : 1 ≤ s) (h2 : s ≤ 5) : Vl N V (L.set j (stC y s)) := by
  have hk : ∀ (i : Nat) (x : Ce), (L.set j (stC y s))[i]? = some x → ∃ x0 : Ce, L[i]? = some x0 ∧ x.ask = x0.ask ∧ x.num = x0.num := fun i x hx => by
    rcases set_at hx with ⟨rfl, rfl⟩ | ⟨-, hx⟩
    · exact ⟨y, hj, rfl, rfl⟩
    · exact ⟨x, hx, rfl, rfl⟩
  refine allE_iff.2 ⟨⟨fun x hx => ?_, ?_⟩, by rw [List.length_set]; exact h.ls.2⟩
  · rcases List.mem_or_eq_of_mem_set hx with hx | rfl
    · exact h.ok hx
    · exact (h.ok (List.mem_of_getElem? hj)).state h1 h2
  · have ha := h.asc
    unfold AscG at ha ⊢
    rw [List.pairwise_iff_getElem] at ha ⊢
    intro a b ha' hb' hab
    obtain ⟨x0, e1, e2, e3⟩ := hk a _ (List.getElem?_eq_getElem ha')
    obtain ⟨y0, f1, f2, f3⟩ := hk b _ (List.getElem?_eq_getElem hb')
    rw [ceLt_key e2 e3 f2 f3]
    exact asc_at h.asc e1 f1 hab
theorem del_sub {α : Type} (L : List α) (j : Nat) : (L.take j ++ L.drop (j + 1)).Sublist L := by
  conv => rhs; rw [← List.take_append_drop j L]
  exact List.Sublist.append_left (List.drop_sublist_drop_left L (Nat.le_succ j)) _
theorem Vl.del {N : List Nd} {V : List Dv} {L : List Ce} (h : Vl N V L) (j : Nat) : Vl N V (L.take j ++ L.drop (j + 1)) := by
  have hs := del_sub L j
  exact allE_iff.2 ⟨⟨fun x hx => h.ok (hs.subset hx), h.asc.sublist hs⟩, Nat.le_trans hs.length_le h.ls.2⟩
/-- What is left of a list where one certificate has another state. -/
theorem mem_set {N : List Nd} {V : List Dv} {L : List Ce} {y : Ce} {j : Nat} {s : Int} (h : Vl N V L) (hj : L[j]? = some y) {x : Ce} (hx : x ∈ L.set j (stC y s)) : x = stC y s ∨ (x ∈ L ∧ ¬ (x.ask = y.ask ∧ x.num = y.num)) := by
  obtain ⟨i, hi⟩ := List.getElem?_of_mem hx
  rcases set_at hi with ⟨-, e⟩ | ⟨hne, hi⟩
  · exact .inl e
  · exact .inr ⟨List.mem_of_getElem? hi, asc_ne h.asc hi hj hne⟩
theorem set_mem {L : List Ce} {y z : Ce} {j : Nat} (hj : L[j]? = some y) {x : Ce} (hx : x ∈ L) (hne : x ≠ y) : x ∈ L.set j z := by
  obtain ⟨i, hi⟩ := List.getElem?_of_mem hx
  refine List.mem_of_getElem? (i := i) ?_
  rw [List.getElem?_set_ne]
  · exact hi
  · rintro rfl
    rw [hj] at hi
    injection hi with hi
    exact hne hi.symm
theorem set_new {L : List Ce} {y z : Ce} {j : Nat} (hj : L[j]? = some y) : z ∈ L.set j z := List.mem_of_getElem? (i := j) (by rw [List.getElem?_set_self (lt_at hj)])
theorem mem_del {L : List Ce} {j : Nat} {x : Ce} (hx : x ∈ L.take j ++ L.drop (j + 1)) : x ∈ L := (del_sub L j).subset hx
theorem del_mem {L : List Ce} {y : Ce} {j : Nat} (hj : L[j]? = some y) {x : Ce} (hx : x ∈ L) (hne : x ≠ y) : x ∈ L.take j ++ L.drop (j + 1) := by
  have e : L = L.take j ++ y :: L.drop (j + 1) := by
    conv => lhs; rw [← List.take_append_drop j L, drop_at hj]
  rw [e] at hx
  rcases List.mem_append.1 hx with h | h
  · exact List.mem_append.2 (.inl h)
  · rcases List.mem_cons.1 h with rfl | h
    · exact absurd rfl hne
    · exact List.mem_append.2 (.inr h)
theorem find_at' {L : List Ce} {a n : Int} (h : 0 ≤ findC L a n) : ∃ j y, findC L a n = ((j : Nat) : Int) ∧ L[j]? = some y ∧ atC L (findC L a n) = y ∧ y.ask = a ∧ y.num = n := by
  rcases findC_at (L := L) (a := a) (n := n) with e | ⟨j, y, e1, e2, e3, -, e4⟩
  · omega
  · unfold isC at e4
    simp only [Bool.and_eq_true, decide_eq_true_eq] at e4
    exact ⟨j, y, e1, e2, by rw [e1]; exact e3, e4.1, e4.2⟩
theorem find_no {L : List Ce} {a n : Int} (h : ¬ 0 ≤ findC L a n) : ∀ x ∈ L, ¬ (x.ask = a ∧ x.num = n) := fun x hx e => by
  have := findC_mem hx
  rw [e.1, e.2] at this
  exact h this
/-- What the asker u counts on: its list A, the giver's list B, what is on its way to the giver (P) and from it (R). -/
structure Jn (u : Int) (A B P R : List Ce) : Prop where
  f : ∀ c ∈ A, c.ask = u → (c.st = 1 ∨ c.st = 3) → ∀ m ∈ P, m.ask = u → m.num = c.num → m.st ≠ 4
  g : ∀ c ∈ A, c.ask = u → c.st = 3 → ∃ d ∈ B, d.ask = u ∧ d.num = c.num ∧ d.st = 2
  h : ∀ c ∈ A, c.ask = u → c.st = 1 → ∀ m ∈ R, m.ask = u → m.num = c.num → m.st = 2 → ∃ d ∈ B, d.ask = u ∧ d.num = c.num ∧ d.st = 2
structure Sd (N : List Nd) (V : List Dv) (u v : Int) (X Y O I : List Ce) (nx : Int) : Prop where
  ne : u ≠ v
  vx : Vl N V X
  vy : Vl N V Y
  al : ∀ c, (c ∈ X ∨ c ∈ Y ∨ c ∈ O ∨ c ∈ I) → c.lk.length ≤ 8 ∧ c.num < nx
  ju : Jn u X Y O I
  jv : Jn v Y X I O
variable {N : List Nd} {V : List Dv} {u v : Int} {X Y O I : List Ce} {nx : Int}
theorem Sd.swap (h : Sd N V u v X Y O I nx) : Sd N V v u Y X I O nx := ⟨h.ne.symm, h.vy, h.vx, fun c hc => h.al c (by rcases hc with h | h | h | h <;> simp [h]), h.jv, h.ju⟩
theorem Sd.start (hne : u ≠ v) : Sd N V u v [] [] [] [] 1 := by
  have hj : ∀ w : Int, Jn w [] [] [] [] := fun w => ⟨fun c h => (by cases h), fun c h => (by cases h), fun c h => (by cases h)⟩
  exact ⟨hne, Vl.nil, Vl.nil, fun c h => (by rcases h with h | h | h | h <;> cases h), hj u, hj v⟩
theorem Sd.next (h : Sd N V u v X Y O I nx) : Sd N V u v X Y O I (nx + 1) := ⟨h.ne, h.vx, h.vy, fun c hc => ⟨(h.al c hc).1, by have := (h.al c hc).2; omega⟩, h.ju, h.jv⟩
theorem ask_ok {a : Int} {c : Ce} {L : List Ce} (h : askC N V X a c = (L, 0)) : CeOk N V c ∧ c.ask = a ∧ c.st = 1 ∧ (∀ x ∈ X, ¬ (x.ask = c.ask ∧ x.num = c.num)) ∧ X.length ≠ 16 ∧ L = insG ceLt c X := by
  unfold askC at h
  split at h
  · rename_i h0; injection h with _ h; exact absurd h h0
  split at h
  · rename_i h0; injection h with _ h; exact absurd h h0
  rename_i h1
  split at h
  · injection h with _ h; exact absurd h (by decide)
  rename_i h2
  split at h
  · injection h with _ h; exact absurd h (by decide)
  rename_i h3
  unfold putC at h
  split at h
  · injection h with _ h; exact absurd h (by decide)
  rename_i h4
  injection h with h _
  exact ⟨certE_iff.1 (by simpa using h1), by omega, by omega, find_no h3, h4, h.symm⟩
theorem Sd.ask (h : Sd N V u v X Y O I nx) {c : Ce} {L : List Ce} (ha : askC N V X u c = (L, 0)) (hn : c.num = nx) (hl : c.lk.length ≤ 8) : Sd N V u v L Y (O ++ [c]) I (nx + 1) := by
  obtain ⟨h1, h2, h3, h4, h5, rfl⟩ := ask_ok ha
  have hne := h.ne
  refine ⟨hne, h.vx.ins h1 h5 h4, h.vy, fun x hx => ?_, ⟨?_, ?_, ?_⟩, ⟨?_, ?_, ?_⟩⟩
  · have old : ∀ x, (x ∈ X ∨ x ∈ Y ∨ x ∈ O ∨ x ∈ I) → x.lk.length ≤ 8 ∧ x.num < nx + 1 := fun x hx => ⟨(h.al x hx).1, by have := (h.al x hx).2; omega⟩
    rcases hx with hx | hx | hx | hx
    · rcases insG_mem.1 hx with rfl | hx
      · exact ⟨hl, by omega⟩
      · exact old x (.inl hx)
    · exact old x (.inr (.inl hx))
    · rcases List.mem_append.1 hx with hx | hx
      · exact old x (.inr (.inr (.inl hx)))
      · rw [List.mem_singleton.1 hx]; exact ⟨hl, by omega⟩
    · exact old x (.inr (.inr (.inr hx)))
  · intro x hx e1 e2 m hm e3 e4
    rcases List.mem_append.1 hm with hm1 | hm
    · rcases insG_mem.1 hx with rfl | hx
      · have := (h.al m (.inr (.inr (.inl hm1)))).2; omega
      · exact h.ju.f x hx e1 e2 m hm1 e3 e4
    · rw [List.mem_singleton.1 hm]; omega
  · intro x hx e1 e2
    rcases insG_mem.1 hx with rfl | hx
    · omega
    · exact h.ju.g x hx e1 e2
  · intro x hx e1 e2 m hm e3 e4 e5
    rcases insG_mem.1 hx with rfl | hx
    · have := (h.al m (.inr (.inr (.inr hm)))).2; omega
    · exact h.ju.h x hx e1 e2 m hm e3 e4 e5
  · exact h.jv.f
  · intro x hx e1 e2
    obtain ⟨d, d1, d2⟩ := h.jv.g x hx e1 e2
    exact ⟨d, insG_mem.2 (.inr d1), d2⟩
  · intro x hx e1 e2 m hm e3 e4 e5
    rcases List.mem_append.1 hm with hm | hm
    · obtain ⟨d, d1, d2⟩ := h.jv.h x hx e1 e2 m hm e3 e4 e5
      exact ⟨d, insG_mem.2 (.inr d1), d2⟩
    · rw [List.mem_singleton.1 hm] at e3; omega
/-- One certificate of u's list has another state. -/
theorem Sd.turn (h : Sd N V u v X Y O I nx) {j : Nat} {y : Ce} {s : Int} (hj : X[j]? = some y) (h1 : 1 ≤ s) (h2 : s ≤ 5) : Vl N V (X.set j (stC y s)) ∧ ∀ c, c ∈ X.set j (stC y s) → c.lk.length ≤ 8 ∧ c.num < nx := by
  refine ⟨h.vx.set hj h1 h2, fun c hc => ?_⟩
  rcases mem_set h.vx hj hc with rfl | ⟨hc, -⟩
  · exact h.al y (.inl (List.mem_of_getElem? hj))
  · exact h.al c (.inl hc)
theorem give_ok {a n : Int} {L : List Ce} (h : giveC N V X u a n = (L, 0)) : ∃ j y, findC X a n = ((j : Nat) : Int) ∧ X[j]? = some y ∧ atC X (findC X a n) = y ∧ y.ask = a ∧ y.num = n ∧ y.giv = u ∧ y.st = 1 ∧ L = X.set j (stC y 2) := by
  unfold giveC at h
  split at h
  · rename_i h0; injection h with _ h; exact absurd h h0
  split at h
  · injection h with _ h; exact absurd h (by decide)
  rename_i h1
  split at h
  · injection h with _ h; exact absurd h (by decide)
  rename_i h2
  injection h with h _
  obtain ⟨j, y, e1, e2, e3, e4, e5⟩ := find_at' (by omega : 0 ≤ findC X a n)
  rw [e3] at h2
  refine ⟨j, y, e1, e2, e3, e4, e5, by omega, by omega, ?_⟩
  rw [← h]
  unfold withC
  rw [if_neg (by decide), e3, e1, Int.toNat_natCast]
theorem back_ok {a n : Int} {L : List Ce} (h : backC N V X a n = (L, 0)) : ∃ j y, findC X a n = ((j : Nat) : Int) ∧ X[j]? = some y ∧ atC X (findC X a n) = y ∧ y.ask = a ∧ y.num = n ∧ y.st = 3 ∧ L = X.set j (stC y 4) := by
  unfold backC at h
  split at h
  · rename_i h0; injection h with _ h; exact absurd h h0
  split at h
  · injection h with _ h; exact absurd h (by decide)
  rename_i h1
  split at h
  · injection h with _ h; exact absurd h (by decide)
  rename_i h2
  injection h with h _
  obtain ⟨j, y, e1, e2, e3, e4, e5⟩ := find_at' (by omega : 0 ≤ findC X a n)
  rw [e3] at h2
  refine ⟨j, y, e1, e2, e3, e4, e5, by omega, ?_⟩
  rw [← h]
  unfold withC
  rw [if_neg (by decide), e3, e1, Int.toNat_natCast]
theorem Sd.give (h : Sd N V u v X Y O I nx) {j : Nat} {y : Ce} (hj : X[j]? = some y) (ha : y.ask = v) (hs : y.st = 1) : Sd N V u v (X.set j (stC y 2)) Y (O ++ [stC y 2]) I nx := by
  obtain ⟨t1, t2⟩ := h.turn hj (s := 2) (by decide) (by decide)
  have hne := h.ne
  have hy := List.mem_of_getElem? hj
  have keep : ∀ d ∈ X, d.st = 2 → d ∈ X.set j (stC y 2) := fun d hd e => set_mem hj hd (fun e2 => by rw [e2] at e; omega)
  refine ⟨hne, t1, h.vy, fun x hx => ?_, ⟨?_, ?_, ?_⟩, ⟨?_, ?_, ?_⟩⟩
  · rcases hx with hx | hx | hx | hx
    · exact t2 x hx
    · exact h.al x (.inr (.inl hx))
    · rcases List.mem_append.1 hx with hx | hx
      · exact h.al x (.inr (.inr (.inl hx)))
      · rw [List.mem_singleton.1 hx]; exact h.al y (.inl hy)
    · exact h.al x (.inr (.inr (.inr hx)))
  · intro x hx e1 e2 m hm e3 e4
    rcases mem_set h.vx hj hx with rfl | ⟨hx, -⟩
    · exact absurd (show y.ask = u from e1) (by omega)
    rcases List.mem_append.1 hm with hm | hm
    · exact h.ju.f x hx e1 e2 m hm e3 e4
    · rw [List.mem_singleton.1 hm] at e3; exact absurd (show y.ask = u from e3) (by omega)
  · intro x hx e1 e2
    rcases mem_set h.vx hj hx with rfl | ⟨hx, -⟩
    · exact absurd (show y.ask = u from e1) (by omega)
    · exact h.ju.g x hx e1 e2
  · intro x hx e1 e2 m hm e3 e4 e5
    rcases mem_set h.vx hj hx with rfl | ⟨hx, -⟩
    · exact absurd (show y.ask = u from e1) (by omega)
    · exact h.ju.h x hx e1 e2 m hm e3 e4 e5
  · exact h.jv.f
  · intro x hx e1 e2
    obtain ⟨d, d1, d2, d3, d4⟩ := h.jv.g x hx e1 e2
    exact ⟨d, keep d d1 d4, d2, d3, d4⟩
  · intro x hx e1 e2 m hm e3 e4 e5
    rcases List.mem_append.1 hm with hm | hm
    · obtain ⟨d, d1, d2, d3, d4⟩ := h.jv.h x hx e1 e2 m hm e3 e4 e5
      exact ⟨d, keep d d1 d4, d2, d3, d4⟩
    · rw [List.mem_singleton.1 hm] at e3 e4
      exact ⟨stC y 2, set_new hj, e3, e4, rfl⟩
theorem Sd.back (h : Sd N V u v X Y O I nx) {j : Nat} {y : Ce} (hj : X[j]? = some y) (ha : y.ask = u) : Sd N V u v (X.set j (stC y 4)) Y (O ++ [stC y 4]) I nx := by
  obtain ⟨t1, t2⟩ := h.turn hj (s := 4) (by decide) (by decide)
  have hne := h.ne
  have hy := List.mem_of_getElem? hj
  have keep : ∀ d ∈ X, d.ask = v → d ∈ X.set j (stC y 4) := fun d hd e => set_mem hj hd (fun e2 => by rw [e2] at e; omega)
  refine ⟨hne, t1, h.vy, fun x hx => ?_, ⟨?_, ?_, ?_⟩, ⟨?_, ?_, ?_⟩⟩
  · rcases hx with hx | hx | hx | hx
    · exact t2 x hx
    · exact h.al x (.inr (.inl hx))
    · rcases List.mem_append.1 hx with hx | hx
      · exact h.al x (.inr (.inr (.inl hx)))
      · rw [List.mem_singleton.1 hx]; exact h.al y (.inl hy)
    · exact h.al x (.inr (.inr (.inr hx)))
  · intro x hx e1 e2 m hm e3 e4
    rcases mem_set h.vx hj hx with rfl | ⟨hx, hk⟩
    · exact absurd (show (4 : Int) = 1 ∨ (4 : Int) = 3 from e2) (by decide)
    rcases List.mem_append.1 hm with hm | hm
    · exact h.ju.f x hx e1 e2 m hm e3 e4
    · rw [List.mem_singleton.1 hm] at e4
      exact absurd ⟨by rw [e1, ha], e4.symm⟩ hk
  · intro x hx e1 e2
    rcases mem_set h.vx hj hx with rfl | ⟨hx, -⟩
    · exact absurd (show (4 : Int) = 3 from e2) (by decide)
    · exact h.ju.g x hx e1 e2
  · intro x hx e1 e2 m hm e3 e4 e5
    rcases mem_set h.vx hj hx with rfl | ⟨hx, -⟩
    · exact absurd (show (4 : Int) = 1 from e2) (by decide)
    · exact h.ju.h x hx e1 e2 m hm e3 e4 e5
  · exact h.jv.f
  · intro x hx e1 e2
    obtain ⟨d, d1, d2, d3⟩ := h.jv.g x hx e1 e2
    exact ⟨d, keep d d1 d2, d2, d3⟩
  · intro x hx e1 e2 m hm e3 e4 e5
    rcases List.mem_append.1 hm with hm | hm
    · obtain ⟨d, d1, d2, d3⟩ := h.jv.h x hx e1 e2 m hm e3 e4 e5
      exact ⟨d, keep d d1 d2, d2, d3⟩
    · rw [List.mem_singleton.1 hm] at e3; exact absurd (show y.ask = v from e3) (by omega)
/-- What came is gone. -/
theorem Sd.gone (h : Sd N V u v X Y O I nx) {I' : List Ce} (hI : ∀ m ∈ I', m ∈ I) : Sd N V u v X Y O I' nx :=
  ⟨h.ne, h.vx, h.vy, fun c hc => h.al c (hc.imp id fun h => h.imp id fun h => h.imp id (hI c)), ⟨h.ju.f, h.ju.g, fun c hc e1 e2 m hm => h.ju.h c hc e1 e2 m (hI m hm)⟩, ⟨fun c hc e1 e2 m hm => h.jv.f c hc e1 e2 m (hI m hm), h.jv.g, h.jv.h⟩⟩
theorem fit_ok {i : Int} {c : Ce} {t : Tr} (h : fitC X i u c t = true) : t.heard = c.st ∧ mineC t.asker u c = true ∧ 0 ≤ i ∧ (atC X i).st = t.before := by
  unfold fitC at h
  simp only [Bool.and_eq_true, decide_eq_true_eq] at h
  exact ⟨h.1.1.1.1.1, h.1.1.1.1.2, h.1.1.1.2, h.1.1.2⟩
theorem hear_ok {c : Ce} {L : List Ce} (h : hearC N V X u c = (L, 0)) : CeOk N V c ∧ ((c.st = 1 ∧ c.giv = u ∧ (∀ x ∈ X, ¬ (x.ask = c.ask ∧ x.num = c.num)) ∧ X.length ≠ 16 ∧ L = insG ceLt c X) ∨
    ∃ j y, X[j]? = some y ∧ y.ask = c.ask ∧ y.num = c.num ∧ ((c.st = 2 ∧ c.ask = u ∧ y.st = 1 ∧ L = X.set j (stC y 3)) ∨ (c.st = 4 ∧ c.giv = u ∧ y.st = 2 ∧ L = X.take j ++ X.drop (j + 1)) ∨ (c.st = 5 ∧ c.ask = u ∧ y.st = 4 ∧ L = X.take j ++ X.drop (j + 1)))) := by
  unfold hearC at h
  split at h
  · rename_i h0; injection h with _ h; exact absurd h h0
  split at h
  · rename_i h0; injection h with _ h; exact absurd h h0
  rename_i h1
  refine ⟨certE_iff.1 (by simpa using h1), ?_⟩
  split at h
  · rename_i h2
    split at h
    · injection h with _ h; exact absurd h (by decide)
    rename_i h3
    split at h
    · injection h with _ h; exact absurd h (by decide)
    rename_i h4
    unfold putC at h
    split at h
    · injection h with _ h; exact absurd h (by decide)
    rename_i h5
    injection h with h _
    exact .inl ⟨h2, by omega, find_no h4, h5, h.symm⟩
  · rename_i h2
    refine .inr ?_
    unfold rowsC at h
    rw [hearGo] at h
    split at h
    · rename_i hf
      obtain ⟨f1, f2, f3, f4⟩ := fit_ok hf
      obtain ⟨j, y, e1, e2, e3, e4, e5⟩ := find_at' f3
      rw [e3] at f4
      injection h with h _
      refine ⟨j, y, e2, e4, e5, .inl ⟨f1.symm, of_decide_eq_true f2, f4, ?_⟩⟩
      rw [← h]
      unfold withC
      rw [if_neg (by decide), e3, e1, Int.toNat_natCast]
    rw [hearGo] at h
    split at h
    · rename_i hf
      obtain ⟨f1, f2, f3, f4⟩ := fit_ok hf
      obtain ⟨j, y, e1, e2, e3, e4, e5⟩ := find_at' f3
      rw [e3] at f4
      injection h with h _
      refine ⟨j, y, e2, e4, e5, .inr (.inl ⟨f1.symm, of_decide_eq_true f2, f4, ?_⟩)⟩
      rw [← h]
      unfold withC
      rw [if_pos rfl, e1, Int.toNat_natCast]
    rw [hearGo] at h
    split at h
    · rename_i hf
      obtain ⟨f1, f2, f3, f4⟩ := fit_ok hf
      obtain ⟨j, y, e1, e2, e3, e4, e5⟩ := find_at' f3
      rw [e3] at f4
      injection h with h _
      refine ⟨j, y, e2, e4, e5, .inr (.inr ⟨f1.symm, of_decide_eq_true f2, f4, ?_⟩)⟩
      rw [← h]
      unfold withC
      rw [if_pos rfl, e1, Int.toNat_natCast]
    · rw [hearGo] at h
      injection h with _ h
      exact absurd h (by decide)
/-- A message that comes and is taken, and says nothing back. -/
theorem Sd.hear {c : Ce} (h : Sd N V u v X Y O (c :: I) nx) {L : List Ce} (hh : hearC N V X u c = (L, 0)) (h4 : c.st ≠ 4) : Sd N V u v L Y O I nx := by
  have hc := h.al c (by simp)
  have hg := h.gone (I' := I) (fun m hm => by simp [hm])
  have hne := h.ne
  obtain ⟨ok, hh⟩ := hear_ok hh
  rcases hh with ⟨h1, h2, h3, h5, rfl⟩ | ⟨j, y, hj, hk1, hk2, hh⟩
  · have hcu : c.ask ≠ u := fun e => ok.ne (by rw [e, h2])
    refine ⟨hne, hg.vx.ins ok h5 h3, hg.vy, fun x hx => ?_, ⟨?_, ?_, ?_⟩, ⟨hg.jv.f, ?_, ?_⟩⟩
    · rcases hx with hx | hx | hx | hx
      · rcases insG_mem.1 hx with rfl | hx
        · exact hc
        · exact hg.al x (.inl hx)
      · exact hg.al x (.inr (.inl hx))
      · exact hg.al x (.inr (.inr (.inl hx)))
      · exact hg.al x (.inr (.inr (.inr hx)))
    · intro x hx e1 e2
      rcases insG_mem.1 hx with rfl | hx
      · exact absurd e1 hcu
      · exact hg.ju.f x hx e1 e2
    · intro x hx e1 e2
      rcases insG_mem.1 hx with rfl | hx
      · exact absurd e1 hcu
      · exact hg.ju.g x hx e1 e2
    · intro x hx e1 e2
      rcases insG_mem.1 hx with rfl | hx
      · exact absurd e1 hcu
      · exact hg.ju.h x hx e1 e2
    · intro x hx e1 e2
      obtain ⟨d, d1, d2⟩ := hg.jv.g x hx e1 e2
      exact ⟨d, insG_mem.2 (.inr d1), d2⟩
    · intro x hx e1 e2 m hm e3 e4 e5
      obtain ⟨d, d1, d2⟩ := hg.jv.h x hx e1 e2 m hm e3 e4 e5
      exact ⟨d, insG_mem.2 (.inr d1), d2⟩
  have hy := List.mem_of_getElem? hj
  rcases hh with ⟨h1, h2, h3, rfl⟩ | ⟨h1, -⟩ | ⟨h1, h2, h3, rfl⟩
  · obtain ⟨t1, t2⟩ := hg.turn hj (s := 3) (by decide) (by decide)
    have hyu : y.ask = u := by rw [hk1, h2]
    have keep : ∀ d ∈ X, d.ask = v → d ∈ X.set j (stC y 3) := fun d hd e => set_mem hj hd (fun e2 => by rw [e2] at e; omega)
    refine ⟨hne, t1, hg.vy, fun x hx => ?_, ⟨?_, ?_, ?_⟩, ⟨hg.jv.f, ?_, ?_⟩⟩
    · rcases hx with hx | hx | hx | hx
      · exact t2 x hx
      · exact hg.al x (.inr (.inl hx))
      · exact hg.al x (.inr (.inr (.inl hx)))
      · exact hg.al x (.inr (.inr (.inr hx)))
    · intro x hx e1 e2 m hm e3 e4
      rcases mem_set hg.vx hj hx with rfl | ⟨hx, -⟩
      · exact h.ju.f y hy hyu (.inl h3) m hm e3 e4
      · exact h.ju.f x hx e1 e2 m hm e3 e4
    · intro x hx e1 e2
      rcases mem_set hg.vx hj hx with rfl | ⟨hx, -⟩
      · exact h.ju.h y hy hyu h3 c (by simp) h2 hk2.symm h1
      · exact h.ju.g x hx e1 e2
    · intro x hx e1 e2 m hm e3 e4 e5
      rcases mem_set hg.vx hj hx with rfl | ⟨hx, -⟩
      · exact absurd (show (3 : Int) = 1 from e2) (by decide)
      · exact hg.ju.h x hx e1 e2 m hm e3 e4 e5
    · intro x hx e1 e2
      obtain ⟨d, d1, d2, d3⟩ := hg.jv.g x hx e1 e2
      exact ⟨d, keep d d1 d2, d2, d3⟩
    · intro x hx e1 e2 m hm e3 e4 e5
      obtain ⟨d, d1, d2, d3⟩ := hg.jv.h x hx e1 e2 m hm e3 e4 e5
      exact ⟨d, keep d d1 d2, d2, d3⟩
  · exact absurd h1 h4
  · have hyu : y.ask = u := by rw [hk1, h2]
    have keep : ∀ d ∈ X, d.ask = v → d ∈ X.take j ++ X.drop (j + 1) := fun d hd e => del_mem hj hd (fun e2 => by rw [e2] at e; omega)
    refine ⟨hne, hg.vx.del j, hg.vy, fun x hx => ?_, ⟨?_, ?_, ?_⟩, ⟨hg.jv.f, ?_, ?_⟩⟩
    · rcases hx with hx | hx | hx | hx
      · exact hg.al x (.inl (mem_del hx))
      · exact hg.al x (.inr (.inl hx))
      · exact hg.al x (.inr (.inr (.inl hx)))
      · exact hg.al x (.inr (.inr (.inr hx)))
    · intro x hx
      exact hg.ju.f x (mem_del hx)
    · intro x hx
      exact hg.ju.g x (mem_del hx)
    · intro x hx
      exact hg.ju.h x (mem_del hx)
    · intro x hx e1 e2
      obtain ⟨d, d1, d2, d3⟩ := hg.jv.g x hx e1 e2
      exact ⟨d, keep d d1 d2, d2, d3⟩
    · intro x hx e1 e2 m hm e3 e4 e5
      obtain ⟨d, d1, d2, d3⟩ := hg.jv.h x hx e1 e2 m hm e3 e4 e5
      exact ⟨d, keep d d1 d2, d2, d3⟩
/-- What is given back: the giver ends it, and says so. -/
theorem Sd.ended {c : Ce} (h : Sd N V u v X Y O (c :: I) nx) {L : List Ce} (hh : hearC N V X u c = (L, 0)) (h4 : c.st = 4) : 0 < c.num ∧ Sd N V u v L Y (O ++ [stC c 5]) I nx := by
  have hc := h.al c (by simp)
  have hg := h.gone (I' := I) (fun m hm => by simp [hm])
  have hne := h.ne
  obtain ⟨ok, hh⟩ := hear_ok hh
  refine ⟨by have := ok.num; omega, ?_⟩
  rcases hh with ⟨h1, -⟩ | ⟨j, y, hj, hk1, hk2, hh⟩
  · omega
  have hy := List.mem_of_getElem? hj
  rcases hh with ⟨h1, -⟩ | ⟨h1, h2, h3, rfl⟩ | ⟨h1, -⟩
  · omega
  rotate_left
  · omega
  have hcu : c.ask ≠ u := fun e => ok.ne (by rw [e, h2])
  refine ⟨hne, hg.vx.del j, hg.vy, fun x hx => ?_, ⟨?_, ?_, ?_⟩, ⟨hg.jv.f, ?_, ?_⟩⟩
  · rcases hx with hx | hx | hx | hx
    · exact hg.al x (.inl (mem_del hx))
    · exact hg.al x (.inr (.inl hx))
    · rcases List.mem_append.1 hx with hx | hx
      · exact hg.al x (.inr (.inr (.inl hx)))
      · rw [List.mem_singleton.1 hx]; exact hc
    · exact hg.al x (.inr (.inr (.inr hx)))
  · intro x hx e1 e2 m hm e3 e4
    rcases List.mem_append.1 hm with hm | hm
    · exact hg.ju.f x (mem_del hx) e1 e2 m hm e3 e4
    · rw [List.mem_singleton.1 hm] at e3; exact absurd e3 hcu
  · intro x hx
    exact hg.ju.g x (mem_del hx)
  · intro x hx
    exact hg.ju.h x (mem_del hx)
  · intro x hx e1 e2
    obtain ⟨d, d1, d2, d3, d4⟩ := hg.jv.g x hx e1 e2
    refine ⟨d, del_mem hj d1 (fun e => ?_), d2, d3, d4⟩
    subst e
    exact h.jv.f x hx e1 (.inr e2) c (by simp) (by rw [← hk1, d2]) (by rw [← hk2, d3]) h4
  · intro x hx e1 e2 m hm e3 e4 e5
    rcases List.mem_append.1 hm with hm | hm
    · obtain ⟨d, d1, d2, d3, d4⟩ := hg.jv.h x hx e1 e2 m hm e3 e4 e5
      refine ⟨d, del_mem hj d1 (fun e => ?_), d2, d3, d4⟩
      subst e
      exact h.jv.f x hx e1 (.inl e2) c (by simp) (by rw [← hk1, d2]) (by rw [← hk2, d3]) h4
    · rw [List.mem_singleton.1 hm] at e5
      exact absurd (show (5 : Int) = 2 from e5) (by decide)
/-- What u counts on has been given, and fits. -/
theorem Sd.safe (h : Sd N V u v X Y O I nx) {c : Ce} (hc : c ∈ X) (h1 : c.ask = u) (h2 : c.st = 3) : ∃ j d, findC Y c.ask c.num = ((j : Nat) : Int) ∧ Y[j]? = some d ∧ d.st = 2 ∧ lksE N V d.lk = 0 ∧ d.lk.length ≤ 8 := by
  obtain ⟨d, d1, d2, d3, d4⟩ := h.ju.g c hc h1 h2
  have hf : 0 ≤ findC Y c.ask c.num := by
    have := findC_mem d1
    rw [d2, d3, ← h1] at this
    exact this
  obtain ⟨j, y, e1, e2, -, e4, e5⟩ := find_at' hf
  have : y = d := asc_eq h.vy.asc (List.mem_of_getElem? e2) d1 (by rw [e4, d2, h1]) (by rw [e5, d3])
  subst this
  exact ⟨j, y, e1, e2, d4, (h.vy.ok d1).lk, (h.al y (.inr (.inl d1))).1⟩
end Go.Proofs.YtamihjgfncjdoaaDoor
