/- How a law's row follows from its walk: the arguments read behind the call as before it, where the call has only laid new memory; nothing of the program stands here / From a contract of the abstract machine to a law's row: the memory that stands, slices that came in, and the call's outcome; nothing of the program stands here. -/
import Derived.Test.YtggngllfnboehaaGreatDoorLib
import Derived.ProofKit
import Derived.OpenShut
import Derived.ShutString
import Derived.Test.YtggngllfnboehaaGreatDoorAbsP
set_option linter.unusedVariables false
set_option linter.unusedSimpArgs false
namespace Go.Proofs.YtggngllfnboehaaGreatDoor
open Go Go.ChangeShapes Go.WideShapes Go.ChangeAt Go.RowKit
section
variable {H : Type} {enc : TypeId × Value → H} {P : Program}
theorem post_of_below {f : Func} {s : ChangeSpec} {apart fresh handsOn again : Bool} {W W' : World} {args : Array Value} {v : Value} {ds gs : List (DataW H)} {before pa pv : List MemPlace}
    (hW : DataW.Whole enc P f.params.toList s.vars apart W args.toList ds gs before)
    (hres : ∀ (b : Nat) (sp : Nat → Bool) (hd : Bool), DataW.TrodAll enc P W' b sp hd f.resultTypes.toList (v.resultList f.resultTypes.size) (s.fn H (ds ++ gs)).results [])
    (hargs : ∀ sp : Nat → Bool, (∀ p ∈ before, sp p.block = true) → DataW.TrodAll enc P W' 0 sp true f.params.toList args.toList (s.fn H (ds ++ gs)).args pa)
    (hvars : ∀ sp : Nat → Bool, (∀ p ∈ before, sp p.block = true) → DataW.TrodVars enc P W' sp s.vars (s.fn H (ds ++ gs)).vars pv)
    (hps : before = pa ++ pv) (hb : Below W.heap.size W W')
    (hok : ∀ (j : Nat) (t : TypeId) (r : Value), f.resultTypes[j]? = some t → (v.resultList f.resultTypes.size)[j]? = some r → Value.okWide P W' .any 0 t r) :
    s.post enc P f apart fresh handsOn again W args v W' := by
  have hlt : ∀ p ∈ before, p.block < W.heap.size := fun p hp => hW.lt p hp
  have hold : ∀ p ∈ before, (fun b => decide (b < W.heap.size)) p.block = true := fun p hp => by simpa using hlt p hp
  refine ⟨ds, gs, before, [], pa, pv, hW, hres _ _ _, hargs _ hold, hvars _ hold, World.keptBut_mono (fun p hp => ⟨hp, ?_⟩) (hb.frame (· ∈ before)), fun _ => ?_⟩
  · rw [hps, List.mem_append] at hp
    exact Or.inr hp
  · obtain ⟨_, _, _, _, _, hz, hn⟩ := hW
    refine ⟨hok, _, _, ([] ++ pa) ++ pv, ⟨[] ++ pa, pv, trodAll_append (hargs _ (fun _ _ => rfl)) (hres _ _ _), hvars _ (fun _ _ => rfl), rfl, ?_, ?_⟩, ?_⟩
    · intro b off hp
      have hin : MemPlace.cell b off ∈ before := by rw [hps]; simpa using hp
      rw [hb.frozen (hlt _ hin)]
      exact hz b off hin
    · intro ha
      have := hn ha
      rw [hps] at this
      simpa using this
    · intro p hp _
      rw [hps]
      simpa using hp
theorem trodAll_below (hl : laidOutB P = true) {W W' : World} (hb : Below W.heap.size W W') {sp : Nat → Bool} : ∀ {ts : List TypeId} {vs : List Value} {ds : List (DataW H)} {ps : List MemPlace},
    (∀ t ∈ ts, P.readableRec t = true ∧ t < P.types.size) → DataW.TrodAll enc P W 0 (fun _ => true) true ts vs ds ps → (∀ x ∈ ps, x.block < W.heap.size) → (∀ x ∈ ps, sp x.block = true) → DataW.TrodAll enc P W' 0 sp true ts vs ds ps
  | [], vs, ds, ps, _, h, _, _ => by
    obtain ⟨rfl, rfl, rfl⟩ := trodAll_nil h
    exact trodAll_mk0
  | t :: ts, vs, ds, ps, hr, h, hlt, hsp => by
    obtain ⟨v, vs', d, ds', p, q, rfl, rfl, rfl, h0, r0⟩ := trodAll_cons h
    have ht := hr t (by simp)
    exact trodAll_cons_mk (WideElems.Trod_stays hl ht.1 ht.2 h0 (fun x hx => hb.same (hlt x (by simp [hx]))) (fun x hx => hsp x (by simp [hx])))
      (trodAll_below hl hb (fun u hu => hr u (by simp [hu])) r0 (fun x hx => hlt x (by simp [hx])) (fun x hx => hsp x (by simp [hx])))
/-- A law's end. -/
theorem law_done {f : Func} {s : ChangeSpec} {apart fresh handsOn again : Bool} {W W' : World} {args : Array Value} {ds : List (DataW H)} {p : List MemPlace} {tb : TypeId} (hl : laidOutB P = true)
    (hW : DataW.Whole enc P f.params.toList s.vars apart W args.toList ds [] p) (hA : DataW.TrodAll enc P W 0 (fun _ => true) true f.params.toList args.toList ds p)
    (hread : ∀ t ∈ f.params.toList, P.readableRec t = true ∧ t < P.types.size) (hv : s.vars = []) (hr : f.resultTypes = #[tb]) (htb : P.underlying tb = some .bool)
    (hs : s.fn H (ds ++ []) = { results := [.lit (.bool true)], args := ds }) (hb : Below W.heap.size W W') : s.post enc P f apart fresh handsOn again W args (.bool true) W' := by
  refine post_of_below (pa := p) (pv := []) hW ?_ ?_ ?_ (by simp) hb ?_
  · intro b sp hd
    rw [hs, hr]
    exact trodAll_mk1 (shut_bool htb true)
  · intro sp hsp
    rw [hs]
    exact trodAll_below hl hb hread hA (fun x hx => hW.lt x hx) hsp
  · intro sp hsp
    rw [hs, hv]
    rfl
  · exact ok_one hr rfl (okWide_bool_mk htb true)
/-- A slice of integers that came in. -/
theorem open_il {t e : TypeId} {W : World} {v : Value} {d : DataW H} {p : List MemPlace} {base : Nat} (ht : P.underlying t = some (.slice e)) (he : P.underlying e = some (.int .i64)) (hc : P.cellsOf e = 1)
    (hv : Value.okWide P W .any base t v) (h : DataW.Trod enc P W 0 (fun _ => true) true t v d p) : ∃ A c l, v = .slice A l.length c ∧ (A = none → c = 0) ∧ Rd W (· < W.heap.size) A 1 (fun n => [.int .i64 n]) l ∧
      l.length ≤ maxLen ∧ ∀ n ∈ l, -9223372036854775808 ≤ n ∧ n ≤ 9223372036854775807 := by
  obtain ⟨a0, len, cap, rfl⟩ := okWide_slice ht hv
  obtain ⟨fuel, hf⟩ := h
  rcases open_ints ht he hc hf with ⟨hcs, hx⟩ | ⟨a, len', cap', zs, hcs, _, hl, hm, hz, hx, hcell, hwz⟩
  · simp [Value.cells] at hcs
    obtain ⟨rfl, rfl, rfl⟩ := hcs
    exact ⟨none, 0, [], rfl, fun _ => rfl, Rd.nil _ _ _ _ _, by simp, by simp⟩
  · simp [Value.cells] at hcs
    obtain ⟨rfl, rfl, rfl⟩ := hcs
    simp only [if_true] at hz
    refine ⟨some a, cap, zs.take len, by rw [List.length_take, Nat.min_eq_left (by omega)], (fun e => by cases e), ?_, (by rw [List.length_take]; omega), fun n hn => ?_⟩
    · intro hl0
      have h0 := hcell 0 (by rw [List.length_take] at hl0; omega)
      obtain ⟨b, o, rfl, hc'⟩ := ints_at hcell (by rw [List.length_take] at hl0; omega)
      have hlt : b < W.heap.size := by
        have h1 := hc' 0 (by rw [List.length_take] at hl0; omega)
        exact World.block_lt_of_cell? W ⟨b, o + 0, none⟩ h1
      refine ⟨b, o, rfl, hlt, fun k j x u hx hu => ?_⟩
      have hk := yP hx
      rw [List.length_take] at hk
      obtain rfl : j = 0 := by
        cases j with
        | zero => rfl
        | succ j => simp at hu
      simp at hu
      subst hu
      have h1 := hc' k (by omega)
      rw [Nat.mul_one, Nat.add_zero]
      rw [h1]
      rw [List.getElem?_take_of_lt (by omega)] at hx
      rw [List.getD_eq_getElem?_getD, hx]
      rfl
    · exact bounds_i64 (hwz n (List.mem_of_mem_take hn))
end
end Go.Proofs.YtggngllfnboehaaGreatDoor
namespace Go.Proofs.YtggngllfnboehaaGreatDoor
open Go Go.ChangeShapes Go.WideShapes Go.ChangeAt Go.RowKit
def memM (W : World) : Nat → Option (Array Value) := fun g => match W.heap[g]? with
  | some (.cells arr _ _) => some arr
  | _ => none
theorem memM_of {W : World} {g : Nat} {arr : Array Value} {t : TypeId} {fr : Nat × Nat} (h : W.heap[g]? = some (.cells arr t fr)) : memM W g = some arr := by
  unfold memM; rw [h]
theorem memM_inv {W : World} {g : Nat} {arr : Array Value} (h : memM W g = some arr) : ∃ t fr, W.heap[g]? = some (.cells arr t fr) := by
  unfold memM at h
  split at h
  · rename_i a t fr e
    injection h with h; subst h
    exact ⟨t, fr, e⟩
  · cases h
theorem memM_cell {W : World} {b o : Nat} {u : Value} (h : W.cell? ⟨b, o, none⟩ = some u) : ∃ arr, memM W b = some arr ∧ arr[o]? = some u := by
  unfold World.cell? at h
  unfold memM
  split at h
  · rename_i c t fr e
    simp only at e
    rw [e]
    exact ⟨c, rfl, by simpa using h⟩
  · cases h
theorem acalls_row {P : Program} {G : Nat → Option (List Value)} {f : FuncId} {args : List AV} {u : Value} {vs : List Value} {W : World} (h : yF P G f args [] (.v u) []) (hG : ∀ g us, G g = some us → ∃ t fr, W.heap[g]? = some (.cells ⟨us⟩ t fr)) (hl : vs.length = args.length)
    (ha : ∀ (j : Nat) (x : AV) (v : Value), args[j]? = some x → vs[j]? = some v → Rep (memM W) (refρ []) x v) : Calls P f ⟨vs⟩ W (fun e W' => e = .returned u ∧ Below W.heap.size W W') := by
  refine (h.2 (memM W) W [] vs (fun g arr e => memM_inv e) (fun g us e => ?_) (by simp) ⟨rfl, by simp⟩ hl ha).mono fun e W' hp => ?_
  · obtain ⟨t, fr, hh⟩ := hG g us e
    exact memM_of hh
  · obtain ⟨v, M', gs', he, -, -, p1, p2, p3, p4, p5, -, -, -, -, hr⟩ := hp
    cases hr
    exact ⟨he, p1, p2, p3, p4, fun g hg => p5 g hg (by simp)⟩
theorem rd_sl {α : Type} {f : α → List Value} {av : α → AV} {W : World} {S : Nat → Prop} {A : Option Addr} {sz c : Nat} {L : List α} {ρ : Nat → Nat → Option Value} (hav : ∀ x, (av x).cells = (f x).map .v) (hsz : ∀ x, (f x).length = sz) (hpos : 0 < sz) (h : Rd W S A sz f L) (hc : L.length ≤ c) (hm : c ≤ maxLen) : Rep (memM W) ρ (.sl sz (L.map av)) (.slice A L.length c) := by
  have hu : ∀ (k : Nat) (x : AV), (L.map av)[k]? = some x → ∃ x0, L[k]? = some x0 ∧ x = av x0 := fun k x e => by
    rw [List.getElem?_map] at e
    cases hx : L[k]? with
    | none => rw [hx] at e; cases e
    | some x0 => rw [hx] at e; injection e with e; exact ⟨x0, rfl, e.symm⟩
  have key := Rep.sl (M := memM W) ρ sz (L.map av) A c (fun k j => ((L[k]?).bind fun x => (f x)[j]?).getD undef) (by simpa using hc) hm (fun k x j y hx hy => by
    obtain ⟨x0, h0, rfl⟩ := hu k x hx
    rw [hav, List.getElem?_map] at hy
    simp only [h0, Option.bind_some]
    cases hz : (f x0)[j]? with
    | none => rw [hz] at hy; cases hy
    | some u => rw [hz] at hy; injection hy with hy; subst hy; exact .v _ _) (fun k x hx => by
    obtain ⟨x0, h0, rfl⟩ := hu k x hx
    refine ⟨by rw [hav, List.length_map, hsz], ?_⟩
    obtain ⟨b, o, e, -, hcell⟩ := h (by have := yP h0; omega)
    have at_ : ∀ j, j < sz → ∃ arr, memM W b = some arr ∧ arr[o + k * sz + j]? = some (((L[k]?).bind fun x => (f x)[j]?).getD undef) := fun j hj => by
      obtain ⟨u, hu⟩ := zl (L := f x0) (k := j) (by rw [hsz]; exact hj)
      obtain ⟨arr, a1, a2⟩ := memM_cell (hcell k j x0 u h0 hu)
      refine ⟨arr, a1, ?_⟩
      rw [a2, h0]
      simp [hu]
    obtain ⟨arr, a1, -⟩ := at_ 0 hpos
    refine ⟨b, o, arr, e, a1, fun j hj => ?_⟩
    obtain ⟨arr', b1, b2⟩ := at_ j hj
    rw [a1] at b1; injection b1 with b1; subst b1
    exact b2)
  rw [List.length_map] at key
  exact key
section
variable {H : Type} {enc : TypeId × Value → H} {P : Program}
/-- A list of integers that came in, as an immutable slice. -/
theorem open_sl {t e : TypeId} {W : World} {v : Value} {d : DataW H} {p : List MemPlace} {base : Nat} {ρ : Nat → Nat → Option Value} (ht : P.underlying t = some (.slice e)) (he : P.underlying e = some (.int .i64)) (hc : P.cellsOf e = 1)
    (hv : Value.okWide P W .any base t v) (h : DataW.Trod enc P W 0 (fun _ => true) true t v d p) : ∃ l : List Int, Rep (memM W) ρ (.sl 1 (l.map fun n => .v (.int .i64 n))) v ∧ ∀ n ∈ l, -9223372036854775808 ≤ n ∧ n ≤ 9223372036854775807 := by
  obtain ⟨A, c, l, hv', hn, hrd, hm, hb⟩ := open_il ht he hc hv h
  have hcap : l.length ≤ c ∧ c ≤ maxLen := by
    obtain ⟨fuel, hf⟩ := h
    rcases open_ints ht he hc hf with ⟨hcs, hx⟩ | ⟨a, len', cap', zs, hcs, _, hl, hm', hz, hx, hcell, hwz⟩
    · rw [hv'] at hcs
      simp [Value.cells] at hcs
      obtain ⟨rfl, rfl, rfl⟩ := hcs
      exact ⟨by simp, by simp⟩
    · rw [hv'] at hcs
      simp [Value.cells] at hcs
      obtain ⟨rfl, rfl, rfl⟩ := hcs
      exact ⟨hl, hm'⟩
  subst hv'
  exact ⟨l, rd_sl (fun _ => rfl) (fun _ => rfl) (by decide) hrd hcap.1 hcap.2, hb⟩
end
end Go.Proofs.YtggngllfnboehaaGreatDoor
