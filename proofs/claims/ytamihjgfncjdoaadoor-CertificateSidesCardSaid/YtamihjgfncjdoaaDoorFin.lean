/- From a row's condition on the listed tables to what the walks ask of them (for the abstract machine); conditions: none / How a law's row follows from its walk: the arguments read behind the call as before it, where the call has only laid new memory; nothing of the program stands here. -/
import Derived.Test.YtamihjgfncjdoaaDoorRows
import Derived.Test.YtamihjgfncjdoaaDoorLexA
import Derived.ProofKit
import Derived.LaidMore
import Derived.OpenShut
import Derived.Stop.Joined
import Derived.Stop.LaidErr
import Derived.Deep.Strs
import Derived.Lib.LaidTab
import Derived.MakeChecks
import Derived.Test.YtamihjgfncjdoaaDoorLib
import Derived.ShutString
set_option linter.unusedVariables false
set_option linter.unusedSimpArgs false
namespace Go.Proofs.YtamihjgfncjdoaaDoor
open Go Go.ChangeShapes Go.WideShapes Go.ChangeAt Go.RowKit Go.Deep
def Cls (w : World) : Prop := ∃ t fr, w.heap[0]? = some (.cells ⟨clsL⟩ t fr)
theorem cellsArr0 : Tryd.prog.cellsOf 124 = 12 := by kernel_rfl
theorem cellsRow0 : Tryd.prog.cellsOf 123 = 3 := by kernel_rfl
theorem cellsU80 : Tryd.prog.cellsOf 5 = 1 := by kernel_rfl
theorem cellsBoolL : Tryd.prog.cellsOf 4 = 1 := by kernel_rfl
theorem gCls : Tryd.prog.globalNamed "permitoffice/lexeme.classes" = some 0 := by kernel_rfl
theorem tCls : (Tryd.prog.globals[0]?).map (·.type) = some 124 := by kernel_rfl
set_option maxRecDepth 100000 in
theorem cls_row {H : Type} {enc : TypeId × Value → H} {W : World} {base : Nat} {sp : Nat → Bool} {held : Bool} {m : Nat} {cs : List Value} {x : DataW H × List MemPlace} (h : DataW.trod enc Tryd.prog W base sp held m 123 cs = some x) :
    ∃ a b f, cs = [.int .u8 a, .int .u8 b, .bool f] ∧ x.1 = .agg [.lit (.int .u8 a), .lit (.int .u8 b), .lit (.bool f)] := by
  obtain ⟨y0, y1, y2, n', rfl, hl, h0, h1, h2⟩ := trod_struct3 Tryd.underlying123 h
  rw [cellsRow0] at hl
  simp only [cellsU80, cellsBoolL] at h0 h1 h2
  match cs, hl with
  | [v0, v1, v2], _ =>
    simp only [List.drop_zero, List.drop_succ_cons, List.take_succ_cons, List.take_zero] at h0 h1 h2
    obtain ⟨k0, e0, z0, -⟩ := DataW.trod_int Tryd.underlying5 h0
    obtain ⟨k1, e1, z1, -⟩ := DataW.trod_int Tryd.underlying5 h1
    obtain ⟨k2, e2, z2⟩ := DataW.trod_bool Tryd.underlying4 h2
    simp only [List.cons.injEq, and_true] at e0 e1 e2
    subst e0; subst e1; subst e2
    exact ⟨k0, k1, k2, rfl, by rw [z0, z1, z2]⟩
set_option maxRecDepth 100000 in
theorem cls_of_head {rest : List (String × DataW Unit)} {W : World} (h : laidMet Tryd.prog (("permitoffice/lexeme.classes", Rows.laid_permitoffice_lexeme_classes) :: rest) W) : Cls W := by
  obtain ⟨ps, ⟨g', t', cs, fuel, p, q, hg', ht', hvar, hd, _, _⟩, _⟩ := h
  obtain rfl := Option.some.inj (gCls.symm.trans hg')
  obtain rfl := Option.some.inj (tCls.symm.trans ht')
  obtain ⟨xs, m1, rfl, hx1, hlen, hn, hel⟩ := DataW.trod_array Tryd.underlying124 hd
  rw [cellsArr0] at hlen
  simp only [cellsRow0] at hel
  obtain ⟨l⟩ := cs
  simp only [Prod.mk.injEq, Rows.laid_permitoffice_lexeme_classes, DataW.agg.injEq] at hx1
  have hcs : l = clsL := by
    match xs, hn, l, hlen with
    | [x0, x1, x2, x3], _, [v0, v1, v2, v3, v4, v5, v6, v7, v8, v9, v10, v11], _ =>
      obtain ⟨a0, b0, f0, c0, d0⟩ := cls_row (hel 0 (by omega))
      obtain ⟨a1, b1, f1, c1, d1⟩ := cls_row (hel 1 (by omega))
      obtain ⟨a2, b2, f2, c2, d2⟩ := cls_row (hel 2 (by omega))
      obtain ⟨a3, b3, f3, c3, d3⟩ := cls_row (hel 3 (by omega))
      simp at c0 c1 c2 c3
      have hx := hx1.1
      simp only [List.map_cons, List.map_nil, d0, d1, d2, d3] at hx
      simp at hx
      simp_all [clsL]
  unfold World.var? at hvar
  rw [gCls] at hvar
  simp only [Option.bind_some] at hvar
  split at hvar
  · rename_i c t fr hh
    injection hvar with hvar
    refine ⟨t, fr, ?_⟩
    rw [hh, hvar, hcs]
  · cases hvar
end Go.Proofs.YtamihjgfncjdoaaDoor
namespace Go.Proofs.YtamihjgfncjdoaaDoor
open Go Go.ChangeShapes Go.WideShapes Go.ChangeAt Go.RowKit
section
variable {H : Type} {enc : TypeId × Value → H} {P : Program}
theorem post_of_below {f : Func} {s : ChangeSpec} {apart fresh handsOn again : Bool} {W W' : World} {args : Array Value} {v : Value} {ds gs : List (DataW H)} {before pa pv : List MemPlace}
    (hW : DataW.Whole enc P f.params.toList s.vars apart W args.toList ds gs before)
    (hres : ∀ (b : Nat) (sp : Nat → Bool) (hd : Bool), DataW.TrodAll enc P W' b sp hd f.resultTypes.toList (v.resultList f.resultTypes.size) (s.fn H (ds ++ gs)).results [])
    (hargs : ∀ sp : Nat → Bool, (∀ p ∈ before, sp p.block = true) → DataW.TrodAll enc P W' 0 sp true f.params.toList args.toList (s.fn H (ds ++ gs)).args pa)
    (hvars : ∀ sp : Nat → Bool, (∀ p ∈ before, sp p.block = true) → DataW.TrodVars enc P W' sp s.vars (s.fn H (ds ++ gs)).vars pv)
    (hps : before = pa ++ pv) (hb : Below W.heap.size W W')
    (hok : ∀ (j : Nat) (t : TypeId) (r : Value), f.resultTypes[j]? = some t → (v.resultList f.resultTypes.size)[j]? = some r → Value.okWide P W' .any 0 t r) :
    s.post enc P f apart fresh handsOn again W args v W' := by
  have hlt : ∀ p ∈ before, p.block < W.heap.size := fun p hp => hW.lt p hp
  have hold : ∀ p ∈ before, (fun b => decide (b < W.heap.size)) p.block = true := fun p hp => by simpa using hlt p hp
  refine ⟨ds, gs, before, [], pa, pv, hW, hres _ _ _, hargs _ hold, hvars _ hold, World.keptBut_mono (fun p hp => ⟨hp, ?_⟩) (hb.frame (· ∈ before)), fun _ => ?_⟩
  · rw [hps, List.mem_append] at hp
    exact Or.inr hp
  · obtain ⟨_, _, _, _, _, hz, hn⟩ := hW
    refine ⟨hok, _, _, ([] ++ pa) ++ pv, ⟨[] ++ pa, pv, trodAll_append (hargs _ (fun _ _ => rfl)) (hres _ _ _), hvars _ (fun _ _ => rfl), rfl, ?_, ?_⟩, ?_⟩
    · intro b off hp
      have hin : MemPlace.cell b off ∈ before := by rw [hps]; simpa using hp
      rw [hb.frozen (hlt _ hin)]
      exact hz b off hin
    · intro ha
      have := hn ha
      rw [hps] at this
      simpa using this
    · intro p hp _
      rw [hps]
      simpa using hp
theorem trodAll_below (hl : laidOutB P = true) {W W' : World} (hb : Below W.heap.size W W') {sp : Nat → Bool} : ∀ {ts : List TypeId} {vs : List Value} {ds : List (DataW H)} {ps : List MemPlace},
    (∀ t ∈ ts, P.readableRec t = true ∧ t < P.types.size) → DataW.TrodAll enc P W 0 (fun _ => true) true ts vs ds ps → (∀ x ∈ ps, x.block < W.heap.size) → (∀ x ∈ ps, sp x.block = true) → DataW.TrodAll enc P W' 0 sp true ts vs ds ps
  | [], vs, ds, ps, _, h, _, _ => by
    obtain ⟨rfl, rfl, rfl⟩ := trodAll_nil h
    exact trodAll_mk0
  | t :: ts, vs, ds, ps, hr, h, hlt, hsp => by
    obtain ⟨v, vs', d, ds', p, q, rfl, rfl, rfl, h0, r0⟩ := trodAll_cons h
    have ht := hr t (by simp)
    exact trodAll_cons_mk (WideElems.Trod_stays hl ht.1 ht.2 h0 (fun x hx => hb.same (hlt x (by simp [hx]))) (fun x hx => hsp x (by simp [hx])))
      (trodAll_below hl hb (fun u hu => hr u (by simp [hu])) r0 (fun x hx => hlt x (by simp [hx])) (fun x hx => hsp x (by simp [hx])))
/-- A law's end. -/
theorem law_done {f : Func} {s : ChangeSpec} {apart fresh handsOn again : Bool} {W W' : World} {args : Array Value} {ds : List (DataW H)} {p : List MemPlace} {tb : TypeId} (hl : laidOutB P = true)
    (hW : DataW.Whole enc P f.params.toList s.vars apart W args.toList ds [] p) (hA : DataW.TrodAll enc P W 0 (fun _ => true) true f.params.toList args.toList ds p)
    (hread : ∀ t ∈ f.params.toList, P.readableRec t = true ∧ t < P.types.size) (hv : s.vars = []) (hr : f.resultTypes = #[tb]) (htb : P.underlying tb = some .bool)
    (hs : s.fn H (ds ++ []) = { results := [.lit (.bool true)], args := ds }) (hb : Below W.heap.size W W') : s.post enc P f apart fresh handsOn again W args (.bool true) W' := by
  refine post_of_below (pa := p) (pv := []) hW ?_ ?_ ?_ (by simp) hb ?_
  · intro b sp hd
    rw [hs, hr]
    exact trodAll_mk1 (shut_bool htb true)
  · intro sp hsp
    rw [hs]
    exact trodAll_below hl hb hread hA (fun x hx => hW.lt x hx) hsp
  · intro sp hsp
    rw [hs, hv]
    rfl
  · exact ok_one hr rfl (okWide_bool_mk htb true)
/-- A slice of integers that came in. -/
theorem open_il {t e : TypeId} {W : World} {v : Value} {d : DataW H} {p : List MemPlace} {base : Nat} (ht : P.underlying t = some (.slice e)) (he : P.underlying e = some (.int .i64)) (hc : P.cellsOf e = 1)
    (hv : Value.okWide P W .any base t v) (h : DataW.Trod enc P W 0 (fun _ => true) true t v d p) : ∃ A c l, v = .slice A l.length c ∧ (A = none → c = 0) ∧ Rd W (· < W.heap.size) A 1 (fun n => [.int .i64 n]) l ∧
      l.length ≤ maxLen ∧ ∀ n ∈ l, -9223372036854775808 ≤ n ∧ n ≤ 9223372036854775807 := by
  obtain ⟨a0, len, cap, rfl⟩ := okWide_slice ht hv
  obtain ⟨fuel, hf⟩ := h
  rcases open_ints ht he hc hf with ⟨hcs, hx⟩ | ⟨a, len', cap', zs, hcs, _, hl, hm, hz, hx, hcell, hwz⟩
  · simp [Value.cells] at hcs
    obtain ⟨rfl, rfl, rfl⟩ := hcs
    exact ⟨none, 0, [], rfl, fun _ => rfl, Rd.nil _ _ _ _ _, by simp, by simp⟩
  · simp [Value.cells] at hcs
    obtain ⟨rfl, rfl, rfl⟩ := hcs
    simp only [if_true] at hz
    refine ⟨some a, cap, zs.take len, by rw [List.length_take, Nat.min_eq_left (by omega)], (fun e => by cases e), ?_, (by rw [List.length_take]; omega), fun n hn => ?_⟩
    · intro hl0
      have h0 := hcell 0 (by rw [List.length_take] at hl0; omega)
      obtain ⟨b, o, rfl, hc'⟩ := ints_at hcell (by rw [List.length_take] at hl0; omega)
      have hlt : b < W.heap.size := by
        have h1 := hc' 0 (by rw [List.length_take] at hl0; omega)
        exact World.block_lt_of_cell? W ⟨b, o + 0, none⟩ h1
      refine ⟨b, o, rfl, hlt, fun k j x u hx hu => ?_⟩
      have hk := lt_at hx
      rw [List.length_take] at hk
      obtain rfl : j = 0 := by
        cases j with
        | zero => rfl
        | succ j => simp at hu
      simp at hu
      subst hu
      have h1 := hc' k (by omega)
      rw [Nat.mul_one, Nat.add_zero]
      rw [h1]
      rw [List.getElem?_take_of_lt (by omega)] at hx
      rw [List.getD_eq_getElem?_getD, hx]
      rfl
    · exact bounds_i64 (hwz n (List.mem_of_mem_take hn))
end
end Go.Proofs.YtamihjgfncjdoaaDoor
