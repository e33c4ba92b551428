/- Calls that give back a new slice of their own whose elements may hold new slices, from a walk and in a walk; conditions: tables of types that agree with the program's / The reference of Text, by the abstract machine: the numeral of every integer; conditions: none. -/
import Derived.Test.YtjamibeffalhaaaGreatDoorFlA
import Derived.Test.YtjamibeffalhaaaGreatDoorLnP
set_option linter.unusedVariables false
set_option linter.unusedSimpArgs false
namespace Go.Proofs.YtjamibeffalhaaaGreatDoor
open Go Go.RowKit
def kG (M : Nat → Option (Array Value)) (w : World) (e sz : Nat) (L : List AV) (en : Ending) (w' : World) : Prop :=
  ∃ u us M', en = .returned u ∧ (∀ g a, M g = some a → M' g = some a) ∧ aU M' w' ∧ (∀ g, g < w.heap.size → M g = none → M' g = none) ∧ Below w.heap.size w w' ∧ w'.ownsRow w.heap.size e sz u L.length us ∧ (∀ g, vblk u = some g → M' g = none) ∧
    us.length = (L.flatMap AV.cells).length ∧ (∀ x ∈ L, x.cells.length = sz) ∧ ∀ (j : Nat) (x : AV) (y : Value), (L.flatMap AV.cells)[j]? = some x → us[j]? = some y → Rep M' noρ x y ∧ y.oneCell' = true
def mA (P : Program) (G : Nat → Option (List Value)) (f : FuncId) (args : List AV) (e sz : Nat) (L : List AV) : Prop :=
  cL P f ∧ ∀ M w (vs : List Value), aU M w → (∀ g us, G g = some us → M g = some ⟨us⟩) → vs.length = args.length → (∀ (j : Nat) (x : AV) (u : Value), args[j]? = some x → vs[j]? = some u → Rep M (refρ []) x u) → Calls P f ⟨vs⟩ w (kG M w e sz L)
def RetW (TB : Tabs) (fn : Func) (e sz : Nat) (L : List AV) : Exit → AS → Prop := fun ex σ =>
  (ex = .normal ∨ ex = .ret) ∧ ∃ s k, ResL TB σ fn.results.toList [.own s k] ∧ σ.H s = ⟨k, .buf e sz L⟩
theorem retW {TB : Tabs} {fn : Func} {e sz s k t1 : Nat} {L : List AV} {σ : AS} {ex : Exit} (he : ex = .normal ∨ ex = .ret) (hfn : fn.results = #[.tmp t1]) (h1 : σ.T t1 = .own s k) (hH : σ.H s = ⟨k, .buf e sz L⟩) : RetW TB fn e sz L ex σ := by
  refine ⟨he, s, k, ?_, hH⟩
  rw [hfn, ← h1]
  exact ⟨.tmp t1, trivial⟩
section
variable {P : Program} {TB : Tabs} {G : Nat → Option (List Value)} {f : FuncId} {args : List AV} {e sz : Nat} {L : List AV}
theorem rM (hTB : TabsOk P TB) {fn : Func} {c : Code} (he : cL P f) (hf : P.funcs[f]? = some fn) (hb : fn.body = some c) (n : Nat) (hn : fn.ntmps = n) (hle : args.length ≤ n)
    (h : ∀ X : Ctx, X.G = G → AWp P X n c (RetW TB fn e sz L) (cG args [])) : mA P G f args e sz L := by
  refine ⟨he, fun M w vs hl hG hv hrep => ?_⟩
  refine calls_of_wp hf hb ?_
  rw [hn]
  have hR := kX (n := n) (gs := []) (refs := []) hl hG (by simp) ⟨rfl, by simp⟩ hv hrep hle
  refine wp_mono ((h ⟨w, [], [], G, M⟩ rfl).run M (refρ []) _ w hR) ?_
  rintro ex a' w' ⟨M', ρ', σ', hR', hex, s, k, hx, hH⟩
  obtain ⟨u, hu, hru⟩ := mF hTB hR' hx
  have hru' : Rep M' ρ' (.own s k) u := hru
  obtain ⟨v, us, b1, b2, b3, b4, b5, b6⟩ := hR'.buf s k e sz L hH
  have hvu : v = u := by
    cases hru' with
    | own _ _ _ _ h1 _ => rw [h1] at b1; injection b1 with b1; exact b1.symm
  subst hvu
  have hM0 : ∀ g a, M g = some a → M' g = some a := fun g a h => by
    obtain ⟨t, fr, hh⟩ := hl g a h
    rw [hR'.base g (Array.getElem?_eq_some_iff.1 hh).1 (by simp)]; exact h
  have hpost : kG M w e sz L (.returned v) w' := ⟨v, us, M', rfl, hM0, hR'.live, fun g hg hn => by rw [hR'.base g hg (by simp)]; exact hn, ⟨hR'.os, hR'.tape, hR'.output, hR'.size, fun g hg => hR'.frame g hg (by simp)⟩, b2.up rfl, b3, b4, b5, b6⟩
  rcases hex with rfl | rfl
  · exact ⟨hR'.df, v, hu, hpost⟩
  · exact ⟨hR'.df, v, hu, hpost⟩
end
section
variable {P : Program} {X : Ctx} {n : Nat} {ops : Array Oper} {os : List Oper} {acc : List Rule} {σ : AS} {K : List Rule → AS → Prop} {gt : List (Nat × AV)} {ty : TypeId} {ps : String} {af : Array Edge} {g : Option (Nat × Bool)}
theorem pJ {f : FuncId} {tys : Array TypeId} {xs : List Operand} {args : List AV} {d k0 e sz : Nat} {q0 : Cont} {L : List AV} (hc : mA P X.G f args e sz L) (hargs : RenL noB (πs []) args (xs.map (ev σ))) (hH0 : σ.H d = ⟨k0, q0⟩)
    (h : Exec P X n ops os (mkG gt σ xs [d] (some d) (.own d (k0 + 1)) [(d, ⟨k0 + 1, .buf e sz L⟩)] :: acc) ((σ.hup d ⟨k0 + 1, .buf e sz L⟩).put (some d) (.own d (k0 + 1))) K) :
    Op1 P X n ops gt ⟨some d, .call ⟨.value (.func f), xs.toArray, tys⟩, ty, ps, af, g⟩ os acc σ K := by
  obtain rfl : (σ.H d).k = k0 := by rw [hH0]
  refine ⟨⟨mkR σ xs [d] (some d) (.own d ((σ.H d).k + 1)) [(d, ⟨(σ.H d).k + 1, .buf e sz L⟩)], fun hlt M ρ τ a w hf hR K Q hK => ?_, yX _ _ _ _ _ _, h⟩⟩
  have hH := jx hf (s := d) (by simp)
  obtain ⟨c1, c2, c3, c4⟩ := gF (ss := []) (refs := []) hR (by simp) trivial
  obtain ⟨a1, a2⟩ := cB hR (fun x hx => yp hf hx) hargs c3
  unfold Oper.wp
  rw [dC hc.1, Oper.upon_enter]
  refine (hc.2 M w _ hR.live hR.glob a1 a2).mono ?_
  rintro en w' ⟨u, us, M', rfl, p1, p2, p3, hb, hown, q0, q1, q2, q3⟩
  have hR' := hR.call (ss := []) (gs := []) (cs' := []) (w' := w') (by simp) rfl rfl (by simp) p1 p2 hb.os hb.tape hb.output hb.size (fun g hg _ => hb.block g hg) p3 (by simp)
  have hR' : Rel X n M' ρ τ a w' := hR'
  have hown' := uP (X := X) hown hR.size
  have hne : ∀ s' g, vblk u = some g → yA ρ s' (τ.H s') ≠ some g := fun s' g hg e => by
    have hlt := (hR.blk_lt e).1
    rcases hown.2 with ⟨rfl, _⟩ | ⟨g', cap, cur, rfl, hg', _⟩
    · simp [vblk] at hg
    · simp [vblk] at hg
      omega
  have hA := hR'.ownTo d (L := L) hown' hown'.1 ⟨rfl, rfl, rfl, Nat.le_refl _, fun _ _ _ => rfl⟩ (.inl rfl) q0 hne q1 q2 q3
  rw [hH] at hA
  refine hK M' _ _ w' (hA.put (.own _ _ _ _ ?_ (jw hown'.1).2) hlt)
  simp [updρ]
end
section
variable {X : Ctx} {n : Nat} {M : Nat → Option (Array Value)} {ρ : Nat → Nat → Option Value} {σ : AS} {a : Act} {w : World}
end
section
variable {P : Program} {X : Ctx} {n : Nat} {ops : Array Oper} {os : List Oper} {acc : List Rule} {σ : AS} {K : List Rule → AS → Prop} {gt : List (Nat × AV)} {ty : TypeId} {ps : String} {af : Array Edge} {g : Option (Nat × Bool)}
end
section
variable {P : Program} {X : Ctx} {n : Nat} {ops : Array Oper} {os : List Oper} {acc : List Rule} {σ : AS} {K : List Rule → AS → Prop} {gt : List (Nat × AV)} {ty : TypeId} {ps : String} {af : Array Edge} {g : Option (Nat × Bool)} {TB : Tabs} (hTB : TabsOk P TB)
include hTB
end
end Go.Proofs.YtjamibeffalhaaaGreatDoor
namespace Go.Proofs.YtjamibeffalhaaaGreatDoor
open Go Go.RowKit
set_option maxRecDepth 10000
variable {G : Nat → Option (List Value)}
theorem tdm (m : Int) : (m.tdiv 10).natAbs = m.natAbs / 10 ∧ (m.tmod 10).natAbs = m.natAbs % 10 ∧ (0 ≤ m → 0 ≤ m.tdiv 10 ∧ 0 ≤ m.tmod 10) ∧ (m ≤ 0 → m.tdiv 10 ≤ 0 ∧ m.tmod 10 ≤ 0) := by
  rcases Int.le_total 0 m with h | h
  · rw [Int.tdiv_eq_ediv_of_nonneg h, Int.tmod_eq_emod_of_nonneg h]
    refine ⟨by omega, by omega, by omega, by omega⟩
  · obtain ⟨p, rfl⟩ : ∃ p, m = -p := ⟨-m, by omega⟩
    have hp : 0 ≤ p := by omega
    rw [Int.neg_tdiv, Int.neg_tmod, Int.tdiv_eq_ediv_of_nonneg hp, Int.tmod_eq_emod_of_nonneg hp]
    refine ⟨by omega, by omega, by omega, by omega⟩
theorem ba_ext {s : ByteArray} {l : List UInt8} (h : s.data.toList = l) : s = ⟨l.toArray⟩ := by
  subst h; rfl
theorem lZ (a b : ByteArray) : (a ++ b).data.toList = a.data.toList ++ b.data.toList := by simp
set_option maxHeartbeats 2000000 in
theorem bV (n : Int) (h1 : -9223372036854775808 ≤ n) (h2 : n ≤ 9223372036854775807) : zy Tryz.prog G 33 [.v (.int .i64 n)] [] (.v (.string (txtP n))) [] := by
  have hi := kQ n
  have hln : (digs n.natAbs).length ≤ 19 := iI 19 _ (by omega)
  refine zd tbOk (zf Tryz.func33 (by kernel_rfl) rfl) Tryz.func33 rfl _ Tryz.ntmps33 (Nat.le_of_ble_eq_true rfl) fun X hX => ?_
  subst hX
  repeat (first | ((with_reducible refine zJ ?_); refine zK rfl ?_) | ((with_reducible refine zF ?_); refine zE rfl ?_) | ((with_reducible refine zR ?_); refine zS rfl rfl rfl ?_)  | refine zL ?_ | refine zB rfl ?_ | with_reducible (first | refine zG ?_ | refine zH ?_) | ((with_reducible refine zA ?_ ?_); kernel_rfl))
  refine zX rfl (fun h => ?_) (fun h => ?_)
  · have h0 : n = 0 := by simpa using h
    rw [if_pos h0] at hi
    repeat (first | ((with_reducible refine zF ?_); refine zE rfl ?_)  | refine zL ?_ | refine zB rfl ?_ | with_reducible (first | refine zG ?_ | refine zP ?_ | refine zH ?_ | refine zN ?_) | ((with_reducible refine zA ?_ ?_); kernel_rfl))
    refine ze (by first | exact .inr rfl | exact .inl rfl) rfl rfl ?_
    unfold txtP
    rw [hi]
  · have h0 : n ≠ 0 := by simpa using h
    rw [if_neg h0] at hi
    repeat (first | ((with_reducible refine zJ ?_); refine zK rfl ?_) | ((with_reducible refine zF ?_); refine zE rfl ?_)  | refine zL ?_ | refine zB rfl ?_ | with_reducible (first | refine zG ?_ | refine zH ?_ | refine zV ?_ | refine zT ?_) | ((with_reducible refine zA ?_ ?_); kernel_rfl))
    refine yJ (ι := Int × ByteArray) (fun q => (n < 0 → q.1 ≤ 0) ∧ (0 < n → 0 ≤ q.1) ∧ q.1.natAbs ≤ n.natAbs ∧ digs q.1.natAbs ++ q.2.data.toList = digs n.natAbs) (fun q => q.1.natAbs) (fun v q => [(0, .v (.int .i64 n)), (3, .v (.string q.2)), (4, .v (.int .i64 q.1))]) (fun v q => []) ?_ ?_
    · exact ⟨(n, ⟨#[]⟩), ⟨by show n < 0 → n ≤ 0; omega, by show 0 < n → 0 ≤ n; omega, Nat.le_refl _, by simp⟩, trivial, ⟨rfl, rfl, rfl, trivial⟩, trivial⟩
    rintro v ⟨m, s⟩ ⟨hm1, hm2, hm3, hf⟩
    simp only at hm1 hm2 hm3 hf
    dsimp only
    have hsl : s.size ≤ 19 := by
      have := congrArg List.length hf
      rw [List.length_append] at this
      have e : s.size = s.data.toList.length := by simp
      omega
    repeat (first | ((with_reducible refine zJ ?_); refine zK rfl ?_) | ((with_reducible refine zR ?_); refine zS rfl rfl rfl ?_)  | refine zL ?_ | refine zB rfl ?_ | with_reducible (first | refine zG ?_ | refine zH ?_) | ((with_reducible refine zA ?_ ?_); kernel_rfl))
    refine zX rfl (fun h => ?_) (fun h => ?_)
    · have hm0 : m ≠ 0 := by simpa using h
      obtain ⟨t1, t2, t3, t4⟩ := tdm m
      rw [lN (by omega), List.append_assoc] at hf
      have hwq : IntKind.i64.wrap (m.tdiv 10) = m.tdiv 10 := yf (by omega)
      repeat (first | ((with_reducible refine zJ ?_); refine zK rfl ?_) | ((with_reducible refine zF ?_); refine zE rfl ?_) | ((with_reducible refine zR ?_); (first | refine zS rfl rfl rfl ?_ | refine wZ rfl rfl (by first | decide | assumption | omega) ?_))  | refine zL ?_ | refine zB rfl ?_ | with_reducible (first | refine zG ?_ | refine zH ?_ | refine zV ?_ | refine zT ?_) | ((with_reducible refine zA ?_ ?_); kernel_rfl))
      refine zX rfl (fun hd => ?_) (fun hd => ?_)
      · have hd2 : m.tmod 10 < 0 := by simpa using hd
        have hw : IntKind.i64.wrap (0 - m.tmod 10) = ((m.natAbs % 10 : Nat) : Int) := by rw [yf (by omega)]; omega
        repeat (first | ((with_reducible refine zJ ?_); refine zK rfl ?_) | ((with_reducible refine zF ?_); refine zE rfl ?_) | ((with_reducible refine k_un ?_); refine x_neg rfl ?_) | ((with_reducible refine jq ?_); refine qx tbOk rfl rfl rfl (by first | assumption | exact jX (by omega) | exact yf (by omega) | exact qS (by omega)) ?_) | ((with_reducible refine zR ?_); refine zk rfl rfl (by omega) ?_) | ((with_reducible refine zl ?_); refine zp tbOk rfl rfl rfl rfl rfl (by omega) rfl rfl rfl ?_) | refine zL ?_ | refine zB rfl ?_ | with_reducible refine zG ?_ | ((with_reducible refine zA ?_ ?_); kernel_rfl))
        refine bR Tryz.underlying42 Tryz.underlying5 Tryz.underlying9 rfl rfl (by simp) ?_
        repeat (first | ((with_reducible refine zJ ?_); refine zK rfl ?_)  | refine zB rfl ?_  )
        refine yY rfl rfl (by rw [strOfNums_size]; simp; omega) ?_
        repeat (first | ((with_reducible refine zJ ?_); refine zK rfl ?_) | ((with_reducible refine zF ?_); refine zE rfl ?_) | ((with_reducible refine zR ?_); refine nJ rfl rfl (by first | decide | assumption | omega) ?_)  | refine zL ?_ | refine zB rfl ?_ | with_reducible (first | refine zG ?_ | refine zo ?_) | ((with_reducible refine zA ?_ ?_); kernel_rfl))
        refine ⟨(IntKind.i64.wrap (m.tdiv 10), strOfNums [48 + IntKind.i64.wrap (0 - m.tmod 10)] ++ s), ?_, ?_, ⟨rfl, rfl, rfl, trivial⟩, trivial⟩
        · dsimp only
          rw [hwq]
          refine ⟨by omega, by omega, by omega, ?_⟩
          rw [← hf, t1, lZ, strOfNums_data, hw]
          refine congrArg (_ ++ ·) (congrArg (· ++ _) ?_)
          show [_] = [_]
          congr 2
        · dsimp only
          rw [hwq]
          omega
      · have hd2 : ¬ m.tmod 10 < 0 := by simpa using hd
        have hw : m.tmod 10 = ((m.natAbs % 10 : Nat) : Int) := by omega
        repeat (first | ((with_reducible refine zJ ?_); refine zK rfl ?_) | ((with_reducible refine jq ?_); refine qx tbOk rfl rfl rfl (by first | assumption | exact jX (by omega) | exact yf (by omega) | exact qS (by omega)) ?_) | ((with_reducible refine zR ?_); refine zk rfl rfl (by omega) ?_) | ((with_reducible refine zl ?_); refine zp tbOk rfl rfl rfl rfl rfl (by omega) rfl rfl rfl ?_) | refine zB rfl ?_ | with_reducible (first | refine zG ?_ | refine zT ?_) | ((with_reducible refine zA ?_ ?_); kernel_rfl))
        refine bR Tryz.underlying42 Tryz.underlying5 Tryz.underlying9 rfl rfl (by simp) ?_
        repeat (first | ((with_reducible refine zJ ?_); refine zK rfl ?_)  | refine zB rfl ?_  )
        refine yY rfl rfl (by rw [strOfNums_size]; simp; omega) ?_
        repeat (first | ((with_reducible refine zJ ?_); refine zK rfl ?_) | ((with_reducible refine zF ?_); refine zE rfl ?_) | ((with_reducible refine zR ?_); refine nJ rfl rfl (by first | decide | assumption | omega) ?_)  | refine zL ?_ | refine zB rfl ?_ | with_reducible (first | refine zG ?_ | refine zo ?_) | ((with_reducible refine zA ?_ ?_); kernel_rfl))
        refine ⟨(IntKind.i64.wrap (m.tdiv 10), strOfNums [48 + m.tmod 10] ++ s), ?_, ?_, ⟨rfl, rfl, rfl, trivial⟩, trivial⟩
        · dsimp only
          rw [hwq]
          refine ⟨by omega, by omega, by omega, ?_⟩
          rw [← hf, t1, lZ, strOfNums_data, hw]
          refine congrArg (_ ++ ·) (congrArg (· ++ _) ?_)
          show [_] = [_]
          congr 2
        · dsimp only
          rw [hwq]
          omega
    · have hm0 : m = 0 := by simpa using h
      have hf2 : s.data.toList = digs n.natAbs := by rw [← hf, hm0]; rfl
      repeat (first | ((with_reducible refine zJ ?_); refine zK rfl ?_) | ((with_reducible refine zR ?_); refine zS rfl rfl rfl ?_)  | refine zL ?_ | refine zB rfl ?_ | with_reducible (first | refine zG ?_ | refine zj ?_ | refine zH ?_ | refine zz ?_) | ((with_reducible refine zg ?_ ?_); rfl) | ((with_reducible refine zA ?_ ?_); kernel_rfl))
      refine zX rfl (fun hd => ?_) (fun hd => ?_)
      · rw [if_pos (by simpa using hd)] at hi
        repeat (first | ((with_reducible refine zJ ?_); refine zK rfl ?_)  | refine zB rfl ?_  | ((with_reducible refine zA ?_ ?_); kernel_rfl))
        refine yY rfl rfl (by show 1 + s.size ≤ _; omega) ?_
        repeat (first | ((with_reducible refine zJ ?_); refine zK rfl ?_) | ((with_reducible refine zF ?_); refine zE rfl ?_)  | refine zL ?_ | refine zB rfl ?_ | with_reducible (first | refine zG ?_ | refine zH ?_ | refine zN ?_) | ((with_reducible refine zA ?_ ?_); kernel_rfl))
        refine ze (by first | exact .inr rfl | exact .inl rfl) rfl rfl ?_
        unfold txtP
        rw [hi, ← hf2]
        refine congrArg (fun s => AV.v (.string s)) (Eq.symm (ba_ext ?_))
        rw [lZ]; rfl
      · rw [if_neg (by simpa using hd)] at hi
        repeat (first | ((with_reducible refine zJ ?_); refine zK rfl ?_) | ((with_reducible refine zF ?_); refine zE rfl ?_)  | refine zL ?_ | refine zB rfl ?_ | with_reducible (first | refine zG ?_ | refine zH ?_ | refine zT ?_ | refine zN ?_) | ((with_reducible refine zA ?_ ?_); kernel_rfl))
        refine ze (by first | exact .inr rfl | exact .inl rfl) rfl rfl ?_
        unfold txtP
        rw [hi, ← hf2]
end Go.Proofs.YtjamibeffalhaaaGreatDoor
