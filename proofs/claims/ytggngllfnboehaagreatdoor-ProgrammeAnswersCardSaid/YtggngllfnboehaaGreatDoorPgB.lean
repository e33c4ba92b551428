/- programme.form, has, step, Check and their references, by the abstract machine; conditions: the table of classes stands / programme.step, Check and their references, by the abstract machine; conditions: the table of classes stands. -/
import Derived.Test.YtggngllfnboehaaGreatDoorPgQ
import Derived.Test.YtggngllfnboehaaGreatDoorAbsI
import Derived.Test.YtggngllfnboehaaGreatDoorNetC
set_option linter.unusedVariables false
set_option linter.unusedSimpArgs false
namespace Go.Proofs.YtggngllfnboehaaGreatDoor
open Go Go.RowKit
set_option maxRecDepth 10000
variable {G : Nat → Option (List Value)}
def St.av (s : St) : AV := .ag [.v (.int .i64 s.k), .v (.int .i64 s.d), .v (.int .i64 s.n), .v (.int .i64 s.p), .v (.int .i64 s.y)]
def St.vals (s : St) : List Value := [.int .i64 s.k, .int .i64 s.d, .int .i64 s.n, .int .i64 s.p, .int .i64 s.y]
def Pg.av (P : Pg) : AV := .ag [.v (.string P.n), .sl 5 (P.st.map St.av)]
def nwAV (N : List Nd) (V : List Dv) : AV := .ag [.sl 3 (N.map Nd.av), .sl 5 (V.map Dv.av)]
structure NwOk (N : List Nd) (V : List Dv) : Prop where
  n : ∀ x ∈ N, x.n.size ≤ maxLen
  v : ∀ x ∈ V, x.n.size ≤ maxLen
  l1 : N.length ≤ maxLen
  l2 : V.length ≤ maxLen
theorem st_at {L : List St} {k : Nat} {x : St} (h : L[k]? = some x) : (L.map St.av)[k]? = some x.av := by rw [List.getElem?_map, h]; rfl
theorem dv_at' {L : List Dv} {k : Nat} {x : Dv} (h : L[k]? = some x) : (L.map Dv.av)[k]? = some x.av := by rw [List.getElem?_map, h]; rfl
theorem nd_at' {L : List Nd} {k : Nat} {x : Nd} (h : L[k]? = some x) : (L.map Nd.av)[k]? = some x.av := by rw [List.getElem?_map, h]; rfl
theorem askW : AskT Tryz.prog 93 := askT Tryz.underlying93 rfl (by kernel_rfl)
theorem askD : AskT Tryz.prog 95 := askT Tryz.underlying95 rfl (by kernel_rfl)
theorem askN : AskT Tryz.prog 96 := askT Tryz.underlying96 rfl (by kernel_rfl)
theorem askP : AskT Tryz.prog 97 := askT Tryz.underlying97 rfl (by kernel_rfl)
theorem askK : AskT Tryz.prog 99 := askT Tryz.underlying99 rfl (by kernel_rfl)
theorem eqWord : EqS Tryz.prog 20 93 := eqS Tryz.underlying20 Tryz.underlying93 (by kernel_rfl)
/-- What stands in the line of a step. -/
inductive It where
  | wd (s : ByteArray)
  | dv
  | nd
  | ps
  | ky
def It.v : It → Value
  | .wd s => .iface 93 (.string s)
  | .dv => .iface 95 (.agg ⟨[]⟩)
  | .nd => .iface 96 (.agg ⟨[]⟩)
  | .ps => .iface 97 (.agg ⟨[]⟩)
  | .ky => .iface 99 (.agg ⟨[]⟩)
def It.av (i : It) : AV := .v i.v
theorem itv_at {L : List It} {k : Nat} {x : It} (h : L[k]? = some x) : (L.map It.av)[k]? = some x.av := by rw [List.getElem?_map, h]; rfl
def wS (a : Array UInt8) : It := .wd ⟨a⟩
def jW (k : Int) : List It :=
  if k = 1 then [wS #[111, 112, 101, 110], .dv] else if k = 2 then [wS #[99, 108, 111, 115, 101], .dv]
  else if k = 3 then [wS #[108, 111, 99, 107], .dv, .ps, wS #[107, 101, 121], .ky] else if k = 4 then [wS #[117, 110, 108, 111, 99, 107], .dv, wS #[107, 101, 121], .ky]
  else if k = 5 then [wS #[112, 114, 111, 118, 101], .nd] else if k = 6 then [wS #[99, 104, 101, 99, 107], .dv, .ps] else []
set_option maxHeartbeats 2000000 in
theorem form_A (k : Int) (hk : 1 ≤ k ∧ k ≤ 6) : yF Tryz.prog G 48 [.v (.int .i64 k)] [] (.sl 1 ((jW k).map It.av)) [] := by
  rcases (by omega : k = 1 ∨ k = 2 ∨ k = 3 ∨ k = 4 ∨ k = 5 ∨ k = 6) with e | e | e | e | e | e <;> subst e
  all_goals
    refine zj tbOk (zn Tryz.func48 (by kernel_rfl) rfl) Tryz.func48 rfl _ Tryz.ntmps48 (Nat.le_of_ble_eq_true rfl) fun X hX => ?_
    subst hX
    repeat (first | ((with_reducible refine zI ?_); refine zH rfl ?_) | ((with_reducible refine zE ?_); refine zD rfl ?_) | ((with_reducible refine ye ?_); refine yg tbOk rfl rfl rfl rfl rfl ?_) | ((with_reducible refine zM ?_); refine zV rfl rfl rfl ?_) | ((with_reducible refine yG ?_); refine yH tbOk rfl rfl rfl rfl rfl (by omega) rfl rfl rfl ?_) | refine zJ ?_ | refine zB rfl ?_ | with_reducible refine zC ?_ | with_reducible refine zS ?_ | with_reducible refine zh ?_ | with_reducible refine zF ?_ | with_reducible refine zY ?_ | with_reducible refine zU ?_ | ((with_reducible refine zA ?_ ?_); kernel_rfl) | refine zg rfl (by first | rfl | assumption) ?_ | refine zp rfl (by first | rfl | assumption) ?_ | ((with_reducible refine zi ?_); first | refine yY (by first | exact askW | exact askD | exact askN | exact askP | exact askK) rfl ?_ | refine zz (by first | exact askW | exact askD | exact askN | exact askP | exact askK) rfl rfl ?_) | ((with_reducible refine yE ?_); first | refine yM (by first | exact askW | exact askD | exact askN | exact askP | exact askK) rfl rfl ?_ | refine yD (by first | exact askW | exact askD | exact askN | exact askP | exact askK) rfl ?_ | refine yS (by first | exact askW | exact askD | exact askN | exact askP | exact askK) rfl ?_))
    refine ret0_1 (by first | exact .inr rfl | exact .inl rfl) rfl rfl ?_
    exact Ren.sl _ _
set_option maxHeartbeats 2000000 in
theorem form_nil (k : Int) (hk : k < 1 ∨ 6 < k) : yF Tryz.prog G 48 [.v (.int .i64 k)] [] (.v (.slice none 0 0)) [] := by
  have h1 : decide (k = 1) = false := decide_eq_false (by omega)
  have h2 : decide (k = 2) = false := decide_eq_false (by omega)
  have h3 : decide (k = 3) = false := decide_eq_false (by omega)
  have h4 : decide (k = 4) = false := decide_eq_false (by omega)
  have h5 : decide (k = 5) = false := decide_eq_false (by omega)
  have h6 : decide (k = 6) = false := decide_eq_false (by omega)
  refine zj tbOk (zn Tryz.func48 (by kernel_rfl) rfl) Tryz.func48 rfl _ Tryz.ntmps48 (Nat.le_of_ble_eq_true rfl) fun X hX => ?_
  subst hX
  repeat (first | ((with_reducible refine zI ?_); refine zH rfl ?_) | ((with_reducible refine zE ?_); refine zD rfl ?_) | ((with_reducible refine zM ?_); refine zV rfl rfl rfl ?_)  | refine zJ ?_ | refine zB rfl ?_ | with_reducible refine zC ?_ | with_reducible refine zk ?_ | with_reducible refine zF ?_ | with_reducible refine zY ?_ | with_reducible refine zR ?_ | with_reducible refine zU ?_ | ((with_reducible refine zA ?_ ?_); kernel_rfl) | refine zp rfl (by first | rfl | assumption) ?_)
  refine yC (by first | exact .inr rfl | exact .inl rfl) rfl rfl ?_
  rfl
theorem exist_A (N : List Nd) (V : List Dv) (n : Int) : yF Tryz.prog G 67 [nwAV N V, .v (.int .i64 n)] [] (.v (.bool (decide (0 ≤ n ∧ n < (N.length : Int))))) [] := by
  refine zj tbOk (zn Tryz.func67 (by kernel_rfl) rfl) Tryz.func67 rfl _ Tryz.ntmps67 (Nat.le_of_ble_eq_true rfl) fun X hX => ?_
  subst hX
  repeat' (first | ((with_reducible refine zI ?_); refine zH rfl ?_) | ((with_reducible refine zE ?_); refine zD rfl ?_) | ((with_reducible refine zK ?_); refine zG tbOk rfl rfl rfl rfl ?_) | ((with_reducible refine zL ?_); refine zN tbOk rfl rfl rfl rfl rfl ?_) | ((with_reducible refine yj ?_); refine yi rfl rfl rfl ?_) | ((with_reducible refine zb ?_); refine zt rfl (by first | rfl | assumption) rfl ?_) | ((with_reducible refine zb ?_); refine zq rfl (by first | rfl | assumption) rfl ?_) | ((with_reducible refine zu ?_); refine yR tbOk rfl rfl ?_) | ((with_reducible refine zM ?_); refine zV rfl rfl rfl ?_)  | refine zJ ?_ | refine zB rfl ?_ | refine yK rfl rfl (by first | rfl | assumption) ?_ | refine yQ rfl rfl (by first | rfl | assumption) ?_ | with_reducible refine zC ?_ | with_reducible refine zF ?_ | with_reducible refine zU ?_ | ((with_reducible refine zA ?_ ?_); kernel_rfl) | refine yI rfl rfl (fun _ => ?_) (fun _ => ?_) | refine zm rfl (fun _ => ?_) (fun _ => ?_))
  all_goals
    refine yC (by first | exact .inr rfl | exact .inl rfl) rfl rfl ?_
    first | (simp_all; done) | (simp_all; omega)
/-- A step without the fields that it has, and which of them are wrong. -/
structure HS where
  s : St
  a : Bool
  b : Bool
  c : Bool
  e : Bool
def HS.go (nN nV : Int) (h : HS) : It → HS
  | .wd _ => h
  | .dv => ⟨{ h.s with d := 0 }, decide (h.s.d < 0) || decide (nV ≤ h.s.d), h.b, h.c, h.e⟩
  | .nd => ⟨{ h.s with n := 0 }, h.a, !decide (0 ≤ h.s.n ∧ h.s.n < nN), h.c, h.e⟩
  | .ps => ⟨{ h.s with p := 0 }, h.a, h.b, !decide (h.s.p = 1) && !decide (h.s.p = 2), h.e⟩
  | .ky => ⟨{ h.s with y := 0 }, h.a, h.b, h.c, decide (h.s.y < 0) || decide (65536 < h.s.y)⟩
def hs0 (s : St) : HS := ⟨s, false, false, false, false⟩
def HS.w (h : HS) : List AV := [.v (.bool h.a), .v (.bool h.b), .v (.bool h.c), .v (.bool h.e)]
theorem ret0_cc {TB : Tabs} {σ : AS} {fn : Func} {r : AV} {e : Exit} {p ty s k m p2 ty2 s2 k2 m2 : Nat} {cs cs2 : List AV} (he : e = .normal ∨ e = .ret) (hfn : fn.results = #[.cell p ty, .cell p2 ty2]) (hT : σ.T p = .ptr s k 0) (hH : σ.H s = ⟨k, .box cs⟩) (ht : lk TB.ty ty = some (true, m)) (hl : cs.length = m) (hT2 : σ.T p2 = .ptr s2 k2 0) (hH2 : σ.H s2 = ⟨k2, .box cs2⟩) (ht2 : lk TB.ty ty2 = some (true, m2)) (hl2 : cs2.length = m2) (hr : Ren (bufs σ) (jQ 0 []) r (.tu [.ag cs, .ag cs2])) : RetQ TB fn 0 r [] e σ := by
  refine ret0 he (xs := [.ag cs, .ag cs2]) ?_ hr
  rw [hfn]
  exact ⟨.agg p ty s k m cs hT hH ht hl, .agg p2 ty2 s2 k2 m2 cs2 hT2 hH2 ht2 hl2, trivial⟩
theorem decide_beq2 (x y : Int) : (x == y) = decide (x = y) := by by_cases h : x = y <;> simp [h]
set_option maxHeartbeats 4000000 in
theorem has_A (N : List Nd) (V : List Dv) (s : St) (F : List It) (hF : F.length ≤ 1000) : yF Tryz.prog G 53 [nwAV N V, s.av, .sl 1 (F.map It.av)] [] (.tu [(F.foldl (HS.go N.length V.length) (hs0 s)).s.av, .ag (F.foldl (HS.go N.length V.length) (hs0 s)).w]) [] := by
  refine zj tbOk (zn Tryz.func53 (by kernel_rfl) rfl) Tryz.func53 rfl _ Tryz.ntmps53 (Nat.le_of_ble_eq_true rfl) fun X hX => ?_
  subst hX
  repeat (first | ((with_reducible refine zI ?_); refine zH rfl ?_) | ((with_reducible refine yA ?_); refine yB tbOk rfl rfl ?_) | ((with_reducible refine yj ?_); refine yi rfl rfl rfl ?_) | ((with_reducible refine zu ?_); refine yR tbOk rfl rfl ?_)  | refine zJ ?_ | refine zB rfl ?_ | with_reducible refine zC ?_ | with_reducible refine zF ?_ | with_reducible refine zY ?_ | ((with_reducible refine zA ?_ ?_); kernel_rfl))
  refine yU (ι := Nat × HS) (fun i => i.1 ≤ F.length ∧ (F.take i.1).foldl (HS.go N.length V.length) (hs0 s) = i.2) (fun i => F.length - i.1) (fun v i => [(3, .ptr 3 (v 3) 0), (4, .ptr 4 (v 4) 0), (6, .ptr 6 (v 6) 0), (7, .ptr 7 (v 7) 0), (8, .ptr 8 (v 8) 0), (11, .sl 1 (F.map It.av)), (12, .v (.int .i64 (F.map It.av).length)), (13, .v (.int .i64 (i.1 : Nat)))]) (fun v i => [(3, .box [.sl 3 (N.map Nd.av), .sl 5 (V.map Dv.av)]), (4, .box [.v (.int .i64 i.2.s.k), .v (.int .i64 i.2.s.d), .v (.int .i64 i.2.s.n), .v (.int .i64 i.2.s.p), .v (.int .i64 i.2.s.y)]), (8, .box [.v (.bool i.2.a), .v (.bool i.2.b), .v (.bool i.2.c), .v (.bool i.2.e)]), (6, .box [.v (.int .i64 0), .v (.int .i64 0), .v (.int .i64 0), .v (.int .i64 0), .v (.int .i64 0)]), (7, .box [.v (.bool false), .v (.bool false), .v (.bool false), .v (.bool false)])]) ?_ ?_
  · exact ⟨(0, hs0 s), ⟨Nat.zero_le _, rfl⟩, trivial, ⟨rfl, rfl, rfl, rfl, rfl, rfl, rfl, rfl, trivial⟩, ⟨rfl, rfl, rfl, rfl, rfl, trivial⟩⟩
  rintro v ⟨k, q, a, b, c, e⟩ ⟨hk, hf⟩
  dsimp only at hk hf ⊢
  repeat (first | ((with_reducible refine zM ?_); refine zV rfl rfl rfl ?_)  | refine zJ ?_ | refine zB rfl ?_ | with_reducible refine zC ?_ | with_reducible refine zF ?_ | ((with_reducible refine zA ?_ ?_); kernel_rfl))
  refine zm rfl (fun h => ?_) (fun h => ?_)
  · have hlt : k < F.length := by simpa using h
    obtain ⟨x, hx⟩ := zl hlt
    have hy := itv_at hx
    cases x with
    | wd t =>
      repeat (first | ((with_reducible refine zI ?_); refine zH rfl ?_) | ((with_reducible refine zE ?_); refine zD rfl ?_) | ((with_reducible refine zL ?_); refine za tbOk rfl rfl rfl ?_) | ((with_reducible refine yN ?_); refine yO rfl rfl ?_) | ((with_reducible refine zT ?_); refine zZ tbOk rfl rfl rfl rfl (by assumption) ?_) | ((with_reducible refine zM ?_); refine ze rfl rfl (by omega) ?_)  | refine zJ ?_ | refine zB rfl ?_ | with_reducible refine zC ?_ | with_reducible refine zk ?_ | with_reducible refine zF ?_ | with_reducible refine zY ?_ | with_reducible refine zR ?_ | ((with_reducible refine zA ?_ ?_); kernel_rfl) | refine zp rfl (by first | rfl | assumption) ?_ | ((with_reducible refine zi ?_); first | refine yY (by first | exact askW | exact askD | exact askN | exact askP | exact askK) rfl ?_ | refine zz (by first | exact askW | exact askD | exact askN | exact askP | exact askK) rfl rfl ?_) | ((with_reducible refine yE ?_); first | refine yM (by first | exact askW | exact askD | exact askN | exact askP | exact askK) rfl rfl ?_ | refine yD (by first | exact askW | exact askD | exact askN | exact askP | exact askK) rfl ?_ | refine yS (by first | exact askW | exact askD | exact askN | exact askP | exact askK) rfl ?_) | ((with_reducible refine zT ?_); refine zy tbOk Tryz.underlying104 rfl rfl rfl (by decide) ?_))
      exact ⟨(k + 1, ⟨q, a, b, c, e⟩), ⟨by omega, by rw [List.take_add_one, hx, Option.toList_some, List.foldl_append, hf]; rfl⟩, by dsimp only; omega, ⟨rfl, rfl, rfl, rfl, rfl, rfl, rfl, rfl, trivial⟩, ⟨rfl, rfl, rfl, rfl, rfl, trivial⟩⟩
    | dv =>
      repeat (first | ((with_reducible refine zI ?_); refine zH rfl ?_) | ((with_reducible refine zE ?_); refine zD rfl ?_) | ((with_reducible refine zK ?_); refine zG tbOk rfl rfl rfl rfl ?_) | ((with_reducible refine zL ?_); refine zN tbOk rfl rfl rfl rfl rfl ?_) | ((with_reducible refine zL ?_); refine za tbOk rfl rfl rfl ?_) | ((with_reducible refine yN ?_); refine yO rfl rfl ?_) | ((with_reducible refine zT ?_); refine zZ tbOk rfl rfl rfl rfl (by assumption) ?_) | ((with_reducible refine zM ?_); refine zV rfl rfl rfl ?_)  | refine zJ ?_ | refine zB rfl ?_ | with_reducible refine zC ?_ | with_reducible refine zF ?_ | with_reducible refine zY ?_ | with_reducible refine zR ?_ | ((with_reducible refine zA ?_ ?_); kernel_rfl) | refine zg rfl (by first | rfl | assumption) ?_ | ((with_reducible refine zi ?_); first | refine yY (by first | exact askW | exact askD | exact askN | exact askP | exact askK) rfl ?_ | refine zz (by first | exact askW | exact askD | exact askN | exact askP | exact askK) rfl rfl ?_) | ((with_reducible refine yE ?_); first | refine yM (by first | exact askW | exact askD | exact askN | exact askP | exact askK) rfl rfl ?_ | refine yD (by first | exact askW | exact askD | exact askN | exact askP | exact askK) rfl ?_ | refine yS (by first | exact askW | exact askD | exact askN | exact askP | exact askK) rfl ?_) | ((with_reducible refine zT ?_); refine zy tbOk Tryz.underlying104 rfl rfl rfl (by decide) ?_))
      refine yI rfl rfl (fun p => ?_) (fun p => ?_)
      · have p' : q.d < 0 := by simpa using p
        repeat (first | ((with_reducible refine zI ?_); refine zH rfl ?_) | ((with_reducible refine zK ?_); refine zG tbOk rfl rfl rfl rfl ?_) | ((with_reducible refine zd ?_); refine zf tbOk rfl rfl rfl rfl rfl rfl rfl (Nat.le_of_ble_eq_true rfl) rfl ?_) | ((with_reducible refine zb ?_); refine zt rfl (by first | rfl | assumption) rfl ?_) | ((with_reducible refine zM ?_); refine ze rfl rfl (by omega) ?_)  | refine zJ ?_ | refine zB rfl ?_ | refine yL rfl rfl (by first | rfl | assumption) ?_ | with_reducible refine zC ?_ | with_reducible refine zk ?_ | ((with_reducible refine zA ?_ ?_); kernel_rfl) | ((with_reducible refine zi ?_); first | refine yY (by first | exact askW | exact askD | exact askN | exact askP | exact askK) rfl ?_ | refine zz (by first | exact askW | exact askD | exact askN | exact askP | exact askK) rfl rfl ?_) | ((with_reducible refine yE ?_); first | refine yM (by first | exact askW | exact askD | exact askN | exact askP | exact askK) rfl rfl ?_ | refine yD (by first | exact askW | exact askD | exact askN | exact askP | exact askK) rfl ?_ | refine yS (by first | exact askW | exact askD | exact askN | exact askP | exact askK) rfl ?_) | ((with_reducible refine zT ?_); refine zy tbOk Tryz.underlying104 rfl rfl rfl (by decide) ?_))
        exact ⟨(k + 1, ⟨⟨q.k, 0, q.n, q.p, q.y⟩, true, b, c, e⟩), ⟨by omega, by rw [List.take_add_one, hx, Option.toList_some, List.foldl_append, hf]; simp [HS.go, p']⟩, by dsimp only; omega, ⟨rfl, rfl, rfl, rfl, rfl, rfl, rfl, rfl, trivial⟩, ⟨rfl, rfl, rfl, rfl, rfl, trivial⟩⟩
      · have p' : ¬ q.d < 0 := by simpa using p
        repeat (first | ((with_reducible refine zI ?_); refine zH rfl ?_) | ((with_reducible refine zK ?_); refine zG tbOk rfl rfl rfl rfl ?_) | ((with_reducible refine zL ?_); refine zN tbOk rfl rfl rfl rfl rfl ?_) | ((with_reducible refine zd ?_); refine zf tbOk rfl rfl rfl rfl rfl rfl rfl (Nat.le_of_ble_eq_true rfl) rfl ?_) | ((with_reducible refine zb ?_); refine zq rfl (by first | rfl | assumption) rfl ?_) | ((with_reducible refine zu ?_); refine yR tbOk rfl rfl ?_) | ((with_reducible refine zM ?_); refine ze rfl rfl (by omega) ?_) | ((with_reducible refine zM ?_); refine zV rfl rfl rfl ?_)  | refine zJ ?_ | refine zB rfl ?_ | refine zv rfl rfl (by first | rfl | assumption) ?_ | with_reducible refine zC ?_ | with_reducible refine zk ?_ | ((with_reducible refine zA ?_ ?_); kernel_rfl) | ((with_reducible refine zi ?_); first | refine yY (by first | exact askW | exact askD | exact askN | exact askP | exact askK) rfl ?_ | refine zz (by first | exact askW | exact askD | exact askN | exact askP | exact askK) rfl rfl ?_) | ((with_reducible refine yE ?_); first | refine yM (by first | exact askW | exact askD | exact askN | exact askP | exact askK) rfl rfl ?_ | refine yD (by first | exact askW | exact askD | exact askN | exact askP | exact askK) rfl ?_ | refine yS (by first | exact askW | exact askD | exact askN | exact askP | exact askK) rfl ?_) | ((with_reducible refine zT ?_); refine zy tbOk Tryz.underlying104 rfl rfl rfl (by decide) ?_))
        exact ⟨(k + 1, ⟨⟨q.k, 0, q.n, q.p, q.y⟩, decide (((V.map Dv.av).length : Int) ≤ q.d), b, c, e⟩), ⟨by omega, by rw [List.take_add_one, hx, Option.toList_some, List.foldl_append, hf]; simp [HS.go, p']⟩, by dsimp only; omega, ⟨rfl, rfl, rfl, rfl, rfl, rfl, rfl, rfl, trivial⟩, ⟨rfl, rfl, rfl, rfl, rfl, trivial⟩⟩
    | nd =>
      repeat (first | ((with_reducible refine zI ?_); refine zH rfl ?_) | ((with_reducible refine zE ?_); refine zD rfl ?_) | ((with_reducible refine zK ?_); refine zG tbOk rfl rfl rfl rfl ?_) | ((with_reducible refine zL ?_); refine zN tbOk rfl rfl rfl rfl rfl ?_) | ((with_reducible refine zL ?_); refine zc tbOk rfl rfl rfl rfl (Nat.le_of_ble_eq_true rfl) ?_) | ((with_reducible refine zL ?_); refine za tbOk rfl rfl rfl ?_) | ((with_reducible refine yN ?_); refine yO rfl rfl ?_) | ((with_reducible refine zT ?_); refine zZ tbOk rfl rfl rfl rfl (by assumption) ?_)  | refine zJ ?_ | refine zB rfl ?_ | with_reducible refine zC ?_ | with_reducible refine zF ?_ | with_reducible refine zY ?_ | with_reducible refine zR ?_ | ((with_reducible refine zA ?_ ?_); kernel_rfl) | refine zg rfl (by first | rfl | assumption) ?_ | refine zp rfl (by first | rfl | assumption) ?_ | ((with_reducible refine zi ?_); first | refine yY (by first | exact askW | exact askD | exact askN | exact askP | exact askK) rfl ?_ | refine zz (by first | exact askW | exact askD | exact askN | exact askP | exact askK) rfl rfl ?_) | ((with_reducible refine yE ?_); first | refine yM (by first | exact askW | exact askD | exact askN | exact askP | exact askK) rfl rfl ?_ | refine yD (by first | exact askW | exact askD | exact askN | exact askP | exact askK) rfl ?_ | refine yS (by first | exact askW | exact askD | exact askN | exact askP | exact askK) rfl ?_) | ((with_reducible refine zT ?_); refine zy tbOk Tryz.underlying104 rfl rfl rfl (by decide) ?_))
      refine zo (exist_A N V q.n) (by repeat' (first | exact trivial | exact Ren.v _ | exact Ren.sl _ _ | exact Ren.ep _ | exact Ren.ptr _ _ _ _ rfl | exact Ren.bs _ _ _ _ _ rfl | exact Ren.nil _ | exact Ren.own _ _ _ _ ⟨_, rfl⟩ | refine zO ?_ | refine zQ ?_ | refine zP ?_ | refine ⟨?_, ?_⟩)) (by repeat' (first | exact trivial | exact RenB.v _ | exact RenB.sl _ _ | exact RenB.ep _ | exact RenB.ptr _ _ _ _ rfl | refine zW ?_ | refine zX ?_ | refine ⟨?_, ?_⟩)) ?_
      repeat (first | ((with_reducible refine zI ?_); refine zH rfl ?_) | ((with_reducible refine zK ?_); refine zG tbOk rfl rfl rfl rfl ?_) | ((with_reducible refine zd ?_); refine zf tbOk rfl rfl rfl rfl rfl rfl rfl (Nat.le_of_ble_eq_true rfl) rfl ?_) | ((with_reducible refine k_un ?_); refine yr rfl ?_) | ((with_reducible refine zM ?_); refine ze rfl rfl (by omega) ?_)  | refine zJ ?_ | refine zB rfl ?_ | with_reducible refine zC ?_ | with_reducible refine zk ?_ | ((with_reducible refine zA ?_ ?_); kernel_rfl) | ((with_reducible refine zi ?_); first | refine yY (by first | exact askW | exact askD | exact askN | exact askP | exact askK) rfl ?_ | refine zz (by first | exact askW | exact askD | exact askN | exact askP | exact askK) rfl rfl ?_) | ((with_reducible refine yE ?_); first | refine yM (by first | exact askW | exact askD | exact askN | exact askP | exact askK) rfl rfl ?_ | refine yD (by first | exact askW | exact askD | exact askN | exact askP | exact askK) rfl ?_ | refine yS (by first | exact askW | exact askD | exact askN | exact askP | exact askK) rfl ?_) | ((with_reducible refine zT ?_); refine zy tbOk Tryz.underlying104 rfl rfl rfl (by decide) ?_))
      exact ⟨(k + 1, ⟨⟨q.k, q.d, 0, q.p, q.y⟩, a, !decide (0 ≤ q.n ∧ q.n < (N.length : Int)), c, e⟩), ⟨by omega, by rw [List.take_add_one, hx, Option.toList_some, List.foldl_append, hf]; rfl⟩, by dsimp only; omega, ⟨rfl, rfl, rfl, rfl, rfl, rfl, rfl, rfl, trivial⟩, ⟨rfl, rfl, rfl, rfl, rfl, trivial⟩⟩
    | ps =>
      repeat (first | ((with_reducible refine zI ?_); refine zH rfl ?_) | ((with_reducible refine zE ?_); refine zD rfl ?_) | ((with_reducible refine zK ?_); refine zG tbOk rfl rfl rfl rfl ?_) | ((with_reducible refine zL ?_); refine zN tbOk rfl rfl rfl rfl rfl ?_) | ((with_reducible refine zL ?_); refine za tbOk rfl rfl rfl ?_) | ((with_reducible refine yN ?_); refine yO rfl rfl ?_) | ((with_reducible refine zT ?_); refine zZ tbOk rfl rfl rfl rfl (by assumption) ?_) | ((with_reducible refine zM ?_); refine zV rfl rfl rfl ?_)  | refine zJ ?_ | refine zB rfl ?_ | with_reducible refine zC ?_ | with_reducible refine zF ?_ | with_reducible refine zY ?_ | with_reducible refine zR ?_ | ((with_reducible refine zA ?_ ?_); kernel_rfl) | refine zg rfl (by first | rfl | assumption) ?_ | refine zp rfl (by first | rfl | assumption) ?_ | ((with_reducible refine zi ?_); first | refine yY (by first | exact askW | exact askD | exact askN | exact askP | exact askK) rfl ?_ | refine zz (by first | exact askW | exact askD | exact askN | exact askP | exact askK) rfl rfl ?_) | ((with_reducible refine yE ?_); first | refine yM (by first | exact askW | exact askD | exact askN | exact askP | exact askK) rfl rfl ?_ | refine yD (by first | exact askW | exact askD | exact askN | exact askP | exact askK) rfl ?_ | refine yS (by first | exact askW | exact askD | exact askN | exact askP | exact askK) rfl ?_) | ((with_reducible refine zT ?_); refine zy tbOk Tryz.underlying104 rfl rfl rfl (by decide) ?_))
      refine yI rfl rfl (fun p => ?_) (fun p => ?_)
      · have p' : ¬ q.p = 1 := by simpa using p
        repeat (first | ((with_reducible refine zI ?_); refine zH rfl ?_) | ((with_reducible refine zK ?_); refine zG tbOk rfl rfl rfl rfl ?_) | ((with_reducible refine zL ?_); refine zN tbOk rfl rfl rfl rfl rfl ?_) | ((with_reducible refine zd ?_); refine zf tbOk rfl rfl rfl rfl rfl rfl rfl (Nat.le_of_ble_eq_true rfl) rfl ?_) | ((with_reducible refine zb ?_); refine zt rfl (by first | rfl | assumption) rfl ?_) | ((with_reducible refine zM ?_); refine ze rfl rfl (by omega) ?_) | ((with_reducible refine zM ?_); refine zV rfl rfl rfl ?_)  | refine zJ ?_ | refine zB rfl ?_ | refine yK rfl rfl (by first | rfl | assumption) ?_ | with_reducible refine zC ?_ | with_reducible refine zk ?_ | ((with_reducible refine zA ?_ ?_); kernel_rfl) | ((with_reducible refine zi ?_); first | refine yY (by first | exact askW | exact askD | exact askN | exact askP | exact askK) rfl ?_ | refine zz (by first | exact askW | exact askD | exact askN | exact askP | exact askK) rfl rfl ?_) | ((with_reducible refine yE ?_); first | refine yM (by first | exact askW | exact askD | exact askN | exact askP | exact askK) rfl rfl ?_ | refine yD (by first | exact askW | exact askD | exact askN | exact askP | exact askK) rfl ?_ | refine yS (by first | exact askW | exact askD | exact askN | exact askP | exact askK) rfl ?_) | ((with_reducible refine zT ?_); refine zy tbOk Tryz.underlying104 rfl rfl rfl (by decide) ?_))
        exact ⟨(k + 1, ⟨⟨q.k, q.d, q.n, 0, q.y⟩, a, b, !(q.p == 2), e⟩), ⟨by omega, by rw [List.take_add_one, hx, Option.toList_some, List.foldl_append, hf]; simp [HS.go, p', decide_beq2]⟩, by dsimp only; omega, ⟨rfl, rfl, rfl, rfl, rfl, rfl, rfl, rfl, trivial⟩, ⟨rfl, rfl, rfl, rfl, rfl, trivial⟩⟩
      · have p' : q.p = 1 := by simpa using p
        repeat (first | ((with_reducible refine zI ?_); refine zH rfl ?_) | ((with_reducible refine zK ?_); refine zG tbOk rfl rfl rfl rfl ?_) | ((with_reducible refine zd ?_); refine zf tbOk rfl rfl rfl rfl rfl rfl rfl (Nat.le_of_ble_eq_true rfl) rfl ?_) | ((with_reducible refine zb ?_); refine zq rfl (by first | rfl | assumption) rfl ?_) | ((with_reducible refine zM ?_); refine ze rfl rfl (by omega) ?_)  | refine zJ ?_ | refine zB rfl ?_ | refine yQ rfl rfl (by first | rfl | assumption) ?_ | with_reducible refine zC ?_ | with_reducible refine zk ?_ | ((with_reducible refine zA ?_ ?_); kernel_rfl) | ((with_reducible refine zi ?_); first | refine yY (by first | exact askW | exact askD | exact askN | exact askP | exact askK) rfl ?_ | refine zz (by first | exact askW | exact askD | exact askN | exact askP | exact askK) rfl rfl ?_) | ((with_reducible refine yE ?_); first | refine yM (by first | exact askW | exact askD | exact askN | exact askP | exact askK) rfl rfl ?_ | refine yD (by first | exact askW | exact askD | exact askN | exact askP | exact askK) rfl ?_ | refine yS (by first | exact askW | exact askD | exact askN | exact askP | exact askK) rfl ?_) | ((with_reducible refine zT ?_); refine zy tbOk Tryz.underlying104 rfl rfl rfl (by decide) ?_))
        exact ⟨(k + 1, ⟨⟨q.k, q.d, q.n, 0, q.y⟩, a, b, false, e⟩), ⟨by omega, by rw [List.take_add_one, hx, Option.toList_some, List.foldl_append, hf]; simp [HS.go, p']⟩, by dsimp only; omega, ⟨rfl, rfl, rfl, rfl, rfl, rfl, rfl, rfl, trivial⟩, ⟨rfl, rfl, rfl, rfl, rfl, trivial⟩⟩
    | ky =>
      repeat (first | ((with_reducible refine zI ?_); refine zH rfl ?_) | ((with_reducible refine zE ?_); refine zD rfl ?_) | ((with_reducible refine zK ?_); refine zG tbOk rfl rfl rfl rfl ?_) | ((with_reducible refine zL ?_); refine zN tbOk rfl rfl rfl rfl rfl ?_) | ((with_reducible refine zL ?_); refine za tbOk rfl rfl rfl ?_) | ((with_reducible refine yN ?_); refine yO rfl rfl ?_) | ((with_reducible refine zT ?_); refine zZ tbOk rfl rfl rfl rfl (by assumption) ?_) | ((with_reducible refine zM ?_); refine zV rfl rfl rfl ?_)  | refine zJ ?_ | refine zB rfl ?_ | with_reducible refine zC ?_ | with_reducible refine zF ?_ | with_reducible refine zY ?_ | with_reducible refine zR ?_ | ((with_reducible refine zA ?_ ?_); kernel_rfl) | refine zg rfl (by first | rfl | assumption) ?_ | refine zp rfl (by first | rfl | assumption) ?_ | ((with_reducible refine zi ?_); first | refine yY (by first | exact askW | exact askD | exact askN | exact askP | exact askK) rfl ?_ | refine zz (by first | exact askW | exact askD | exact askN | exact askP | exact askK) rfl rfl ?_) | ((with_reducible refine yE ?_); first | refine yM (by first | exact askW | exact askD | exact askN | exact askP | exact askK) rfl rfl ?_ | refine yD (by first | exact askW | exact askD | exact askN | exact askP | exact askK) rfl ?_ | refine yS (by first | exact askW | exact askD | exact askN | exact askP | exact askK) rfl ?_) | ((with_reducible refine zT ?_); refine zy tbOk Tryz.underlying104 rfl rfl rfl (by decide) ?_))
      refine yI rfl rfl (fun p => ?_) (fun p => ?_)
      · have p' : q.y < 0 := by simpa using p
        repeat (first | ((with_reducible refine zI ?_); refine zH rfl ?_) | ((with_reducible refine zK ?_); refine zG tbOk rfl rfl rfl rfl ?_) | ((with_reducible refine zd ?_); refine zf tbOk rfl rfl rfl rfl rfl rfl rfl (Nat.le_of_ble_eq_true rfl) rfl ?_) | ((with_reducible refine zb ?_); refine zt rfl (by first | rfl | assumption) rfl ?_) | ((with_reducible refine zM ?_); refine ze rfl rfl (by omega) ?_)  | refine zJ ?_ | refine zB rfl ?_ | refine yL rfl rfl (by first | rfl | assumption) ?_ | with_reducible refine zC ?_ | with_reducible refine zk ?_ | ((with_reducible refine zA ?_ ?_); kernel_rfl) | ((with_reducible refine zi ?_); first | refine yY (by first | exact askW | exact askD | exact askN | exact askP | exact askK) rfl ?_ | refine zz (by first | exact askW | exact askD | exact askN | exact askP | exact askK) rfl rfl ?_) | ((with_reducible refine yE ?_); first | refine yM (by first | exact askW | exact askD | exact askN | exact askP | exact askK) rfl rfl ?_ | refine yD (by first | exact askW | exact askD | exact askN | exact askP | exact askK) rfl ?_ | refine yS (by first | exact askW | exact askD | exact askN | exact askP | exact askK) rfl ?_) | ((with_reducible refine zT ?_); refine zy tbOk Tryz.underlying104 rfl rfl rfl (by decide) ?_))
        exact ⟨(k + 1, ⟨⟨q.k, q.d, q.n, q.p, 0⟩, a, b, c, true⟩), ⟨by omega, by rw [List.take_add_one, hx, Option.toList_some, List.foldl_append, hf]; simp [HS.go, p']⟩, by dsimp only; omega, ⟨rfl, rfl, rfl, rfl, rfl, rfl, rfl, rfl, trivial⟩, ⟨rfl, rfl, rfl, rfl, rfl, trivial⟩⟩
      · have p' : ¬ q.y < 0 := by simpa using p
        repeat (first | ((with_reducible refine zI ?_); refine zH rfl ?_) | ((with_reducible refine zK ?_); refine zG tbOk rfl rfl rfl rfl ?_) | ((with_reducible refine zL ?_); refine zN tbOk rfl rfl rfl rfl rfl ?_) | ((with_reducible refine zd ?_); refine zf tbOk rfl rfl rfl rfl rfl rfl rfl (Nat.le_of_ble_eq_true rfl) rfl ?_) | ((with_reducible refine zb ?_); refine zq rfl (by first | rfl | assumption) rfl ?_) | ((with_reducible refine zM ?_); refine ze rfl rfl (by omega) ?_) | ((with_reducible refine zM ?_); refine zV rfl rfl rfl ?_)  | refine zJ ?_ | refine zB rfl ?_ | refine zv rfl rfl (by first | rfl | assumption) ?_ | with_reducible refine zC ?_ | with_reducible refine zk ?_ | ((with_reducible refine zA ?_ ?_); kernel_rfl) | ((with_reducible refine zi ?_); first | refine yY (by first | exact askW | exact askD | exact askN | exact askP | exact askK) rfl ?_ | refine zz (by first | exact askW | exact askD | exact askN | exact askP | exact askK) rfl rfl ?_) | ((with_reducible refine yE ?_); first | refine yM (by first | exact askW | exact askD | exact askN | exact askP | exact askK) rfl rfl ?_ | refine yD (by first | exact askW | exact askD | exact askN | exact askP | exact askK) rfl ?_ | refine yS (by first | exact askW | exact askD | exact askN | exact askP | exact askK) rfl ?_) | ((with_reducible refine zT ?_); refine zy tbOk Tryz.underlying104 rfl rfl rfl (by decide) ?_))
        exact ⟨(k + 1, ⟨⟨q.k, q.d, q.n, q.p, 0⟩, a, b, c, decide (65536 < q.y)⟩), ⟨by omega, by rw [List.take_add_one, hx, Option.toList_some, List.foldl_append, hf]; simp [HS.go, p']⟩, by dsimp only; omega, ⟨rfl, rfl, rfl, rfl, rfl, rfl, rfl, rfl, trivial⟩, ⟨rfl, rfl, rfl, rfl, rfl, trivial⟩⟩
  · have hge : F.length ≤ k := by simpa using h
    rw [List.take_of_length_le hge] at hf
    rw [hf]
    repeat (first | ((with_reducible refine zL ?_); refine zc tbOk rfl rfl rfl rfl (Nat.le_of_ble_eq_true rfl) ?_) | ((with_reducible refine zd ?_); refine zf tbOk rfl rfl rfl rfl rfl rfl rfl (Nat.le_of_ble_eq_true rfl) rfl ?_)  | refine jM (by kernel_rfl) ?_ | refine zB rfl ?_ | with_reducible refine zC ?_ | with_reducible refine zw ?_ | with_reducible refine zF ?_ | with_reducible refine yJ ?_ | with_reducible refine zU ?_ | ((with_reducible refine zr ?_ ?_); rfl) | ((with_reducible refine yx mixd ?_ ?_); kernel_rfl) | ((with_reducible refine zi ?_); first | refine yY (by first | exact askW | exact askD | exact askN | exact askP | exact askK) rfl ?_ | refine zz (by first | exact askW | exact askD | exact askN | exact askP | exact askK) rfl rfl ?_) | ((with_reducible refine yE ?_); first | refine yM (by first | exact askW | exact askD | exact askN | exact askP | exact askK) rfl rfl ?_ | refine yD (by first | exact askW | exact askD | exact askN | exact askP | exact askK) rfl ?_ | refine yS (by first | exact askW | exact askD | exact askN | exact askP | exact askK) rfl ?_) | ((with_reducible refine zT ?_); refine zy tbOk Tryz.underlying104 rfl rfl rfl (by decide) ?_))
    refine ret0_cc (by first | exact .inr rfl | exact .inl rfl) rfl rfl rfl rfl rfl rfl rfl rfl rfl ?_
    repeat' (first | exact trivial | exact Ren.v _ | exact Ren.sl _ _ | exact Ren.ep _ | exact Ren.ptr _ _ _ _ rfl | exact Ren.bs _ _ _ _ _ rfl | exact Ren.nil _ | exact Ren.own _ _ _ _ ⟨_, rfl⟩ | refine zO ?_ | refine zQ ?_ | refine zP ?_ | refine ⟨?_, ?_⟩)
theorem held_St : Tryz.prog.stoodInHeld 39 = false := by kernel_rfl
theorem stEq (a b : St) (w : World) (d : Nat) : (Op.equalIn (d + 2) 39 (.agg ⟨a.vals⟩) (.agg ⟨b.vals⟩)).run Tryz.prog w = .ok (decide (a = b)) w := by
  obtain ⟨k, i, n, t, c⟩ := a
  obtain ⟨k', i', n', t', c'⟩ := b
  rw [run_equalIn_struct w (d + 1) 39 _ _ (by kernel_rfl) held_St]
  simp only [St.mk.injEq]
  by_cases h1 : k = k' <;> by_cases h2 : i = i' <;> by_cases h3 : n = n' <;> by_cases h4 : t = t' <;> by_cases h5 : c = c' <;> simp [St.vals, Program.fieldsOf, Tryz.underlying39, Op.eqFields, go_sem, Tryz.underlying3, h1, h2, h3, h4, h5]
theorem stNeq (x y : Operand) (a b : St) (w : World) : (do eqGuard .neq 39 x y (.agg ⟨a.vals⟩) (.agg ⟨b.vals⟩); binOp .neq 39 (.agg ⟨a.vals⟩) (.agg ⟨b.vals⟩) : Sem Value).run Tryz.prog w = .ok (.bool (!decide (a = b))) w := by
  have hg : (eqGuard .neq 39 x y (.agg ⟨a.vals⟩) (.agg ⟨b.vals⟩)).run Tryz.prog w = .ok () w := by
    unfold eqGuard
    simp [show Tryz.prog.eqGuardType Tryz.prog.depth 39 = false by kernel_rfl]
  rw [Sem.run_bind, hg]
  simp only [Result.andThen_ok, binOp]
  simp [Op.equal, Op.maxDepth, stEq a b w 9998]
theorem stEql (x y : Operand) (a b : St) (w : World) : (do eqGuard .eql 39 x y (.agg ⟨a.vals⟩) (.agg ⟨b.vals⟩); binOp .eql 39 (.agg ⟨a.vals⟩) (.agg ⟨b.vals⟩) : Sem Value).run Tryz.prog w = .ok (.bool (decide (a = b))) w := by
  have hg : (eqGuard .eql 39 x y (.agg ⟨a.vals⟩) (.agg ⟨b.vals⟩)).run Tryz.prog w = .ok () w := by
    unfold eqGuard
    simp [show Tryz.prog.eqGuardType Tryz.prog.depth 39 = false by kernel_rfl]
  rw [Sem.run_bind, hg]
  simp only [Result.andThen_ok, binOp]
  simp [Op.equal, Op.maxDepth, stEq a b w 9998]
/-- The first error, by what has been found. -/
def HS.err (k : Int) (h : HS) : Int := if h.a then 8 else if h.b then 7 else if h.c then 10 else if h.e then 5 else if h.s = ⟨k, 0, 0, 0, 0⟩ then 0 else 14
theorem fl1 : jW 1 = [wS #[111, 112, 101, 110], .dv] := rfl
theorem fl2 : jW 2 = [wS #[99, 108, 111, 115, 101], .dv] := rfl
theorem fl3 : jW 3 = [wS #[108, 111, 99, 107], .dv, .ps, wS #[107, 101, 121], .ky] := rfl
theorem fl4 : jW 4 = [wS #[117, 110, 108, 111, 99, 107], .dv, wS #[107, 101, 121], .ky] := rfl
theorem fl5 : jW 5 = [wS #[112, 114, 111, 118, 101], .nd] := rfl
theorem fl6 : jW 6 = [wS #[99, 104, 101, 99, 107], .dv, .ps] := rfl
theorem step_eq {nN nV : Int} {s : St} (hk : 1 ≤ s.k ∧ s.k ≤ 6) : ((jW s.k).foldl (HS.go nN nV) (hs0 s)).err s.k = qt nN nV s := by
  obtain ⟨k, d, n, p, y⟩ := s
  simp only at hk
  rcases (by omega : k = 1 ∨ k = 2 ∨ k = 3 ∨ k = 4 ∨ k = 5 ∨ k = 6) with e | e | e | e | e | e <;> subst e
  all_goals
    simp [fl1, fl2, fl3, fl4, fl5, fl6, HS.go, hs0, HS.err, qt, wS]
  all_goals grind
end Go.Proofs.YtggngllfnboehaaGreatDoor
namespace Go.Proofs.YtggngllfnboehaaGreatDoor
open Go Go.RowKit
set_option maxRecDepth 10000
variable {G : Nat → Option (List Value)}
theorem form_cons {k : Int} (hk : 1 ≤ k ∧ k ≤ 6) : ∃ z L, (jW k).map It.av = z :: L := by
  rcases (by omega : k = 1 ∨ k = 2 ∨ k = 3 ∨ k = 4 ∨ k = 5 ∨ k = 6) with e | e | e | e | e | e <;> subst e <;> exact ⟨_, _, rfl⟩
theorem form_len (k : Int) : (jW k).length ≤ 5 := by
  unfold jW
  repeat' split
  all_goals decide
set_option maxHeartbeats 4000000 in
theorem step_A (N : List Nd) (V : List Dv) (s : St) : yF Tryz.prog G 35 [nwAV N V, s.av] [] (.v (.int .i64 (qt N.length V.length s))) [] := by
  by_cases hk : 1 ≤ s.k ∧ s.k ≤ 6
  · obtain ⟨z, L, hz⟩ := form_cons hk
    have hfl := form_len s.k
    rw [← step_eq hk]
    refine zj tbOk (zn Tryz.func35 (by kernel_rfl) rfl) Tryz.func35 rfl _ Tryz.ntmps35 (Nat.le_of_ble_eq_true rfl) fun X hX => ?_
    subst hX
    repeat (first | ((with_reducible refine zE ?_); refine zD rfl ?_) | ((with_reducible refine zK ?_); refine zG tbOk rfl rfl rfl rfl ?_) | ((with_reducible refine zL ?_); refine zN tbOk rfl rfl rfl rfl rfl ?_) | ((with_reducible refine yj ?_); refine yi rfl rfl rfl ?_)  | refine zJ ?_ | refine zB rfl ?_ | with_reducible refine zC ?_ | with_reducible refine zF ?_ | ((with_reducible refine zA ?_ ?_); kernel_rfl))
    refine zo (form_A s.k hk) (by repeat' (first | exact trivial | exact Ren.v _ | exact Ren.sl _ _ | exact Ren.ep _ | exact Ren.ptr _ _ _ _ rfl | exact Ren.bs _ _ _ _ _ rfl | exact Ren.nil _ | exact Ren.own _ _ _ _ ⟨_, rfl⟩ | refine zO ?_ | refine zQ ?_ | refine zP ?_ | refine ⟨?_, ?_⟩)) (by repeat' (first | exact trivial | exact RenB.v _ | exact RenB.sl _ _ | exact RenB.ep _ | exact RenB.ptr _ _ _ _ rfl | refine zW ?_ | refine zX ?_ | refine ⟨?_, ?_⟩)) ?_
    repeat (first | ((with_reducible refine zI ?_); refine zH rfl ?_) | ((with_reducible refine zE ?_); refine zD rfl ?_)  | refine zJ ?_ | refine zB rfl ?_ | with_reducible refine zC ?_ | with_reducible refine zF ?_ | ((with_reducible refine zA ?_ ?_); kernel_rfl))
    (with_reducible refine zM ?_)
    refine x_eql_sl_nil Tryz.underlying91 (congrArg (AV.sl 1) hz) rfl ?_
    repeat (first | ((with_reducible refine zI ?_); refine zH rfl ?_) | ((with_reducible refine zL ?_); refine zc tbOk rfl rfl rfl rfl (Nat.le_of_ble_eq_true rfl) ?_)  | refine zJ ?_ | refine zB rfl ?_ | with_reducible refine zC ?_ | with_reducible refine zF ?_ | with_reducible refine zR ?_ | ((with_reducible refine zA ?_ ?_); kernel_rfl) | refine zp rfl (by first | rfl | assumption) ?_)
    refine zo (has_A N V s (jW s.k) (by omega)) (by repeat' (first | exact trivial | exact Ren.v _ | exact Ren.sl _ _ | exact Ren.ep _ | exact Ren.ptr _ _ _ _ rfl | exact Ren.bs _ _ _ _ _ rfl | exact Ren.nil _ | exact Ren.own _ _ _ _ ⟨_, rfl⟩ | refine zO ?_ | refine zQ ?_ | refine zP ?_ | refine ⟨?_, ?_⟩)) (by repeat' (first | exact trivial | exact RenB.v _ | exact RenB.sl _ _ | exact RenB.ep _ | exact RenB.ptr _ _ _ _ rfl | refine zW ?_ | refine zX ?_ | refine ⟨?_, ?_⟩)) ?_
    obtain ⟨h, hh⟩ : ∃ h, h = (jW s.k).foldl (HS.go N.length V.length) (hs0 s) := ⟨_, rfl⟩
    rw [← hh]
    repeat (first | ((with_reducible refine zI ?_); refine zH rfl ?_) | ((with_reducible refine zd ?_); refine zf tbOk rfl rfl rfl rfl rfl rfl rfl (Nat.le_of_ble_eq_true rfl) rfl ?_) | ((with_reducible refine yA ?_); refine yB tbOk rfl rfl ?_) | ((with_reducible refine yN ?_); refine yO rfl rfl ?_)  | refine zJ ?_ | refine zB rfl ?_ | with_reducible refine zC ?_ | with_reducible refine zF ?_ | ((with_reducible refine zA ?_ ?_); kernel_rfl))
    (with_reducible refine ye ?_)
    refine m_build_arr tbOk Tryz.underlying107 rfl rfl rfl rfl ?_
    repeat (first | ((with_reducible refine zI ?_); refine zH rfl ?_)  | refine zJ ?_ | refine zB rfl ?_ | with_reducible refine zC ?_ | with_reducible refine zY ?_ )
    refine yU (ι := Nat) (fun k => k ≤ 4 ∧ (0 < k → h.a = false) ∧ (1 < k → h.b = false) ∧ (2 < k → h.c = false) ∧ (3 < k → h.e = false)) (fun k => 4 - k) (fun v k => [(3, .ptr 3 (v 3) 0), (6, .ptr 6 (v 6) 0), (7, .ptr 7 (v 7) 0), (22, .ag [.v (.int .i64 8), .v (.int .i64 7), .v (.int .i64 10), .v (.int .i64 5)]), (23, .v (.int .i64 (k : Nat)))]) (fun v k => [(3, .box [.v (.int .i64 s.k), .v (.int .i64 s.d), .v (.int .i64 s.n), .v (.int .i64 s.p), .v (.int .i64 s.y)]), (6, .box [.v (.int .i64 h.s.k), .v (.int .i64 h.s.d), .v (.int .i64 h.s.n), .v (.int .i64 h.s.p), .v (.int .i64 h.s.y)]), (7, .box [.v (.bool h.a), .v (.bool h.b), .v (.bool h.c), .v (.bool h.e)])]) ?_ ?_
    · exact ⟨0, ⟨by omega, by omega, by omega, by omega, by omega⟩, trivial, ⟨rfl, rfl, rfl, rfl, rfl, trivial⟩, ⟨rfl, rfl, rfl, trivial⟩⟩
    rintro v k ⟨hk4, ha, hb, hc, he⟩
    rcases (by omega : k = 0 ∨ k = 1 ∨ k = 2 ∨ k = 3 ∨ k = 4) with e | e | e | e | e <;> subst e
    · repeat (first | ((with_reducible refine zI ?_); refine zH rfl ?_) | ((with_reducible refine zE ?_); refine zD rfl ?_) | ((with_reducible refine zL ?_); refine zN tbOk rfl rfl rfl rfl rfl ?_) | ((with_reducible refine zM ?_); refine zV rfl rfl rfl ?_)  | refine zJ ?_ | refine zB rfl ?_ | with_reducible refine zC ?_ | with_reducible refine zF ?_ | with_reducible refine zY ?_ | with_reducible refine zR ?_ | ((with_reducible refine zA ?_ ?_); kernel_rfl) | refine zg rfl (by first | rfl | assumption) ?_ | ((with_reducible refine zT ?_); refine zy tbOk Tryz.underlying104 rfl rfl rfl (by decide) ?_) | ((with_reducible refine yW ?_); refine yu tbOk Tryz.underlying107 rfl rfl rfl (by decide) rfl rfl ?_))
      refine zm rfl (fun q => ?_) (fun q => ?_)
      · repeat (first | ((with_reducible refine zI ?_); refine zH rfl ?_) | ((with_reducible refine zE ?_); refine zD rfl ?_)  | refine zJ ?_ | refine zB rfl ?_ | with_reducible refine zC ?_ | with_reducible refine zS ?_ | with_reducible refine zh ?_ | with_reducible refine zF ?_ | with_reducible refine zU ?_ | ((with_reducible refine zA ?_ ?_); kernel_rfl) | ((with_reducible refine zT ?_); refine zy tbOk Tryz.underlying104 rfl rfl rfl (by decide) ?_) | ((with_reducible refine yW ?_); refine yu tbOk Tryz.underlying107 rfl rfl rfl (by decide) rfl rfl ?_))
        refine yC (by first | exact .inr rfl | exact .inl rfl) rfl rfl ?_
        unfold HS.err
        rw [if_pos q]
      · repeat (first | ((with_reducible refine zI ?_); refine zH rfl ?_) | ((with_reducible refine zM ?_); refine ze rfl rfl (by omega) ?_)  | refine zJ ?_ | refine zB rfl ?_ | with_reducible refine zC ?_ | with_reducible refine zk ?_ | with_reducible refine zR ?_ | ((with_reducible refine zA ?_ ?_); kernel_rfl) | ((with_reducible refine zT ?_); refine zy tbOk Tryz.underlying104 rfl rfl rfl (by decide) ?_) | ((with_reducible refine yW ?_); refine yu tbOk Tryz.underlying107 rfl rfl rfl (by decide) rfl rfl ?_))
        exact ⟨1, ⟨by omega, fun _ => q, by omega, by omega, by omega⟩, by omega, ⟨rfl, rfl, rfl, rfl, rfl, trivial⟩, ⟨rfl, rfl, rfl, trivial⟩⟩
    · have ha' := ha (by omega)
      repeat (first | ((with_reducible refine zI ?_); refine zH rfl ?_) | ((with_reducible refine zE ?_); refine zD rfl ?_) | ((with_reducible refine zL ?_); refine zN tbOk rfl rfl rfl rfl rfl ?_) | ((with_reducible refine zM ?_); refine zV rfl rfl rfl ?_)  | refine zJ ?_ | refine zB rfl ?_ | with_reducible refine zC ?_ | with_reducible refine zF ?_ | with_reducible refine zY ?_ | with_reducible refine zR ?_ | ((with_reducible refine zA ?_ ?_); kernel_rfl) | refine zg rfl (by first | rfl | assumption) ?_ | ((with_reducible refine zT ?_); refine zy tbOk Tryz.underlying104 rfl rfl rfl (by decide) ?_) | ((with_reducible refine yW ?_); refine yu tbOk Tryz.underlying107 rfl rfl rfl (by decide) rfl rfl ?_))
      refine zm rfl (fun q => ?_) (fun q => ?_)
      · repeat (first | ((with_reducible refine zI ?_); refine zH rfl ?_) | ((with_reducible refine zE ?_); refine zD rfl ?_)  | refine zJ ?_ | refine zB rfl ?_ | with_reducible refine zC ?_ | with_reducible refine zS ?_ | with_reducible refine zh ?_ | with_reducible refine zF ?_ | with_reducible refine zU ?_ | ((with_reducible refine zA ?_ ?_); kernel_rfl) | ((with_reducible refine zT ?_); refine zy tbOk Tryz.underlying104 rfl rfl rfl (by decide) ?_) | ((with_reducible refine yW ?_); refine yu tbOk Tryz.underlying107 rfl rfl rfl (by decide) rfl rfl ?_))
        refine yC (by first | exact .inr rfl | exact .inl rfl) rfl rfl ?_
        unfold HS.err
        rw [if_neg (by simp [ha']), if_pos q]
      · repeat (first | ((with_reducible refine zI ?_); refine zH rfl ?_) | ((with_reducible refine zM ?_); refine ze rfl rfl (by omega) ?_)  | refine zJ ?_ | refine zB rfl ?_ | with_reducible refine zC ?_ | with_reducible refine zk ?_ | with_reducible refine zR ?_ | ((with_reducible refine zA ?_ ?_); kernel_rfl) | ((with_reducible refine zT ?_); refine zy tbOk Tryz.underlying104 rfl rfl rfl (by decide) ?_) | ((with_reducible refine yW ?_); refine yu tbOk Tryz.underlying107 rfl rfl rfl (by decide) rfl rfl ?_))
        exact ⟨2, ⟨by omega, fun _ => ha', fun _ => q, by omega, by omega⟩, by omega, ⟨rfl, rfl, rfl, rfl, rfl, trivial⟩, ⟨rfl, rfl, rfl, trivial⟩⟩
    · have ha' := ha (by omega)
      have hb' := hb (by omega)
      repeat (first | ((with_reducible refine zI ?_); refine zH rfl ?_) | ((with_reducible refine zE ?_); refine zD rfl ?_) | ((with_reducible refine zL ?_); refine zN tbOk rfl rfl rfl rfl rfl ?_) | ((with_reducible refine zM ?_); refine zV rfl rfl rfl ?_)  | refine zJ ?_ | refine zB rfl ?_ | with_reducible refine zC ?_ | with_reducible refine zF ?_ | with_reducible refine zY ?_ | with_reducible refine zR ?_ | ((with_reducible refine zA ?_ ?_); kernel_rfl) | refine zg rfl (by first | rfl | assumption) ?_ | ((with_reducible refine zT ?_); refine zy tbOk Tryz.underlying104 rfl rfl rfl (by decide) ?_) | ((with_reducible refine yW ?_); refine yu tbOk Tryz.underlying107 rfl rfl rfl (by decide) rfl rfl ?_))
      refine zm rfl (fun q => ?_) (fun q => ?_)
      · repeat (first | ((with_reducible refine zI ?_); refine zH rfl ?_) | ((with_reducible refine zE ?_); refine zD rfl ?_)  | refine zJ ?_ | refine zB rfl ?_ | with_reducible refine zC ?_ | with_reducible refine zS ?_ | with_reducible refine zh ?_ | with_reducible refine zF ?_ | with_reducible refine zU ?_ | ((with_reducible refine zA ?_ ?_); kernel_rfl) | ((with_reducible refine zT ?_); refine zy tbOk Tryz.underlying104 rfl rfl rfl (by decide) ?_) | ((with_reducible refine yW ?_); refine yu tbOk Tryz.underlying107 rfl rfl rfl (by decide) rfl rfl ?_))
        refine yC (by first | exact .inr rfl | exact .inl rfl) rfl rfl ?_
        unfold HS.err
        rw [if_neg (by simp [ha']), if_neg (by simp [hb']), if_pos q]
      · repeat (first | ((with_reducible refine zI ?_); refine zH rfl ?_) | ((with_reducible refine zM ?_); refine ze rfl rfl (by omega) ?_)  | refine zJ ?_ | refine zB rfl ?_ | with_reducible refine zC ?_ | with_reducible refine zk ?_ | with_reducible refine zR ?_ | ((with_reducible refine zA ?_ ?_); kernel_rfl) | ((with_reducible refine zT ?_); refine zy tbOk Tryz.underlying104 rfl rfl rfl (by decide) ?_) | ((with_reducible refine yW ?_); refine yu tbOk Tryz.underlying107 rfl rfl rfl (by decide) rfl rfl ?_))
        exact ⟨3, ⟨by omega, fun _ => ha', fun _ => hb', fun _ => q, by omega⟩, by omega, ⟨rfl, rfl, rfl, rfl, rfl, trivial⟩, ⟨rfl, rfl, rfl, trivial⟩⟩
    · have ha' := ha (by omega)
      have hb' := hb (by omega)
      have hc' := hc (by omega)
      repeat (first | ((with_reducible refine zI ?_); refine zH rfl ?_) | ((with_reducible refine zE ?_); refine zD rfl ?_) | ((with_reducible refine zL ?_); refine zN tbOk rfl rfl rfl rfl rfl ?_) | ((with_reducible refine zM ?_); refine zV rfl rfl rfl ?_)  | refine zJ ?_ | refine zB rfl ?_ | with_reducible refine zC ?_ | with_reducible refine zF ?_ | with_reducible refine zY ?_ | with_reducible refine zR ?_ | ((with_reducible refine zA ?_ ?_); kernel_rfl) | refine zg rfl (by first | rfl | assumption) ?_ | ((with_reducible refine zT ?_); refine zy tbOk Tryz.underlying104 rfl rfl rfl (by decide) ?_) | ((with_reducible refine yW ?_); refine yu tbOk Tryz.underlying107 rfl rfl rfl (by decide) rfl rfl ?_))
      refine zm rfl (fun q => ?_) (fun q => ?_)
      · repeat (first | ((with_reducible refine zI ?_); refine zH rfl ?_) | ((with_reducible refine zE ?_); refine zD rfl ?_)  | refine zJ ?_ | refine zB rfl ?_ | with_reducible refine zC ?_ | with_reducible refine zS ?_ | with_reducible refine zh ?_ | with_reducible refine zF ?_ | with_reducible refine zU ?_ | ((with_reducible refine zA ?_ ?_); kernel_rfl) | ((with_reducible refine zT ?_); refine zy tbOk Tryz.underlying104 rfl rfl rfl (by decide) ?_) | ((with_reducible refine yW ?_); refine yu tbOk Tryz.underlying107 rfl rfl rfl (by decide) rfl rfl ?_))
        refine yC (by first | exact .inr rfl | exact .inl rfl) rfl rfl ?_
        unfold HS.err
        rw [if_neg (by simp [ha']), if_neg (by simp [hb']), if_neg (by simp [hc']), if_pos q]
      · repeat (first | ((with_reducible refine zI ?_); refine zH rfl ?_) | ((with_reducible refine zM ?_); refine ze rfl rfl (by omega) ?_)  | refine zJ ?_ | refine zB rfl ?_ | with_reducible refine zC ?_ | with_reducible refine zk ?_ | with_reducible refine zR ?_ | ((with_reducible refine zA ?_ ?_); kernel_rfl) | ((with_reducible refine zT ?_); refine zy tbOk Tryz.underlying104 rfl rfl rfl (by decide) ?_) | ((with_reducible refine yW ?_); refine yu tbOk Tryz.underlying107 rfl rfl rfl (by decide) rfl rfl ?_))
        exact ⟨4, ⟨by omega, fun _ => ha', fun _ => hb', fun _ => hc', fun _ => q⟩, by omega, ⟨rfl, rfl, rfl, rfl, rfl, trivial⟩, ⟨rfl, rfl, rfl, trivial⟩⟩
    · have ha' := ha (by omega)
      have hb' := hb (by omega)
      have hc' := hc (by omega)
      have he' := he (by omega)
      repeat (first | ((with_reducible refine zK ?_); refine zG tbOk rfl rfl rfl rfl ?_) | ((with_reducible refine zL ?_); refine zN tbOk rfl rfl rfl rfl rfl ?_) | ((with_reducible refine zL ?_); refine zc tbOk rfl rfl rfl rfl (Nat.le_of_ble_eq_true rfl) ?_) | ((with_reducible refine ye ?_); refine yg tbOk rfl rfl rfl rfl rfl ?_) | ((with_reducible refine zM ?_); refine zV rfl rfl rfl ?_)  | refine zJ ?_ | refine zB rfl ?_ | with_reducible refine zC ?_ | with_reducible refine zw ?_ | with_reducible refine zF ?_ | with_reducible refine yJ ?_ | ((with_reducible refine zr ?_ ?_); rfl) | ((with_reducible refine zA ?_ ?_); kernel_rfl) | refine zp rfl (by first | rfl | assumption) ?_ | ((with_reducible refine zT ?_); refine zy tbOk Tryz.underlying104 rfl rfl rfl (by decide) ?_) | ((with_reducible refine yW ?_); refine yu tbOk Tryz.underlying107 rfl rfl rfl (by decide) rfl rfl ?_))
      (with_reducible refine zM ?_)
      refine x_bin_ag rfl rfl (rfl : qY _ = some h.s.vals) (rfl : qY _ = some (St.vals ⟨s.k, 0, 0, 0, 0⟩)) (fun w => stNeq _ _ _ _ w) ?_
      repeat (first   | refine zJ ?_ | with_reducible refine zC ?_  | ((with_reducible refine zT ?_); refine zy tbOk Tryz.underlying104 rfl rfl rfl (by decide) ?_) | ((with_reducible refine yW ?_); refine yu tbOk Tryz.underlying107 rfl rfl rfl (by decide) rfl rfl ?_))
      refine zm rfl (fun q => ?_) (fun q => ?_)
      · repeat (first | ((with_reducible refine zE ?_); refine zD rfl ?_)  | refine zJ ?_ | refine zB rfl ?_ | with_reducible refine zC ?_ | with_reducible refine zS ?_ | with_reducible refine zF ?_ | with_reducible refine zU ?_ | ((with_reducible refine zA ?_ ?_); kernel_rfl) | ((with_reducible refine zT ?_); refine zy tbOk Tryz.underlying104 rfl rfl rfl (by decide) ?_) | ((with_reducible refine yW ?_); refine yu tbOk Tryz.underlying107 rfl rfl rfl (by decide) rfl rfl ?_))
        refine yC (by first | exact .inr rfl | exact .inl rfl) rfl rfl ?_
        unfold HS.err
        rw [if_neg (by simp [ha']), if_neg (by simp [hb']), if_neg (by simp [hc']), if_neg (by simp [he']), if_neg (by simpa using q)]
      · repeat (first | ((with_reducible refine zE ?_); refine zD rfl ?_)  | refine zJ ?_ | refine zB rfl ?_ | with_reducible refine zC ?_ | with_reducible refine zF ?_ | with_reducible refine zR ?_ | with_reducible refine zU ?_ | ((with_reducible refine zA ?_ ?_); kernel_rfl) | ((with_reducible refine zT ?_); refine zy tbOk Tryz.underlying104 rfl rfl rfl (by decide) ?_) | ((with_reducible refine yW ?_); refine yu tbOk Tryz.underlying107 rfl rfl rfl (by decide) rfl rfl ?_))
        refine yC (by first | exact .inr rfl | exact .inl rfl) rfl rfl ?_
        unfold HS.err
        rw [if_neg (by simp [ha']), if_neg (by simp [hb']), if_neg (by simp [hc']), if_neg (by simp [he']), if_pos (by simpa using q)]
  · have hk' : s.k < 1 ∨ 6 < s.k := by omega
    have e : qt N.length V.length s = 6 := by unfold qt; rw [if_pos hk']
    rw [e]
    refine zj tbOk (zn Tryz.func35 (by kernel_rfl) rfl) Tryz.func35 rfl _ Tryz.ntmps35 (Nat.le_of_ble_eq_true rfl) fun X hX => ?_
    subst hX
    repeat (first | ((with_reducible refine zE ?_); refine zD rfl ?_) | ((with_reducible refine zK ?_); refine zG tbOk rfl rfl rfl rfl ?_) | ((with_reducible refine zL ?_); refine zN tbOk rfl rfl rfl rfl rfl ?_) | ((with_reducible refine yj ?_); refine yi rfl rfl rfl ?_)  | refine zJ ?_ | refine zB rfl ?_ | with_reducible refine zC ?_ | with_reducible refine zF ?_ | ((with_reducible refine zA ?_ ?_); kernel_rfl))
    refine zo (form_nil s.k hk') (by repeat' (first | exact trivial | exact Ren.v _ | exact Ren.sl _ _ | exact Ren.ep _ | exact Ren.ptr _ _ _ _ rfl | exact Ren.bs _ _ _ _ _ rfl | exact Ren.nil _ | exact Ren.own _ _ _ _ ⟨_, rfl⟩ | refine zO ?_ | refine zQ ?_ | refine zP ?_ | refine ⟨?_, ?_⟩)) (by repeat' (first | exact trivial | exact RenB.v _ | exact RenB.sl _ _ | exact RenB.ep _ | exact RenB.ptr _ _ _ _ rfl | refine zW ?_ | refine zX ?_ | refine ⟨?_, ?_⟩)) ?_
    repeat (first | ((with_reducible refine zI ?_); refine zH rfl ?_) | ((with_reducible refine zE ?_); refine zD rfl ?_)  | refine zJ ?_ | refine zB rfl ?_ | with_reducible refine zC ?_ | with_reducible refine zF ?_ | ((with_reducible refine zA ?_ ?_); kernel_rfl))
    (with_reducible refine zM ?_)
    refine x_eql_nil Tryz.underlying91 rfl rfl ?_
    repeat (first | ((with_reducible refine zE ?_); refine zD rfl ?_)  | refine zJ ?_ | refine zB rfl ?_ | with_reducible refine zC ?_ | with_reducible refine zS ?_ | with_reducible refine zF ?_ | with_reducible refine zU ?_ | ((with_reducible refine zA ?_ ?_); kernel_rfl) | refine zg rfl (by first | rfl | assumption) ?_)
    refine yC (by first | exact .inr rfl | exact .inl rfl) rfl rfl ?_
    rfl
set_option maxHeartbeats 8000000 in
theorem fault_A (N : List Nd) (V : List Dv) (s : St) : yF Tryz.prog G 37 [nwAV N V, s.av] [] (.v (.int .i64 (qt N.length V.length s))) [] := by
  by_cases hk : 1 ≤ s.k ∧ s.k ≤ 6
  · obtain ⟨k, d, n, p, y⟩ := s
    simp only at hk
    rcases (by omega : k = 1 ∨ k = 2 ∨ k = 3 ∨ k = 4 ∨ k = 5 ∨ k = 6) with e | e | e | e | e | e <;> subst e
    all_goals
      refine zj tbOk (zn Tryz.func37 (by kernel_rfl) rfl) Tryz.func37 rfl _ Tryz.ntmps37 (Nat.le_of_ble_eq_true rfl) fun X hX => ?_
      subst hX
      repeat' (first | ((with_reducible refine zI ?_); refine zH rfl ?_) | ((with_reducible refine zE ?_); refine zD rfl ?_) | ((with_reducible refine zK ?_); refine zG tbOk rfl rfl rfl rfl ?_) | ((with_reducible refine zL ?_); refine zN tbOk rfl rfl rfl rfl rfl ?_) | ((with_reducible refine yj ?_); refine yi rfl rfl rfl ?_) | ((with_reducible refine k_un ?_); refine yr rfl ?_) | ((with_reducible refine zb ?_); refine zt rfl (by first | rfl | assumption) rfl ?_) | ((with_reducible refine zb ?_); refine zq rfl (by first | rfl | assumption) rfl ?_) | ((with_reducible refine zu ?_); refine yR tbOk rfl rfl ?_) | ((with_reducible refine zM ?_); refine zV rfl rfl rfl ?_)  | refine zJ ?_ | refine zB rfl ?_ | refine yK rfl rfl (by first | rfl | assumption) ?_ | refine yQ rfl rfl (by first | rfl | assumption) ?_ | refine zv rfl rfl (by first | rfl | assumption) ?_ | refine yL rfl rfl (by first | rfl | assumption) ?_ | refine jG rfl rfl rfl ?_ | with_reducible refine zC ?_ | with_reducible refine zS ?_ | with_reducible refine zF ?_ | with_reducible refine zR ?_ | with_reducible refine zU ?_ | ((with_reducible refine zA ?_ ?_); kernel_rfl) | refine zg rfl (by first | rfl | assumption) ?_ | refine zp rfl (by first | rfl | assumption) ?_ | refine yI rfl rfl (fun _ => ?_) (fun _ => ?_) | refine zm rfl (fun _ => ?_) (fun _ => ?_))
    all_goals
      refine yC (by first | exact .inr rfl | exact .inl rfl) rfl rfl ?_
      simp only [qt]
      simp_all
      try grind
  · have hk' : s.k < 1 ∨ 6 < s.k := by omega
    have e : qt N.length V.length s = 6 := by unfold qt; rw [if_pos hk']
    rw [e]
    refine zj tbOk (zn Tryz.func37 (by kernel_rfl) rfl) Tryz.func37 rfl _ Tryz.ntmps37 (Nat.le_of_ble_eq_true rfl) fun X hX => ?_
    subst hX
    repeat (first | ((with_reducible refine zI ?_); refine zH rfl ?_) | ((with_reducible refine zE ?_); refine zD rfl ?_) | ((with_reducible refine zK ?_); refine zG tbOk rfl rfl rfl rfl ?_) | ((with_reducible refine zL ?_); refine zN tbOk rfl rfl rfl rfl rfl ?_) | ((with_reducible refine yj ?_); refine yi rfl rfl rfl ?_) | ((with_reducible refine zM ?_); refine zV rfl rfl rfl ?_)  | refine zJ ?_ | refine zB rfl ?_ | with_reducible refine zC ?_ | with_reducible refine zF ?_ | ((with_reducible refine zA ?_ ?_); kernel_rfl))
    refine yI rfl rfl (fun b => ?_) (fun b => ?_)
    · repeat (first | ((with_reducible refine zE ?_); refine zD rfl ?_) | ((with_reducible refine zb ?_); refine zt rfl (by first | rfl | assumption) rfl ?_)  | refine zJ ?_ | refine zB rfl ?_ | refine yL rfl rfl (by first | rfl | assumption) ?_ | with_reducible refine zC ?_ | with_reducible refine zS ?_ | with_reducible refine zF ?_ | with_reducible refine zU ?_ | ((with_reducible refine zA ?_ ?_); kernel_rfl) | refine zg rfl (by first | rfl | assumption) ?_)
      refine yC (by first | exact .inr rfl | exact .inl rfl) rfl rfl ?_
      rfl
    · have b' : ¬ s.k < 1 := by simpa using b
      have q : decide (6 < s.k) = true := decide_eq_true (by omega)
      repeat (first | ((with_reducible refine zE ?_); refine zD rfl ?_) | ((with_reducible refine zK ?_); refine zG tbOk rfl rfl rfl rfl ?_) | ((with_reducible refine zL ?_); refine zN tbOk rfl rfl rfl rfl rfl ?_) | ((with_reducible refine zb ?_); refine zq rfl (by first | rfl | assumption) rfl ?_) | ((with_reducible refine zM ?_); refine zV rfl rfl rfl ?_)  | refine zJ ?_ | refine zB rfl ?_ | refine zv rfl rfl (by first | rfl | assumption) ?_ | with_reducible refine zC ?_ | with_reducible refine zS ?_ | with_reducible refine zF ?_ | with_reducible refine zU ?_ | ((with_reducible refine zA ?_ ?_); kernel_rfl) | refine zg rfl (by first | rfl | assumption) ?_)
      refine yC (by first | exact .inr rfl | exact .inl rfl) rfl rfl ?_
      rfl
end Go.Proofs.YtggngllfnboehaaGreatDoor
