/- programme.line, Print and their references, by the abstract machine: the text of the plain functions; conditions: the tables of classes, powers and places stand. -/
import Derived.Test.YtggngllfnboehaaGreatDoorPgC
import Derived.Test.YtggngllfnboehaaGreatDoorAbsG
import Derived.Test.YtggngllfnboehaaGreatDoorAbsW
import Derived.Test.YtggngllfnboehaaGreatDoorBdA
import Derived.Test.YtggngllfnboehaaGreatDoorTxB
import Derived.Test.YtggngllfnboehaaGreatDoorAbsZ
set_option linter.unusedVariables false
set_option linter.unusedSimpArgs false
namespace Go.Proofs.YtggngllfnboehaaGreatDoor
open Go Go.RowKit
set_option maxRecDepth 10000
variable {G : Nat → Option (List Value)}
def plcL : List Value := [.string ⟨#[]⟩, .string ⟨#[111, 112, 101, 110]⟩, .string ⟨#[99, 108, 111, 115, 101, 100]⟩]
def GPlc (G : Nat → Option (List Value)) : Prop := G 0 = some plcL
/-- The words of a step, item by item. -/
def wordOf (N : List Nd) (V : List Dv) (s : St) : It → List UInt8
  | .wd t => t.data.toList
  | .dv => devN V s.d
  | .nd => nodN N s.n
  | .ps => posW s.p
  | .ky => Lib.itoa s.y
def itOk (nN nV : Int) (s : St) : It → Prop
  | .wd _ => True
  | .dv => 0 ≤ s.d ∧ s.d < nV
  | .nd => 0 ≤ s.n ∧ s.n < nN
  | .ps => s.p = 1 ∨ s.p = 2
  | .ky => 0 ≤ s.y ∧ s.y ≤ 65536
theorem items_ok {nN nV : Int} {s : St} (h : StOk nN nV s) : ∀ i ∈ jW s.k, itOk nN nV s i := by
  obtain ⟨hk, hd, -, hn, -, hp, -, hy, -⟩ := h
  obtain ⟨k, d, n, p, y⟩ := s
  simp only at hk hd hn hp hy
  rcases (by omega : k = 1 ∨ k = 2 ∨ k = 3 ∨ k = 4 ∨ k = 5 ∨ k = 6) with e | e | e | e | e | e <;> subst e
  all_goals
    simp only [fl1, fl2, fl3, fl4, fl5, fl6, wS, List.mem_cons, List.not_mem_nil, or_false]
    rintro i hi
    rcases hi with rfl | hi
    · trivial
  all_goals
    simp only [itOk] at *
    try (rcases hi with rfl | rfl | rfl | rfl)
    try (rcases hi with rfl | rfl | rfl)
    try (rcases hi with rfl | rfl)
    try (rcases hi with rfl)
  all_goals simp_all
theorem words_eq (N : List Nd) (V : List Dv) {s : St} (hk : 1 ≤ s.k ∧ s.k ≤ 6) : (jW s.k).map (wordOf N V s) = qV N V s := by
  obtain ⟨k, d, n, p, y⟩ := s
  simp only at hk
  rcases (by omega : k = 1 ∨ k = 2 ∨ k = 3 ∨ k = 4 ∨ k = 5 ∨ k = 6) with e | e | e | e | e | e <;> subst e <;> rfl
theorem words_take {N : List Nd} {V : List Dv} {s : St} {F : List It} {k : Nat} {x : It} (h : F[k]? = some x) : ((F.take (k + 1)).map (wordOf N V s)).map svL = ((F.take k).map (wordOf N V s)).map svL ++ [svL (wordOf N V s x)] := by
  rw [qv h, List.map_append, List.map_append]; rfl
set_option maxHeartbeats 4000000 in
theorem line_A (N : List Nd) (V : List Dv) (s : St) (ok : StOk N.length V.length s) (hP : GPow G) (hPl : GPlc G) : yF Tryz.prog G 31 [nwAV N V, s.av] [] (.sl 1 ((qV N V s).map svL)) [] := by
  have hk := ok.k
  have hit := items_ok ok
  have hfl := form_len s.k
  rw [← words_eq N V hk]
  obtain ⟨F, hF⟩ : ∃ F, F = jW s.k := ⟨_, rfl⟩
  have hfa := form_A (G := G) s.k hk
  rw [← hF] at hit hfa hfl ⊢
  refine zj tbOk (zn Tryz.func31 (by kernel_rfl) rfl) Tryz.func31 rfl _ Tryz.ntmps31 (Nat.le_of_ble_eq_true rfl) fun X hX => ?_
  subst hX
  repeat (first | ((with_reducible refine zE ?_); refine zD rfl ?_) | ((with_reducible refine zK ?_); refine zG tbOk rfl rfl rfl rfl ?_) | ((with_reducible refine zL ?_); refine zN tbOk rfl rfl rfl rfl rfl ?_) | ((with_reducible refine yj ?_); refine yi rfl rfl rfl ?_)  | refine zJ ?_ | refine zB rfl ?_ | with_reducible refine zC ?_ | with_reducible refine zF ?_ | ((with_reducible refine zA ?_ ?_); kernel_rfl))
  refine zo (hfa) (by repeat' (first | exact trivial | exact Ren.v _ | exact Ren.sl _ _ | exact Ren.ep _ | exact Ren.ptr _ _ _ _ rfl | exact Ren.bs _ _ _ _ _ rfl | exact Ren.nil _ | exact Ren.own _ _ _ _ ⟨_, rfl⟩ | refine zO ?_ | refine zQ ?_ | refine zP ?_ | refine ⟨?_, ?_⟩)) (by repeat' (first | exact trivial | exact RenB.v _ | exact RenB.sl _ _ | exact RenB.ep _ | exact RenB.ptr _ _ _ _ rfl | refine zW ?_ | refine zX ?_ | refine ⟨?_, ?_⟩)) ?_
  repeat (first | ((with_reducible refine zI ?_); refine zH rfl ?_) | ((with_reducible refine zu ?_); refine yR tbOk rfl rfl ?_)  | refine zJ ?_ | refine zB rfl ?_ | with_reducible refine zC ?_ | with_reducible refine zY ?_ )
  refine awp_own (t := 5) (s := 28) 9 1 rfl rfl ?_
  refine yU (ι := Nat) (fun k => k ≤ F.length) (fun k => F.length - k) (fun v k => [(2, .ptr 2 (v 2) 0), (3, .ptr 3 (v 3) 0), (5, .own 28 (v 28)), (15, .sl 1 (F.map It.av)), (16, .v (.int .i64 (F.map It.av).length)), (17, .v (.int .i64 (k : Nat)))]) (fun v k => [(2, .box [.sl 3 (N.map Nd.av), .sl 5 (V.map Dv.av)]), (3, .box [.v (.int .i64 s.k), .v (.int .i64 s.d), .v (.int .i64 s.n), .v (.int .i64 s.p), .v (.int .i64 s.y)]), (28, .buf 9 1 (((F.take k).map (wordOf N V s)).map svL))]) ?_ ?_
  · exact ⟨0, Nat.zero_le _, trivial, ⟨rfl, rfl, rfl, rfl, rfl, rfl, trivial⟩, ⟨rfl, rfl, rfl, trivial⟩⟩
  rintro v k hk
  repeat (first | ((with_reducible refine zM ?_); refine zV rfl rfl rfl ?_)  | refine zJ ?_ | refine zB rfl ?_ | with_reducible refine zC ?_ | with_reducible refine zF ?_ | ((with_reducible refine zA ?_ ?_); kernel_rfl))
  refine zm rfl (fun h => ?_) (fun h => ?_)
  · have hlt : k < F.length := by simpa using h
    obtain ⟨x, hx⟩ := zl hlt
    have hy := itv_at hx
    have hi := hit x (List.mem_of_getElem? hx)
    cases x with
    | wd t =>
      repeat (first | ((with_reducible refine zI ?_); refine zH rfl ?_) | ((with_reducible refine zE ?_); refine zD rfl ?_) | ((with_reducible refine zL ?_); refine za tbOk rfl rfl rfl ?_) | ((with_reducible refine yN ?_); refine yO rfl rfl ?_) | ((with_reducible refine zT ?_); refine zZ tbOk rfl rfl rfl rfl (by assumption) ?_) | ((with_reducible refine yG ?_); refine yH tbOk rfl rfl rfl rfl rfl (by omega) rfl rfl rfl ?_) | refine zJ ?_ | refine zB rfl ?_ | with_reducible refine zC ?_ | with_reducible refine zF ?_ | with_reducible refine zY ?_ | with_reducible refine zR ?_ | ((with_reducible refine zA ?_ ?_); kernel_rfl) | refine zg rfl (by first | rfl | assumption) ?_ | ((with_reducible refine zi ?_); first | refine yY (by first | exact askW | exact askD | exact askN | exact askP | exact askK) rfl ?_ | refine zz (by first | exact askW | exact askD | exact askN | exact askP | exact askK) rfl rfl ?_) | ((with_reducible refine yE ?_); first | refine yM (by first | exact askW | exact askD | exact askN | exact askP | exact askK) rfl rfl ?_ | refine yD (by first | exact askW | exact askD | exact askN | exact askP | exact askK) rfl ?_ | refine yS (by first | exact askW | exact askD | exact askN | exact askP | exact askK) rfl ?_))
      refine yV tbOk rfl rfl rfl rfl rfl (by decide) rfl rfl rfl rfl rfl (fun x hx => by simp at hx; subst hx; rfl) (by simp only [List.length_map, List.length_take, List.length_cons, List.length_nil]; omega) (by simp only [List.length_map, List.length_take, List.length_cons, List.length_nil]; omega) ?_
      repeat (first | ((with_reducible refine zI ?_); refine zH rfl ?_) | ((with_reducible refine zE ?_); refine zD rfl ?_) | ((with_reducible refine zM ?_); refine ze rfl rfl (by omega) ?_)  | refine zJ ?_ | refine zB rfl ?_ | with_reducible refine zC ?_ | with_reducible refine zk ?_ | ((with_reducible refine zA ?_ ?_); kernel_rfl))
      exact ⟨k + 1, by omega, by omega, ⟨rfl, rfl, rfl, rfl, rfl, rfl, trivial⟩, ⟨rfl, rfl, jJ (by rw [words_take hx]; exact congrArg (fun z => _ ++ [z]) (rfl)), trivial⟩⟩
    | dv =>
      obtain ⟨d, hd, e⟩ := devN_at hi
      have hz := dv_at' hd
      have hi1 : 0 ≤ s.d ∧ s.d < V.length := hi
      repeat (first | ((with_reducible refine zI ?_); refine zH rfl ?_) | ((with_reducible refine zE ?_); refine zD rfl ?_) | ((with_reducible refine zK ?_); refine zG tbOk rfl rfl rfl rfl ?_) | ((with_reducible refine zK ?_); refine ya tbOk rfl rfl rfl rfl ?_) | ((with_reducible refine zL ?_); refine zN tbOk rfl rfl rfl rfl rfl ?_) | ((with_reducible refine zL ?_); refine za tbOk rfl rfl rfl ?_) | ((with_reducible refine zd ?_); refine zf tbOk rfl rfl rfl rfl rfl rfl rfl (Nat.le_of_ble_eq_true rfl) rfl ?_) | ((with_reducible refine yA ?_); refine yB tbOk rfl rfl ?_) | ((with_reducible refine yN ?_); refine yO rfl rfl ?_) | ((with_reducible refine zT ?_); refine zZ tbOk rfl rfl rfl rfl (by assumption) ?_) | ((with_reducible refine zT ?_); refine jL tbOk rfl rfl rfl rfl (by omega) (by assumption) ?_) | ((with_reducible refine yG ?_); refine yH tbOk rfl rfl rfl rfl rfl (by omega) rfl rfl rfl ?_) | refine zJ ?_ | refine zB rfl ?_ | with_reducible refine zC ?_ | with_reducible refine zF ?_ | with_reducible refine zY ?_ | with_reducible refine zR ?_ | ((with_reducible refine zA ?_ ?_); kernel_rfl) | refine zg rfl (by first | rfl | assumption) ?_ | refine zp rfl (by first | rfl | assumption) ?_ | ((with_reducible refine zi ?_); first | refine yY (by first | exact askW | exact askD | exact askN | exact askP | exact askK) rfl ?_ | refine zz (by first | exact askW | exact askD | exact askN | exact askP | exact askK) rfl rfl ?_) | ((with_reducible refine yE ?_); first | refine yM (by first | exact askW | exact askD | exact askN | exact askP | exact askK) rfl rfl ?_ | refine yD (by first | exact askW | exact askD | exact askN | exact askP | exact askK) rfl ?_ | refine yS (by first | exact askW | exact askD | exact askN | exact askP | exact askK) rfl ?_))
      refine yV tbOk rfl rfl rfl rfl rfl (by decide) rfl rfl rfl rfl rfl (fun x hx => by simp at hx; subst hx; rfl) (by simp only [List.length_map, List.length_take, List.length_cons, List.length_nil]; omega) (by simp only [List.length_map, List.length_take, List.length_cons, List.length_nil]; omega) ?_
      repeat (first | ((with_reducible refine zE ?_); refine zD rfl ?_) | refine zJ ?_ | refine zB rfl ?_ | with_reducible refine zC ?_ | with_reducible refine zk ?_)
      refine awp_reown (t := 5) (s := 41) (d := 28) rfl rfl rfl (by decide) ?_
      repeat (first | ((with_reducible refine zI ?_); refine zH rfl ?_) | ((with_reducible refine zM ?_); refine ze rfl rfl (by omega) ?_)  | refine zJ ?_ | refine zB rfl ?_ | with_reducible refine zC ?_ | ((with_reducible refine zA ?_ ?_); kernel_rfl))
      exact ⟨k + 1, by omega, by omega, ⟨rfl, rfl, rfl, rfl, rfl, rfl, trivial⟩, ⟨rfl, rfl, jJ (by rw [words_take hx]; exact congrArg (fun z => _ ++ [z]) (by show AV.v (Value.string d.n) = svL (devN V s.d); rw [e]; rfl)), trivial⟩⟩
    | nd =>
      obtain ⟨d, hd, e⟩ := nodN_at hi
      have hz := nd_at' hd
      have hi1 : 0 ≤ s.n ∧ s.n < N.length := hi
      repeat (first | ((with_reducible refine zI ?_); refine zH rfl ?_) | ((with_reducible refine zE ?_); refine zD rfl ?_) | ((with_reducible refine zK ?_); refine zG tbOk rfl rfl rfl rfl ?_) | ((with_reducible refine zK ?_); refine ya tbOk rfl rfl rfl rfl ?_) | ((with_reducible refine zL ?_); refine zN tbOk rfl rfl rfl rfl rfl ?_) | ((with_reducible refine zL ?_); refine za tbOk rfl rfl rfl ?_) | ((with_reducible refine zd ?_); refine zf tbOk rfl rfl rfl rfl rfl rfl rfl (Nat.le_of_ble_eq_true rfl) rfl ?_) | ((with_reducible refine yA ?_); refine yB tbOk rfl rfl ?_) | ((with_reducible refine yN ?_); refine yO rfl rfl ?_) | ((with_reducible refine zT ?_); refine zZ tbOk rfl rfl rfl rfl (by assumption) ?_) | ((with_reducible refine zT ?_); refine jL tbOk rfl rfl rfl rfl (by omega) (by assumption) ?_) | ((with_reducible refine yG ?_); refine yH tbOk rfl rfl rfl rfl rfl (by omega) rfl rfl rfl ?_) | refine zJ ?_ | refine zB rfl ?_ | with_reducible refine zC ?_ | with_reducible refine zF ?_ | with_reducible refine zY ?_ | with_reducible refine zR ?_ | ((with_reducible refine zA ?_ ?_); kernel_rfl) | refine zg rfl (by first | rfl | assumption) ?_ | refine zp rfl (by first | rfl | assumption) ?_ | ((with_reducible refine zi ?_); first | refine yY (by first | exact askW | exact askD | exact askN | exact askP | exact askK) rfl ?_ | refine zz (by first | exact askW | exact askD | exact askN | exact askP | exact askK) rfl rfl ?_) | ((with_reducible refine yE ?_); first | refine yM (by first | exact askW | exact askD | exact askN | exact askP | exact askK) rfl rfl ?_ | refine yD (by first | exact askW | exact askD | exact askN | exact askP | exact askK) rfl ?_ | refine yS (by first | exact askW | exact askD | exact askN | exact askP | exact askK) rfl ?_))
      refine yV tbOk rfl rfl rfl rfl rfl (by decide) rfl rfl rfl rfl rfl (fun x hx => by simp at hx; subst hx; rfl) (by simp only [List.length_map, List.length_take, List.length_cons, List.length_nil]; omega) (by simp only [List.length_map, List.length_take, List.length_cons, List.length_nil]; omega) ?_
      repeat (first | ((with_reducible refine zE ?_); refine zD rfl ?_) | refine zJ ?_ | refine zB rfl ?_ | with_reducible refine zC ?_ | with_reducible refine zk ?_)
      refine awp_reown (t := 5) (s := 54) (d := 28) rfl rfl rfl (by decide) ?_
      repeat (first | ((with_reducible refine zI ?_); refine zH rfl ?_) | ((with_reducible refine zM ?_); refine ze rfl rfl (by omega) ?_)  | refine zJ ?_ | refine zB rfl ?_ | with_reducible refine zC ?_ | ((with_reducible refine zA ?_ ?_); kernel_rfl))
      exact ⟨k + 1, by omega, by omega, ⟨rfl, rfl, rfl, rfl, rfl, rfl, trivial⟩, ⟨rfl, rfl, jJ (by rw [words_take hx]; exact congrArg (fun z => _ ++ [z]) (by show AV.v (Value.string d.n) = svL (nodN N s.n); rw [e]; rfl)), trivial⟩⟩
    | ps =>
      have hi1 : s.p = 1 ∨ s.p = 2 := hi
      repeat (first | ((with_reducible refine zI ?_); refine zH rfl ?_) | ((with_reducible refine zE ?_); refine zD rfl ?_) | ((with_reducible refine zK ?_); refine zG tbOk rfl rfl rfl rfl ?_) | ((with_reducible refine zL ?_); refine zN tbOk rfl rfl rfl rfl rfl ?_) | ((with_reducible refine zL ?_); refine za tbOk rfl rfl rfl ?_) | ((with_reducible refine zd ?_); refine zf tbOk rfl rfl rfl rfl rfl rfl rfl (Nat.le_of_ble_eq_true rfl) rfl ?_) | ((with_reducible refine yA ?_); refine yB tbOk rfl rfl ?_) | ((with_reducible refine yN ?_); refine yO rfl rfl ?_) | ((with_reducible refine zT ?_); refine zZ tbOk rfl rfl rfl rfl (by assumption) ?_)  | refine zJ ?_ | refine zB rfl ?_ | with_reducible refine zC ?_ | with_reducible refine zF ?_ | with_reducible refine zY ?_ | with_reducible refine zR ?_ | ((with_reducible refine zA ?_ ?_); kernel_rfl) | refine zg rfl (by first | rfl | assumption) ?_ | refine zp rfl (by first | rfl | assumption) ?_ | ((with_reducible refine zi ?_); first | refine yY (by first | exact askW | exact askD | exact askN | exact askP | exact askK) rfl ?_ | refine zz (by first | exact askW | exact askD | exact askN | exact askP | exact askK) rfl rfl ?_) | ((with_reducible refine yE ?_); first | refine yM (by first | exact askW | exact askD | exact askN | exact askP | exact askK) rfl rfl ?_ | refine yD (by first | exact askW | exact askD | exact askN | exact askP | exact askK) rfl ?_ | refine yS (by first | exact askW | exact askD | exact askN | exact askP | exact askK) rfl ?_))
      (with_reducible refine zT ?_)
      refine x_indexAddr_gl tbOk Tryz.underlying98 rfl rfl rfl (by omega) ?_
      repeat (first   | refine zB rfl ?_   | ((with_reducible refine zi ?_); first | refine yY (by first | exact askW | exact askD | exact askN | exact askP | exact askK) rfl ?_ | refine zz (by first | exact askW | exact askD | exact askN | exact askP | exact askK) rfl rfl ?_) | ((with_reducible refine yE ?_); first | refine yM (by first | exact askW | exact askD | exact askN | exact askP | exact askK) rfl rfl ?_ | refine yD (by first | exact askW | exact askD | exact askN | exact askP | exact askK) rfl ?_ | refine yS (by first | exact askW | exact askD | exact askN | exact askP | exact askK) rfl ?_))
      (with_reducible refine zL ?_)
      refine x_load_gl tbOk rfl rfl hPl (u := .string (strL (posW s.p))) (by rcases hi1 with e | e <;> rw [e] <;> rfl) ?_
      repeat (first  | ((with_reducible refine yG ?_); refine yH tbOk rfl rfl rfl rfl rfl (by omega) rfl rfl rfl ?_) | refine zB rfl ?_   | ((with_reducible refine zi ?_); first | refine yY (by first | exact askW | exact askD | exact askN | exact askP | exact askK) rfl ?_ | refine zz (by first | exact askW | exact askD | exact askN | exact askP | exact askK) rfl rfl ?_) | ((with_reducible refine yE ?_); first | refine yM (by first | exact askW | exact askD | exact askN | exact askP | exact askK) rfl rfl ?_ | refine yD (by first | exact askW | exact askD | exact askN | exact askP | exact askK) rfl ?_ | refine yS (by first | exact askW | exact askD | exact askN | exact askP | exact askK) rfl ?_))
      refine yV tbOk rfl rfl rfl rfl rfl (by decide) rfl rfl rfl rfl rfl (fun x hx => by simp at hx; subst hx; rfl) (by simp only [List.length_map, List.length_take, List.length_cons, List.length_nil]; omega) (by simp only [List.length_map, List.length_take, List.length_cons, List.length_nil]; omega) ?_
      repeat (first | ((with_reducible refine zE ?_); refine zD rfl ?_) | refine zJ ?_ | refine zB rfl ?_ | with_reducible refine zC ?_ | with_reducible refine zk ?_)
      refine awp_reown (t := 5) (s := 64) (d := 28) rfl rfl rfl (by decide) ?_
      repeat (first | ((with_reducible refine zI ?_); refine zH rfl ?_) | ((with_reducible refine zM ?_); refine ze rfl rfl (by omega) ?_)  | refine zJ ?_ | refine zB rfl ?_ | with_reducible refine zC ?_ | ((with_reducible refine zA ?_ ?_); kernel_rfl))
      exact ⟨k + 1, by omega, by omega, ⟨rfl, rfl, rfl, rfl, rfl, rfl, trivial⟩, ⟨rfl, rfl, jJ (by rw [words_take hx]; exact congrArg (fun z => _ ++ [z]) (rfl)), trivial⟩⟩
    | ky =>
      have hi1 : 0 ≤ s.y ∧ s.y ≤ 65536 := hi
      repeat (first | ((with_reducible refine zI ?_); refine zH rfl ?_) | ((with_reducible refine zE ?_); refine zD rfl ?_) | ((with_reducible refine zK ?_); refine zG tbOk rfl rfl rfl rfl ?_) | ((with_reducible refine zL ?_); refine zN tbOk rfl rfl rfl rfl rfl ?_) | ((with_reducible refine zL ?_); refine za tbOk rfl rfl rfl ?_) | ((with_reducible refine zd ?_); refine zf tbOk rfl rfl rfl rfl rfl rfl rfl (Nat.le_of_ble_eq_true rfl) rfl ?_) | ((with_reducible refine yA ?_); refine yB tbOk rfl rfl ?_) | ((with_reducible refine yN ?_); refine yO rfl rfl ?_) | ((with_reducible refine zT ?_); refine zZ tbOk rfl rfl rfl rfl (by assumption) ?_)  | refine zJ ?_ | refine zB rfl ?_ | with_reducible refine zC ?_ | with_reducible refine zF ?_ | with_reducible refine zY ?_ | with_reducible refine zR ?_ | ((with_reducible refine zA ?_ ?_); kernel_rfl) | refine zg rfl (by first | rfl | assumption) ?_ | refine zp rfl (by first | rfl | assumption) ?_ | ((with_reducible refine zi ?_); first | refine yY (by first | exact askW | exact askD | exact askN | exact askP | exact askK) rfl ?_ | refine zz (by first | exact askW | exact askD | exact askN | exact askP | exact askK) rfl rfl ?_) | ((with_reducible refine yE ?_); first | refine yM (by first | exact askW | exact askD | exact askN | exact askP | exact askK) rfl rfl ?_ | refine yD (by first | exact askW | exact askD | exact askN | exact askP | exact askK) rfl ?_ | refine yS (by first | exact askW | exact askD | exact askN | exact askP | exact askK) rfl ?_))
      refine zo (text_A s.y hP (by omega) (by omega)) (by repeat' (first | exact trivial | exact Ren.v _ | exact Ren.sl _ _ | exact Ren.ep _ | exact Ren.ptr _ _ _ _ rfl | exact Ren.bs _ _ _ _ _ rfl | exact Ren.nil _ | exact Ren.own _ _ _ _ ⟨_, rfl⟩ | refine zO ?_ | refine zQ ?_ | refine zP ?_ | refine ⟨?_, ?_⟩)) (by repeat' (first | exact trivial | exact RenB.v _ | exact RenB.sl _ _ | exact RenB.ep _ | exact RenB.ptr _ _ _ _ rfl | refine zW ?_ | refine zX ?_ | refine ⟨?_, ?_⟩)) ?_
      repeat (first  | ((with_reducible refine yG ?_); refine yH tbOk rfl rfl rfl rfl rfl (by omega) rfl rfl rfl ?_) | refine zB rfl ?_   | ((with_reducible refine zi ?_); first | refine yY (by first | exact askW | exact askD | exact askN | exact askP | exact askK) rfl ?_ | refine zz (by first | exact askW | exact askD | exact askN | exact askP | exact askK) rfl rfl ?_) | ((with_reducible refine yE ?_); first | refine yM (by first | exact askW | exact askD | exact askN | exact askP | exact askK) rfl rfl ?_ | refine yD (by first | exact askW | exact askD | exact askN | exact askP | exact askK) rfl ?_ | refine yS (by first | exact askW | exact askD | exact askN | exact askP | exact askK) rfl ?_))
      refine yV tbOk rfl rfl rfl rfl rfl (by decide) rfl rfl rfl rfl rfl (fun x hx => by simp at hx; subst hx; rfl) (by simp only [List.length_map, List.length_take, List.length_cons, List.length_nil]; omega) (by simp only [List.length_map, List.length_take, List.length_cons, List.length_nil]; omega) ?_
      repeat (first | ((with_reducible refine zE ?_); refine zD rfl ?_) | refine zJ ?_ | refine zB rfl ?_ | with_reducible refine zC ?_ | with_reducible refine zk ?_)
      refine awp_reown (t := 5) (s := 73) (d := 28) rfl rfl rfl (by decide) ?_
      repeat (first | ((with_reducible refine zI ?_); refine zH rfl ?_) | ((with_reducible refine zM ?_); refine ze rfl rfl (by omega) ?_)  | refine zJ ?_ | refine zB rfl ?_ | with_reducible refine zC ?_ | ((with_reducible refine zA ?_ ?_); kernel_rfl))
      exact ⟨k + 1, by omega, by omega, ⟨rfl, rfl, rfl, rfl, rfl, rfl, trivial⟩, ⟨rfl, rfl, jJ (by rw [words_take hx]; exact congrArg (fun z => _ ++ [z]) (rfl)), trivial⟩⟩
  · have hge : F.length ≤ k := by simpa using h
    rw [List.take_of_length_le hge]
    refine awp_freeze (t := 5) (s := 28) rfl rfl ?_
    repeat (first | ((with_reducible refine zI ?_); refine zH rfl ?_) | ((with_reducible refine zE ?_); refine zD rfl ?_)  | refine zJ ?_ | refine zB rfl ?_ | with_reducible refine zC ?_ | with_reducible refine zw ?_ | with_reducible refine zF ?_ | with_reducible refine yJ ?_ | with_reducible refine zU ?_ | ((with_reducible refine zr ?_ ?_); rfl) | ((with_reducible refine zA ?_ ?_); kernel_rfl))
    refine ret0_1 (by first | exact .inr rfl | exact .inl rfl) rfl rfl ?_
    repeat' (first | exact trivial | exact Ren.v _ | exact Ren.sl _ _ | exact Ren.ep _ | exact Ren.ptr _ _ _ _ rfl | exact Ren.bs _ _ _ _ _ rfl | exact Ren.nil _ | exact Ren.own _ _ _ _ ⟨_, rfl⟩ | refine zO ?_ | refine zQ ?_ | refine zP ?_ | refine ⟨?_, ?_⟩)
def lnP (N : List Nd) (V : List Dv) (s : St) : List UInt8 := qE (qV N V s)
def preP (N : List Nd) (V : List Dv) (P : Pg) (k : Nat) : List UInt8 := qu (qE (headL P) :: (P.st.take k).map (lnP N V))
theorem txtOf_snoc (L : List (List UInt8)) (l : List UInt8) : qu (L ++ [l]) = qu L ++ (l ++ [10]) := by
  unfold qu
  rw [List.flatMap_append]; simp
theorem qg {N : List Nd} {V : List Dv} {P : Pg} {k : Nat} {s : St} (h : P.st[k]? = some s) : preP N V P (k + 1) = preP N V P k ++ (lnP N V s ++ [10]) := by
  unfold preP
  rw [qv h, List.map_append, List.map_cons, List.map_nil, ← List.cons_append, txtOf_snoc]
theorem preP_all (N : List Nd) (V : List Dv) (P : Pg) : preP N V P P.st.length = qu (qU N V P) := by
  unfold preP qU
  rw [List.take_length]; rfl
theorem preP_len {N : List Nd} {V : List Dv} {P : Pg} (h : PgOk N V P) (k : Nat) : (preP N V P k).length ≤ 6890 := by
  have h1 := txt_len (L := qE (headL P) :: (P.st.take k).map (lnP N V)) (b := 105) (fun l hl => (lines_okP h l (by
    unfold qU
    rcases List.mem_cons.1 hl with rfl | hl
    · exact List.mem_cons_self
    · obtain ⟨s, hs, rfl⟩ := List.mem_map.1 hl
      exact List.mem_cons_of_mem _ (List.mem_map.2 ⟨s, List.mem_of_mem_take hs, rfl⟩))).2)
  have h2 := h.l
  have h3 : (qE (headL P) :: (P.st.take k).map (lnP N V)).length ≤ P.st.length + 1 := by
    rw [List.length_cons, List.length_map, List.length_take]; omega
  unfold preP
  have := Nat.mul_le_mul_right 106 h3
  omega
theorem ln_len {N : List Nd} {V : List Dv} {P : Pg} (h : PgOk N V P) {s : St} (hs : s ∈ P.st) : (lnP N V s).length ≤ 105 := (lines_okP h _ (by unfold qU; exact List.mem_cons_of_mem _ (List.mem_map.2 ⟨s, hs, rfl⟩))).2
theorem head_txt (P : Pg) : qE (headL P) = progL ++ (32 :: P.n.data.toList) := by
  unfold headL
  rw [jm, jx]
theorem ja (a : Array UInt8) : (⟨a⟩ : ByteArray).size = a.size := rfl
theorem qz {s : ByteArray} (h : je s.data.toList = true) : s.size ≤ 12 := by
  have := (name_sp h).2.2
  simpa using this
theorem print_start (P : Pg) : ((((⟨#[112, 114, 111, 103, 114, 97, 109, 109, 101, 32]⟩ : ByteArray) ++ P.n) ++ (⟨#[10]⟩ : ByteArray)).data.toList) = qu [qE (headL P)] := by
  unfold qu
  rw [head_txt]
  simp [progL]
set_option maxHeartbeats 4000000 in
theorem print_A (N : List Nd) (V : List Dv) (P : Pg) (hG : GCls G) (hP : GPow G) (hPl : GPlc G) (ok : NwOk N V) (hc : P.n.size ≤ maxLen) (hl : P.st.length ≤ maxLen) : yF Tryz.prog G 12 [nwAV N V, P.av] [] (.tu [.v (.string (printG N V P).1), .v (.int .i64 (printG N V P).2)]) [] := by
  unfold printG
  by_cases h0 : jv N V P = 0
  · rw [if_neg (by simpa using h0)]
    have hok := progE_iff.1 h0
    have hns := qz hok.n
    have hck := pcheck_A N V P hG ok hc hl
    rw [h0] at hck
    have h64 := hok.l
    refine zj tbOk (zn Tryz.func12 (by kernel_rfl) rfl) Tryz.func12 rfl _ Tryz.ntmps12 (Nat.le_of_ble_eq_true rfl) fun X hX => ?_
    subst hX
    repeat (first | ((with_reducible refine zE ?_); refine zD rfl ?_) | ((with_reducible refine zL ?_); refine zc tbOk rfl rfl rfl rfl (Nat.le_of_ble_eq_true rfl) ?_) | ((with_reducible refine yj ?_); refine yi rfl rfl rfl ?_)  | refine zJ ?_ | refine zB rfl ?_ | with_reducible refine zC ?_ | with_reducible refine zF ?_ | ((with_reducible refine zA ?_ ?_); kernel_rfl))
    refine zo (hck) (by repeat' (first | exact trivial | exact Ren.v _ | exact Ren.sl _ _ | exact Ren.ep _ | exact Ren.ptr _ _ _ _ rfl | exact Ren.bs _ _ _ _ _ rfl | exact Ren.nil _ | exact Ren.own _ _ _ _ ⟨_, rfl⟩ | refine zO ?_ | refine zQ ?_ | refine zP ?_ | refine ⟨?_, ?_⟩)) (by repeat' (first | exact trivial | exact RenB.v _ | exact RenB.sl _ _ | exact RenB.ep _ | exact RenB.ptr _ _ _ _ rfl | refine zW ?_ | refine zX ?_ | refine ⟨?_, ?_⟩)) ?_
    repeat (first | ((with_reducible refine zE ?_); refine zD rfl ?_) | refine zJ ?_ | refine zB rfl ?_ | with_reducible refine zC ?_ | with_reducible refine zF ?_)
    (with_reducible refine zA ?_ ?_); kernel_rfl
    repeat (first | ((with_reducible refine zI ?_); refine zH rfl ?_) | ((with_reducible refine zM ?_); refine zV rfl rfl rfl ?_) | refine zJ ?_ | refine zB rfl ?_ | with_reducible refine zC ?_)
    refine zp rfl rfl ?_
    repeat (first  | refine zB rfl ?_ | with_reducible refine zC ?_ | with_reducible refine zF ?_ | with_reducible refine zR ?_)
    (with_reducible refine zA ?_ ?_); kernel_rfl
    repeat (first | refine zB rfl ?_)
    (with_reducible refine yA ?_)
    refine x_alloc_bd tbOk (e := 5) 900 rfl (by decide) rfl rfl ?_
    repeat (first | ((with_reducible refine zK ?_); refine zG tbOk rfl rfl rfl rfl ?_) | ((with_reducible refine zL ?_); refine zN tbOk rfl rfl rfl rfl rfl ?_)  | refine zJ ?_ | refine zB rfl ?_ | with_reducible refine zC ?_ | with_reducible refine zF ?_ | ((with_reducible refine zA ?_ ?_); kernel_rfl))
    ((with_reducible refine zM ?_); refine yb rfl rfl (by simp only [ByteArray.size_append, ja, List.size_toArray, List.length_cons, List.length_nil]; omega) ?_)
    repeat (first   | refine zB rfl ?_  )
    ((with_reducible refine zM ?_); refine yb rfl rfl (by simp only [ByteArray.size_append, ja, List.size_toArray, List.length_cons, List.length_nil]; omega) ?_)
    repeat (first   | refine zB rfl ?_  )
    (with_reducible refine zu ?_)
    refine x_bd (L := []) (bd_ws _) rfl rfl rfl rfl rfl rfl (by rw [← nsizeS]; simp only [ByteArray.size_append, ja, List.size_toArray, List.length_cons, List.length_nil]; omega) ?_
    repeat (first | ((with_reducible refine zI ?_); refine zH rfl ?_) | ((with_reducible refine zK ?_); refine zG tbOk rfl rfl rfl rfl ?_) | ((with_reducible refine zL ?_); refine zN tbOk rfl rfl rfl rfl rfl ?_) | ((with_reducible refine zu ?_); refine yR tbOk rfl rfl ?_)  | refine zJ ?_ | refine zB rfl ?_ | with_reducible refine zC ?_ | with_reducible refine zF ?_ | with_reducible refine zY ?_ | ((with_reducible refine zA ?_ ?_); kernel_rfl))
    refine yU (ι := Nat) (fun k => k ≤ P.st.length) (fun k => P.st.length - k) (fun v k => [(2, .ptr 2 (v 2) 0), (3, .ptr 3 (v 3) 0), (7, .ptr 7 (v 7) 0), (22, .sl 5 (P.st.map St.av)), (23, .v (.int .i64 (P.st.map St.av).length)), (24, .v (.int .i64 (k : Nat)))]) (fun v k => [(900, .buf 5 1 ((preP N V P k).map bv)), (2, .box [.sl 3 (N.map Nd.av), .sl 5 (V.map Dv.av)]), (3, .box [.v (.string P.n), .sl 5 (P.st.map St.av)]), (7, .ob (.bd 72 900 (v 900)))]) ?_ ?_
    · refine ⟨0, Nat.zero_le _, trivial, ⟨rfl, rfl, rfl, rfl, rfl, rfl, trivial⟩, ⟨jJ ?_, rfl, rfl, rfl, trivial⟩⟩
      rw [List.nil_append, print_start]; rfl
    rintro v k hk
    repeat (first | ((with_reducible refine zM ?_); refine zV rfl rfl rfl ?_)  | refine zJ ?_ | refine zB rfl ?_ | with_reducible refine zC ?_ | with_reducible refine zF ?_ | ((with_reducible refine zA ?_ ?_); kernel_rfl))
    refine zm rfl (fun h => ?_) (fun h => ?_)
    · have hlt : k < P.st.length := by simpa using h
      obtain ⟨s, hs⟩ := zl hlt
      have hy := st_at hs
      have hsm := List.mem_of_getElem? hs
      have hso := hok.s s hsm
      have hll := ln_len hok hsm
      have hpl := preP_len hok k
      have hw5 := (step_words hok.net hso).2.1
      repeat (first | ((with_reducible refine zL ?_); refine zc tbOk rfl rfl rfl rfl (Nat.le_of_ble_eq_true rfl) ?_) | ((with_reducible refine zL ?_); refine yT tbOk rfl rfl (Nat.le_of_ble_eq_true rfl) ?_) | ((with_reducible refine zd ?_); refine zf tbOk rfl rfl rfl rfl rfl rfl rfl (Nat.le_of_ble_eq_true rfl) rfl ?_) | ((with_reducible refine yA ?_); refine yB tbOk rfl rfl ?_) | ((with_reducible refine zT ?_); refine zZ tbOk rfl rfl rfl rfl (by assumption) ?_)  | refine zJ ?_ | refine zB rfl ?_ | with_reducible refine zC ?_ | with_reducible refine zF ?_ | with_reducible refine zY ?_ | with_reducible refine zR ?_ | ((with_reducible refine zA ?_ ?_); kernel_rfl))
      refine zo (line_A N V s hso hP hPl) (by repeat' (first | exact trivial | exact Ren.v _ | exact Ren.sl _ _ | exact Ren.ep _ | exact Ren.ptr _ _ _ _ rfl | exact Ren.bs _ _ _ _ _ rfl | exact Ren.nil _ | exact Ren.own _ _ _ _ ⟨_, rfl⟩ | refine zO ?_ | refine zQ ?_ | refine zP ?_ | refine ⟨?_, ?_⟩)) (by repeat' (first | exact trivial | exact RenB.v _ | exact RenB.sl _ _ | exact RenB.ep _ | exact RenB.ptr _ _ _ _ rfl | refine zW ?_ | refine zX ?_ | refine ⟨?_, ?_⟩)) ?_
      repeat (first   | refine zB rfl ?_  )
      refine zo (jn_A (qV N V s) (by omega) (by unfold lnP at hll; omega)) (by repeat' (first | exact trivial | exact Ren.v _ | exact Ren.sl _ _ | exact Ren.ep _ | exact Ren.ptr _ _ _ _ rfl | exact Ren.bs _ _ _ _ _ rfl | exact Ren.nil _ | exact Ren.own _ _ _ _ ⟨_, rfl⟩ | refine zO ?_ | refine zQ ?_ | refine zP ?_ | refine ⟨?_, ?_⟩)) (by repeat' (first | exact trivial | exact RenB.v _ | exact RenB.sl _ _ | exact RenB.ep _ | exact RenB.ptr _ _ _ _ rfl | refine zW ?_ | refine zX ?_ | refine ⟨?_, ?_⟩)) ?_
      repeat (first   | refine zB rfl ?_  )
      (with_reducible refine zM ?_)
      refine yb rfl rfl (by rw [jb]; show (lnP N V s).length + 1 ≤ _; omega) ?_
      repeat (first   | refine zB rfl ?_  )
      (with_reducible refine zu ?_)
      refine x_bd (bd_ws _) rfl rfl rfl rfl rfl rfl (by rw [show ((strL (qE (qV N V s)) ++ (⟨#[10]⟩ : ByteArray)).data.toList) = lnP N V s ++ [10] by simp [strL, lnP], List.length_append]; show _ + (_ + 1) ≤ _; omega) ?_
      repeat (first | ((with_reducible refine zI ?_); refine zH rfl ?_) | ((with_reducible refine zM ?_); refine ze rfl rfl (by omega) ?_)  | refine zJ ?_ | refine zB rfl ?_ | with_reducible refine zC ?_ | with_reducible refine zk ?_ | ((with_reducible refine zA ?_ ?_); kernel_rfl))
      exact ⟨k + 1, by omega, by omega, ⟨rfl, rfl, rfl, rfl, rfl, rfl, trivial⟩, ⟨jJ (by rw [qg hs, show ((strL (qE (qV N V s)) ++ (⟨#[10]⟩ : ByteArray)).data.toList) = lnP N V s ++ [10] by simp [strL, lnP]]), rfl, rfl, rfl, trivial⟩⟩
    · have hge : k = P.st.length := by simp at h; omega
      rw [hge, preP_all]
      repeat (first   | refine zB rfl ?_ | with_reducible refine zC ?_ | with_reducible refine zw ?_ | with_reducible refine zF ?_ | with_reducible refine yJ ?_ | ((with_reducible refine zr ?_ ?_); rfl) | ((with_reducible refine zA ?_ ?_); kernel_rfl))
      (with_reducible refine zu ?_)
      refine x_bd_str bd_str rfl rfl rfl rfl rfl ?_
      repeat (first | ((with_reducible refine zE ?_); refine zD rfl ?_)  | refine zJ ?_ | refine zB rfl ?_ | with_reducible refine zC ?_ | with_reducible refine zU ?_ )
      refine jI (by first | exact .inr rfl | exact .inl rfl) rfl rfl rfl ?_
      repeat' (first | exact trivial | exact Ren.v _ | exact Ren.sl _ _ | exact Ren.ep _ | exact Ren.ptr _ _ _ _ rfl | exact Ren.bs _ _ _ _ _ rfl | exact Ren.nil _ | exact Ren.own _ _ _ _ ⟨_, rfl⟩ | refine zO ?_ | refine zQ ?_ | refine zP ?_ | refine ⟨?_, ?_⟩)
  · rw [if_pos h0]
    have hck := pcheck_A N V P hG ok hc hl
    have hb : (!decide (jv N V P = 0)) = true := by simpa using h0
    refine zj tbOk (zn Tryz.func12 (by kernel_rfl) rfl) Tryz.func12 rfl _ Tryz.ntmps12 (Nat.le_of_ble_eq_true rfl) fun X hX => ?_
    subst hX
    repeat (first | ((with_reducible refine zE ?_); refine zD rfl ?_) | ((with_reducible refine zL ?_); refine zc tbOk rfl rfl rfl rfl (Nat.le_of_ble_eq_true rfl) ?_) | ((with_reducible refine yj ?_); refine yi rfl rfl rfl ?_)  | refine zJ ?_ | refine zB rfl ?_ | with_reducible refine zC ?_ | with_reducible refine zF ?_ | ((with_reducible refine zA ?_ ?_); kernel_rfl))
    refine zo (hck) (by repeat' (first | exact trivial | exact Ren.v _ | exact Ren.sl _ _ | exact Ren.ep _ | exact Ren.ptr _ _ _ _ rfl | exact Ren.bs _ _ _ _ _ rfl | exact Ren.nil _ | exact Ren.own _ _ _ _ ⟨_, rfl⟩ | refine zO ?_ | refine zQ ?_ | refine zP ?_ | refine ⟨?_, ?_⟩)) (by repeat' (first | exact trivial | exact RenB.v _ | exact RenB.sl _ _ | exact RenB.ep _ | exact RenB.ptr _ _ _ _ rfl | refine zW ?_ | refine zX ?_ | refine ⟨?_, ?_⟩)) ?_
    repeat (first | ((with_reducible refine zE ?_); refine zD rfl ?_) | refine zJ ?_ | refine zB rfl ?_ | with_reducible refine zC ?_ | with_reducible refine zF ?_)
    (with_reducible refine zA ?_ ?_); kernel_rfl
    repeat (first | ((with_reducible refine zI ?_); refine zH rfl ?_) | ((with_reducible refine zM ?_); refine zV rfl rfl rfl ?_) | refine zJ ?_ | refine zB rfl ?_ | with_reducible refine zC ?_)
    refine zg rfl (by simpa using h0) ?_
    repeat (first | ((with_reducible refine zI ?_); refine zH rfl ?_) | ((with_reducible refine zE ?_); refine zD rfl ?_)  | refine zJ ?_ | refine zB rfl ?_ | with_reducible refine zC ?_ | with_reducible refine zS ?_ | with_reducible refine zF ?_ | with_reducible refine zU ?_ | ((with_reducible refine zA ?_ ?_); kernel_rfl))
    refine jI (by first | exact .inr rfl | exact .inl rfl) rfl rfl rfl ?_
    repeat' (first | exact trivial | exact Ren.v _ | exact Ren.sl _ _ | exact Ren.ep _ | exact Ren.ptr _ _ _ _ rfl | exact Ren.bs _ _ _ _ _ rfl | exact Ren.nil _ | exact Ren.own _ _ _ _ ⟨_, rfl⟩ | refine zO ?_ | refine zQ ?_ | refine zP ?_ | refine ⟨?_, ?_⟩)
theorem side_A (p : Int) (hp : p = 1 ∨ p = 2) : yF Tryz.prog G 27 [.v (.int .i64 p)] [] (.v (.string (strL (posW p)))) [] := by
  rcases hp with e | e <;> subst e
  all_goals
    refine zj tbOk (zn Tryz.func27 (by kernel_rfl) rfl) Tryz.func27 rfl _ Tryz.ntmps27 (Nat.le_of_ble_eq_true rfl) fun X hX => ?_
    subst hX
    repeat (first | ((with_reducible refine zI ?_); refine zH rfl ?_) | ((with_reducible refine zE ?_); refine zD rfl ?_) | ((with_reducible refine zM ?_); refine zV rfl rfl rfl ?_)  | refine zJ ?_ | refine zB rfl ?_ | with_reducible refine zC ?_ | with_reducible refine zS ?_ | with_reducible refine zF ?_ | with_reducible refine zR ?_ | with_reducible refine zU ?_ | ((with_reducible refine zA ?_ ?_); kernel_rfl) | refine zg rfl (by first | rfl | assumption) ?_ | refine zp rfl (by first | rfl | assumption) ?_)
    refine yC (by first | exact .inr rfl | exact .inl rfl) rfl rfl ?_
    rfl
theorem pos_sz (p : Int) : (strL (posW p)).size ≤ 6 := by
  rw [jb]
  unfold posW
  split <;> decide
theorem txt_sz {y : Int} (h1 : 0 ≤ y) (h2 : y ≤ 65536) : (txtP y).size ≤ 20 := by
  show (strL (Lib.itoa y)).size ≤ 20
  rw [jb]
  exact itoa_len (by omega) (by omega)
set_option maxHeartbeats 8000000 in
theorem rprint_A (N : List Nd) (V : List Dv) (P : Pg) (hP : GPow G) (ok : NwOk N V) (hc : P.n.size ≤ maxLen) (hl : P.st.length ≤ maxLen) (hG : GCls G) : yF Tryz.prog G 11 [nwAV N V, P.av] [] (.tu [.v (.string (printG N V P).1), .v (.int .i64 (printG N V P).2)]) [] := by
  unfold printG
  by_cases h0 : jv N V P = 0
  · rw [if_neg (by simpa using h0)]
    have hok := progE_iff.1 h0
    have hns := qz hok.n
    have hck := prcheck_A N V P hG ok hc hl
    rw [h0] at hck
    have h64 := hok.l
    refine zj tbOk (zn Tryz.func11 (by kernel_rfl) rfl) Tryz.func11 rfl _ Tryz.ntmps11 (Nat.le_of_ble_eq_true rfl) fun X hX => ?_
    subst hX
    repeat (first | ((with_reducible refine zE ?_); refine zD rfl ?_) | ((with_reducible refine zL ?_); refine zc tbOk rfl rfl rfl rfl (Nat.le_of_ble_eq_true rfl) ?_) | ((with_reducible refine yj ?_); refine yi rfl rfl rfl ?_)  | refine zJ ?_ | refine zB rfl ?_ | with_reducible refine zC ?_ | with_reducible refine zF ?_ | ((with_reducible refine zA ?_ ?_); kernel_rfl))
    refine zo (hck) (by repeat' (first | exact trivial | exact Ren.v _ | exact Ren.sl _ _ | exact Ren.ep _ | exact Ren.ptr _ _ _ _ rfl | exact Ren.bs _ _ _ _ _ rfl | exact Ren.nil _ | exact Ren.own _ _ _ _ ⟨_, rfl⟩ | refine zO ?_ | refine zQ ?_ | refine zP ?_ | refine ⟨?_, ?_⟩)) (by repeat' (first | exact trivial | exact RenB.v _ | exact RenB.sl _ _ | exact RenB.ep _ | exact RenB.ptr _ _ _ _ rfl | refine zW ?_ | refine zX ?_ | refine ⟨?_, ?_⟩)) ?_
    repeat (first | ((with_reducible refine zI ?_); refine zH rfl ?_) | ((with_reducible refine zE ?_); refine zD rfl ?_) | ((with_reducible refine zK ?_); refine zG tbOk rfl rfl rfl rfl ?_) | ((with_reducible refine zL ?_); refine zN tbOk rfl rfl rfl rfl rfl ?_) | ((with_reducible refine zM ?_); refine zV rfl rfl rfl ?_)  | refine zJ ?_ | refine zB rfl ?_ | with_reducible refine zC ?_ | with_reducible refine zF ?_ | with_reducible refine zR ?_ | ((with_reducible refine zA ?_ ?_); kernel_rfl) | refine zp rfl (by first | rfl | assumption) ?_)
    ((with_reducible refine zM ?_); refine yb rfl rfl (by simp only [ByteArray.size_append, ja, List.size_toArray, List.length_cons, List.length_nil]; omega) ?_)
    repeat (first   | refine zB rfl ?_  )
    ((with_reducible refine zM ?_); refine yb rfl rfl (by simp only [ByteArray.size_append, ja, List.size_toArray, List.length_cons, List.length_nil]; omega) ?_)
    repeat (first | ((with_reducible refine zE ?_); refine zD rfl ?_)  | refine zJ ?_ | refine zB rfl ?_ | with_reducible refine zC ?_ | with_reducible refine zF ?_ | with_reducible refine zY ?_ | ((with_reducible refine zA ?_ ?_); kernel_rfl))
    refine yU (ι := Nat) (fun k => k ≤ P.st.length) (fun k => P.st.length - k) (fun v k => [(2, .ptr 2 (v 2) 0), (3, .ptr 3 (v 3) 0), (7, .v (.string (strL (preP N V P k)))), (8, .v (.int .i64 (k : Nat)))]) (fun v k => [(2, .box [.sl 3 (N.map Nd.av), .sl 5 (V.map Dv.av)]), (3, .box [.v (.string P.n), .sl 5 (P.st.map St.av)])]) ?_ ?_
    · refine ⟨0, Nat.zero_le _, trivial, ⟨rfl, rfl, congrArg (fun z => AV.v (.string z)) (qy ?_), rfl, trivial⟩, ⟨rfl, rfl, trivial⟩⟩
      rw [print_start, ym]; rfl
    rintro v k hk
    repeat (first | ((with_reducible refine zI ?_); refine zH rfl ?_) | ((with_reducible refine zK ?_); refine zG tbOk rfl rfl rfl rfl ?_) | ((with_reducible refine zL ?_); refine zN tbOk rfl rfl rfl rfl rfl ?_) | ((with_reducible refine zu ?_); refine yR tbOk rfl rfl ?_) | ((with_reducible refine zM ?_); refine zV rfl rfl rfl ?_)  | refine zJ ?_ | refine zB rfl ?_ | with_reducible refine zC ?_ | with_reducible refine zF ?_ | ((with_reducible refine zA ?_ ?_); kernel_rfl))
    refine zm rfl (fun h => ?_) (fun h => ?_)
    · have hlt : k < P.st.length := by simpa using h
      obtain ⟨s, hs⟩ := zl hlt
      have hy := st_at hs
      have hsm := List.mem_of_getElem? hs
      have hso := hok.s s hsm
      have hpl := preP_len hok k
      obtain ⟨S, hS⟩ : ∃ S, S = strL (preP N V P k) := ⟨_, rfl⟩
      have hSl : S.data.toList = preP N V P k := by rw [hS, ym]
      have hSz : S.size ≤ 6890 := by rw [hS, jb]; exact hpl
      rw [← hS]
      obtain ⟨q, d, n, p, y⟩ := s
      have hy' : (P.st.map St.av)[k]? = some (.ag [.v (.int .i64 q), .v (.int .i64 d), .v (.int .i64 n), .v (.int .i64 p), .v (.int .i64 y)]) := hy
      clear hy
      have hd := hso.d
      have hn := hso.n
      have hp := hso.p
      have hy1 := hso.y
      have hk6 := hso.k
      simp only at hd hn hp hy1 hk6
      rcases (by omega : q = 1 ∨ q = 2 ∨ q = 3 ∨ q = 4 ∨ q = 5 ∨ q = 6) with e | e | e | e | e | e <;> subst e
      · obtain ⟨x, hx, ex⟩ := devN_at (hd (by decide))
        have hz := dv_at' hx
        have hxs := qz ((net_names hok.net).1 x (List.mem_of_getElem? hx))
        have hd0 := hd (by decide)
        repeat (first | ((with_reducible refine zI ?_); refine zH rfl ?_) | ((with_reducible refine zE ?_); refine zD rfl ?_) | ((with_reducible refine zK ?_); refine zG tbOk rfl rfl rfl rfl ?_) | ((with_reducible refine zK ?_); refine ya tbOk rfl rfl rfl rfl ?_) | ((with_reducible refine zL ?_); refine zN tbOk rfl rfl rfl rfl rfl ?_) | ((with_reducible refine zL ?_); refine za tbOk rfl rfl rfl ?_) | ((with_reducible refine zL ?_); refine yT tbOk rfl rfl (Nat.le_of_ble_eq_true rfl) ?_) | ((with_reducible refine zd ?_); refine zf tbOk rfl rfl rfl rfl rfl rfl rfl (Nat.le_of_ble_eq_true rfl) rfl ?_) | ((with_reducible refine yA ?_); refine yB tbOk rfl rfl ?_) | ((with_reducible refine zT ?_); refine zZ tbOk rfl rfl rfl rfl (by assumption) ?_) | ((with_reducible refine zT ?_); refine jL tbOk rfl rfl rfl rfl (by omega) (by assumption) ?_) | ((with_reducible refine zM ?_); refine zV rfl rfl rfl ?_)  | refine zJ ?_ | refine zB rfl ?_ | with_reducible refine zC ?_ | with_reducible refine zF ?_ | with_reducible refine zY ?_ | with_reducible refine zR ?_ | ((with_reducible refine zA ?_ ?_); kernel_rfl) | refine zg rfl (by first | rfl | assumption) ?_)
        ((with_reducible refine zM ?_); refine yb rfl rfl (by simp only [ByteArray.size_append, ja, List.size_toArray, List.length_cons, List.length_nil]; omega) ?_)
        repeat (first   | refine zB rfl ?_  )
        ((with_reducible refine zM ?_); refine yb rfl rfl (by simp only [ByteArray.size_append, ja, List.size_toArray, List.length_cons, List.length_nil]; omega) ?_)
        repeat (first | ((with_reducible refine zI ?_); refine zH rfl ?_) | ((with_reducible refine zE ?_); refine zD rfl ?_)  | refine zJ ?_ | refine zB rfl ?_ | with_reducible refine zC ?_ | with_reducible refine zk ?_ | ((with_reducible refine zA ?_ ?_); kernel_rfl))
        ((with_reducible refine zM ?_); refine yb rfl rfl (by simp only [ByteArray.size_append, ja, List.size_toArray, List.length_cons, List.length_nil]; omega) ?_)
        repeat (first | ((with_reducible refine zI ?_); refine zH rfl ?_) | ((with_reducible refine zE ?_); refine zD rfl ?_) | ((with_reducible refine zM ?_); refine ze rfl rfl (by omega) ?_)  | refine zJ ?_ | refine zB rfl ?_ | with_reducible refine zC ?_ | with_reducible refine zk ?_ | ((with_reducible refine zA ?_ ?_); kernel_rfl))
        exact ⟨k + 1, by omega, by omega, ⟨rfl, rfl, congrArg (fun z => AV.v (.string z)) (qy (by rw [ym, qg hs]; unfold lnP; rw [show qV N V ⟨1, d, n, p, y⟩ = [ql, devN V d] from rfl, ex, ← hSl]; simp [jm, jx, strL, txtP, ql])), rfl, trivial⟩, ⟨rfl, rfl, trivial⟩⟩
      · obtain ⟨x, hx, ex⟩ := devN_at (hd (by decide))
        have hz := dv_at' hx
        have hxs := qz ((net_names hok.net).1 x (List.mem_of_getElem? hx))
        have hd0 := hd (by decide)
        repeat (first | ((with_reducible refine zI ?_); refine zH rfl ?_) | ((with_reducible refine zE ?_); refine zD rfl ?_) | ((with_reducible refine zK ?_); refine zG tbOk rfl rfl rfl rfl ?_) | ((with_reducible refine zK ?_); refine ya tbOk rfl rfl rfl rfl ?_) | ((with_reducible refine zL ?_); refine zN tbOk rfl rfl rfl rfl rfl ?_) | ((with_reducible refine zL ?_); refine za tbOk rfl rfl rfl ?_) | ((with_reducible refine zL ?_); refine yT tbOk rfl rfl (Nat.le_of_ble_eq_true rfl) ?_) | ((with_reducible refine zd ?_); refine zf tbOk rfl rfl rfl rfl rfl rfl rfl (Nat.le_of_ble_eq_true rfl) rfl ?_) | ((with_reducible refine yA ?_); refine yB tbOk rfl rfl ?_) | ((with_reducible refine zT ?_); refine zZ tbOk rfl rfl rfl rfl (by assumption) ?_) | ((with_reducible refine zT ?_); refine jL tbOk rfl rfl rfl rfl (by omega) (by assumption) ?_) | ((with_reducible refine zM ?_); refine zV rfl rfl rfl ?_)  | refine zJ ?_ | refine zB rfl ?_ | with_reducible refine zC ?_ | with_reducible refine zF ?_ | with_reducible refine zY ?_ | with_reducible refine zR ?_ | ((with_reducible refine zA ?_ ?_); kernel_rfl) | refine zg rfl (by first | rfl | assumption) ?_ | refine zp rfl (by first | rfl | assumption) ?_)
        ((with_reducible refine zM ?_); refine yb rfl rfl (by simp only [ByteArray.size_append, ja, List.size_toArray, List.length_cons, List.length_nil]; omega) ?_)
        repeat (first   | refine zB rfl ?_  )
        ((with_reducible refine zM ?_); refine yb rfl rfl (by simp only [ByteArray.size_append, ja, List.size_toArray, List.length_cons, List.length_nil]; omega) ?_)
        repeat (first | ((with_reducible refine zI ?_); refine zH rfl ?_) | ((with_reducible refine zE ?_); refine zD rfl ?_)  | refine zJ ?_ | refine zB rfl ?_ | with_reducible refine zC ?_ | with_reducible refine zk ?_ | ((with_reducible refine zA ?_ ?_); kernel_rfl))
        ((with_reducible refine zM ?_); refine yb rfl rfl (by simp only [ByteArray.size_append, ja, List.size_toArray, List.length_cons, List.length_nil]; omega) ?_)
        repeat (first | ((with_reducible refine zI ?_); refine zH rfl ?_) | ((with_reducible refine zE ?_); refine zD rfl ?_) | ((with_reducible refine zM ?_); refine ze rfl rfl (by omega) ?_)  | refine zJ ?_ | refine zB rfl ?_ | with_reducible refine zC ?_ | with_reducible refine zk ?_ | ((with_reducible refine zA ?_ ?_); kernel_rfl))
        exact ⟨k + 1, by omega, by omega, ⟨rfl, rfl, congrArg (fun z => AV.v (.string z)) (qy (by rw [ym, qg hs]; unfold lnP; rw [show qV N V ⟨2, d, n, p, y⟩ = [qq, devN V d] from rfl, ex, ← hSl]; simp [jm, jx, strL, txtP, qq])), rfl, trivial⟩, ⟨rfl, rfl, trivial⟩⟩
      · obtain ⟨x, hx, ex⟩ := devN_at (hd (by decide))
        have hz := dv_at' hx
        have hxs := qz ((net_names hok.net).1 x (List.mem_of_getElem? hx))
        have hd0 := hd (by decide)
        have hps := pos_sz p
        have hty := txt_sz (hy1 (.inl rfl)).1 (hy1 (.inl rfl)).2
        have hy0 := hy1 (.inl rfl)
        repeat (first | ((with_reducible refine zI ?_); refine zH rfl ?_) | ((with_reducible refine zE ?_); refine zD rfl ?_) | ((with_reducible refine zK ?_); refine zG tbOk rfl rfl rfl rfl ?_) | ((with_reducible refine zK ?_); refine ya tbOk rfl rfl rfl rfl ?_) | ((with_reducible refine zL ?_); refine zN tbOk rfl rfl rfl rfl rfl ?_) | ((with_reducible refine zL ?_); refine za tbOk rfl rfl rfl ?_) | ((with_reducible refine zL ?_); refine yT tbOk rfl rfl (Nat.le_of_ble_eq_true rfl) ?_) | ((with_reducible refine zd ?_); refine zf tbOk rfl rfl rfl rfl rfl rfl rfl (Nat.le_of_ble_eq_true rfl) rfl ?_) | ((with_reducible refine yA ?_); refine yB tbOk rfl rfl ?_) | ((with_reducible refine zT ?_); refine zZ tbOk rfl rfl rfl rfl (by assumption) ?_) | ((with_reducible refine zT ?_); refine jL tbOk rfl rfl rfl rfl (by omega) (by assumption) ?_) | ((with_reducible refine zM ?_); refine zV rfl rfl rfl ?_)  | refine zJ ?_ | refine zB rfl ?_ | with_reducible refine zC ?_ | with_reducible refine zF ?_ | with_reducible refine zY ?_ | with_reducible refine zR ?_ | ((with_reducible refine zA ?_ ?_); kernel_rfl) | ((with_reducible refine yx mixd ?_ ?_); kernel_rfl) | refine zg rfl (by first | rfl | assumption) ?_ | refine zp rfl (by first | rfl | assumption) ?_)
        ((with_reducible refine zM ?_); refine yb rfl rfl (by simp only [ByteArray.size_append, ja, List.size_toArray, List.length_cons, List.length_nil]; omega) ?_)
        repeat (first   | refine zB rfl ?_  )
        ((with_reducible refine zM ?_); refine yb rfl rfl (by simp only [ByteArray.size_append, ja, List.size_toArray, List.length_cons, List.length_nil]; omega) ?_)
        repeat (first | ((with_reducible refine zK ?_); refine zG tbOk rfl rfl rfl rfl ?_) | ((with_reducible refine zL ?_); refine zN tbOk rfl rfl rfl rfl rfl ?_)  | refine zB rfl ?_  )
        refine zo (side_A p (hp (.inl rfl))) (by repeat' (first | exact trivial | exact Ren.v _ | exact Ren.sl _ _ | exact Ren.ep _ | exact Ren.ptr _ _ _ _ rfl | exact Ren.bs _ _ _ _ _ rfl | exact Ren.nil _ | exact Ren.own _ _ _ _ ⟨_, rfl⟩ | refine zO ?_ | refine zQ ?_ | refine zP ?_ | refine ⟨?_, ?_⟩)) (by repeat' (first | exact trivial | exact RenB.v _ | exact RenB.sl _ _ | exact RenB.ep _ | exact RenB.ptr _ _ _ _ rfl | refine zW ?_ | refine zX ?_ | refine ⟨?_, ?_⟩)) ?_
        repeat (first   | refine zB rfl ?_  )
        ((with_reducible refine zM ?_); refine yb rfl rfl (by simp only [ByteArray.size_append, ja, List.size_toArray, List.length_cons, List.length_nil]; omega) ?_)
        repeat (first   | refine zB rfl ?_  )
        ((with_reducible refine zM ?_); refine yb rfl rfl (by simp only [ByteArray.size_append, ja, List.size_toArray, List.length_cons, List.length_nil]; omega) ?_)
        repeat (first | ((with_reducible refine zK ?_); refine zG tbOk rfl rfl rfl rfl ?_) | ((with_reducible refine zL ?_); refine zN tbOk rfl rfl rfl rfl rfl ?_)  | refine zB rfl ?_  )
        refine zo (rtext_A y (by omega) (by omega)) (by repeat' (first | exact trivial | exact Ren.v _ | exact Ren.sl _ _ | exact Ren.ep _ | exact Ren.ptr _ _ _ _ rfl | exact Ren.bs _ _ _ _ _ rfl | exact Ren.nil _ | exact Ren.own _ _ _ _ ⟨_, rfl⟩ | refine zO ?_ | refine zQ ?_ | refine zP ?_ | refine ⟨?_, ?_⟩)) (by repeat' (first | exact trivial | exact RenB.v _ | exact RenB.sl _ _ | exact RenB.ep _ | exact RenB.ptr _ _ _ _ rfl | refine zW ?_ | refine zX ?_ | refine ⟨?_, ?_⟩)) ?_
        repeat (first   | refine zB rfl ?_  )
        ((with_reducible refine zM ?_); refine yb rfl rfl (by simp only [ByteArray.size_append, ja, List.size_toArray, List.length_cons, List.length_nil]; omega) ?_)
        repeat (first   | refine zB rfl ?_  )
        ((with_reducible refine zM ?_); refine yb rfl rfl (by simp only [ByteArray.size_append, ja, List.size_toArray, List.length_cons, List.length_nil]; omega) ?_)
        repeat (first | ((with_reducible refine zI ?_); refine zH rfl ?_) | ((with_reducible refine zE ?_); refine zD rfl ?_)  | refine jM (by kernel_rfl) ?_ | refine zB rfl ?_ | with_reducible refine zC ?_ | with_reducible refine zk ?_ | ((with_reducible refine zA ?_ ?_); kernel_rfl))
        ((with_reducible refine zM ?_); refine yb rfl rfl (by simp only [ByteArray.size_append, ja, List.size_toArray, List.length_cons, List.length_nil]; omega) ?_)
        repeat (first | ((with_reducible refine zI ?_); refine zH rfl ?_) | ((with_reducible refine zE ?_); refine zD rfl ?_) | ((with_reducible refine zM ?_); refine ze rfl rfl (by omega) ?_)  | refine zJ ?_ | refine zB rfl ?_ | with_reducible refine zC ?_ | with_reducible refine zk ?_ | ((with_reducible refine zA ?_ ?_); kernel_rfl))
        exact ⟨k + 1, by omega, by omega, ⟨rfl, rfl, congrArg (fun z => AV.v (.string z)) (qy (by rw [ym, qg hs]; unfold lnP; rw [show qV N V ⟨3, d, n, p, y⟩ = [lockL, devN V d, posW p, keyL, Lib.itoa y] from rfl, ex, ← hSl]; simp [jm, jx, strL, txtP, lockL, keyL])), rfl, trivial⟩, ⟨rfl, rfl, trivial⟩⟩
      · obtain ⟨x, hx, ex⟩ := devN_at (hd (by decide))
        have hz := dv_at' hx
        have hxs := qz ((net_names hok.net).1 x (List.mem_of_getElem? hx))
        have hd0 := hd (by decide)
        have hty := txt_sz (hy1 (.inr rfl)).1 (hy1 (.inr rfl)).2
        have hy0 := hy1 (.inr rfl)
        repeat (first | ((with_reducible refine zI ?_); refine zH rfl ?_) | ((with_reducible refine zE ?_); refine zD rfl ?_) | ((with_reducible refine zK ?_); refine zG tbOk rfl rfl rfl rfl ?_) | ((with_reducible refine zK ?_); refine ya tbOk rfl rfl rfl rfl ?_) | ((with_reducible refine zL ?_); refine zN tbOk rfl rfl rfl rfl rfl ?_) | ((with_reducible refine zL ?_); refine za tbOk rfl rfl rfl ?_) | ((with_reducible refine zL ?_); refine yT tbOk rfl rfl (Nat.le_of_ble_eq_true rfl) ?_) | ((with_reducible refine zd ?_); refine zf tbOk rfl rfl rfl rfl rfl rfl rfl (Nat.le_of_ble_eq_true rfl) rfl ?_) | ((with_reducible refine yA ?_); refine yB tbOk rfl rfl ?_) | ((with_reducible refine zT ?_); refine zZ tbOk rfl rfl rfl rfl (by assumption) ?_) | ((with_reducible refine zT ?_); refine jL tbOk rfl rfl rfl rfl (by omega) (by assumption) ?_) | ((with_reducible refine zM ?_); refine zV rfl rfl rfl ?_)  | refine zJ ?_ | refine zB rfl ?_ | with_reducible refine zC ?_ | with_reducible refine zF ?_ | with_reducible refine zY ?_ | with_reducible refine zR ?_ | ((with_reducible refine zA ?_ ?_); kernel_rfl) | ((with_reducible refine yx mixd ?_ ?_); kernel_rfl) | refine zg rfl (by first | rfl | assumption) ?_ | refine zp rfl (by first | rfl | assumption) ?_)
        ((with_reducible refine zM ?_); refine yb rfl rfl (by simp only [ByteArray.size_append, ja, List.size_toArray, List.length_cons, List.length_nil]; omega) ?_)
        repeat (first   | refine zB rfl ?_  )
        ((with_reducible refine zM ?_); refine yb rfl rfl (by simp only [ByteArray.size_append, ja, List.size_toArray, List.length_cons, List.length_nil]; omega) ?_)
        repeat (first | ((with_reducible refine zK ?_); refine zG tbOk rfl rfl rfl rfl ?_) | ((with_reducible refine zL ?_); refine zN tbOk rfl rfl rfl rfl rfl ?_)  | refine zB rfl ?_  )
        refine zo (rtext_A y (by omega) (by omega)) (by repeat' (first | exact trivial | exact Ren.v _ | exact Ren.sl _ _ | exact Ren.ep _ | exact Ren.ptr _ _ _ _ rfl | exact Ren.bs _ _ _ _ _ rfl | exact Ren.nil _ | exact Ren.own _ _ _ _ ⟨_, rfl⟩ | refine zO ?_ | refine zQ ?_ | refine zP ?_ | refine ⟨?_, ?_⟩)) (by repeat' (first | exact trivial | exact RenB.v _ | exact RenB.sl _ _ | exact RenB.ep _ | exact RenB.ptr _ _ _ _ rfl | refine zW ?_ | refine zX ?_ | refine ⟨?_, ?_⟩)) ?_
        repeat (first   | refine zB rfl ?_  )
        ((with_reducible refine zM ?_); refine yb rfl rfl (by simp only [ByteArray.size_append, ja, List.size_toArray, List.length_cons, List.length_nil]; omega) ?_)
        repeat (first   | refine zB rfl ?_  )
        ((with_reducible refine zM ?_); refine yb rfl rfl (by simp only [ByteArray.size_append, ja, List.size_toArray, List.length_cons, List.length_nil]; omega) ?_)
        repeat (first | ((with_reducible refine zI ?_); refine zH rfl ?_) | ((with_reducible refine zE ?_); refine zD rfl ?_)  | refine jM (by kernel_rfl) ?_ | refine zB rfl ?_ | with_reducible refine zC ?_ | with_reducible refine zk ?_ | ((with_reducible refine zA ?_ ?_); kernel_rfl))
        ((with_reducible refine zM ?_); refine yb rfl rfl (by simp only [ByteArray.size_append, ja, List.size_toArray, List.length_cons, List.length_nil]; omega) ?_)
        repeat (first | ((with_reducible refine zI ?_); refine zH rfl ?_) | ((with_reducible refine zE ?_); refine zD rfl ?_) | ((with_reducible refine zM ?_); refine ze rfl rfl (by omega) ?_)  | refine zJ ?_ | refine zB rfl ?_ | with_reducible refine zC ?_ | with_reducible refine zk ?_ | ((with_reducible refine zA ?_ ?_); kernel_rfl))
        exact ⟨k + 1, by omega, by omega, ⟨rfl, rfl, congrArg (fun z => AV.v (.string z)) (qy (by rw [ym, qg hs]; unfold lnP; rw [show qV N V ⟨4, d, n, p, y⟩ = [js, devN V d, keyL, Lib.itoa y] from rfl, ex, ← hSl]; simp [jm, jx, strL, txtP, js, keyL])), rfl, trivial⟩, ⟨rfl, rfl, trivial⟩⟩
      · obtain ⟨x, hx, ex⟩ := nodN_at (hn rfl)
        have hz := nd_at' hx
        have hxs := qz ((net_nodes hok.net).1 x (List.mem_of_getElem? hx))
        have hd0 := hn rfl
        repeat (first | ((with_reducible refine zI ?_); refine zH rfl ?_) | ((with_reducible refine zE ?_); refine zD rfl ?_) | ((with_reducible refine zK ?_); refine zG tbOk rfl rfl rfl rfl ?_) | ((with_reducible refine zK ?_); refine ya tbOk rfl rfl rfl rfl ?_) | ((with_reducible refine zL ?_); refine zN tbOk rfl rfl rfl rfl rfl ?_) | ((with_reducible refine zL ?_); refine za tbOk rfl rfl rfl ?_) | ((with_reducible refine zL ?_); refine yT tbOk rfl rfl (Nat.le_of_ble_eq_true rfl) ?_) | ((with_reducible refine zd ?_); refine zf tbOk rfl rfl rfl rfl rfl rfl rfl (Nat.le_of_ble_eq_true rfl) rfl ?_) | ((with_reducible refine yA ?_); refine yB tbOk rfl rfl ?_) | ((with_reducible refine zT ?_); refine zZ tbOk rfl rfl rfl rfl (by assumption) ?_) | ((with_reducible refine zT ?_); refine jL tbOk rfl rfl rfl rfl (by omega) (by assumption) ?_) | ((with_reducible refine zM ?_); refine zV rfl rfl rfl ?_)  | refine zJ ?_ | refine zB rfl ?_ | with_reducible refine zC ?_ | with_reducible refine zF ?_ | with_reducible refine zY ?_ | with_reducible refine zR ?_ | ((with_reducible refine zA ?_ ?_); kernel_rfl) | refine zg rfl (by first | rfl | assumption) ?_ | refine zp rfl (by first | rfl | assumption) ?_)
        ((with_reducible refine zM ?_); refine yb rfl rfl (by simp only [ByteArray.size_append, ja, List.size_toArray, List.length_cons, List.length_nil]; omega) ?_)
        repeat (first   | refine zB rfl ?_  )
        ((with_reducible refine zM ?_); refine yb rfl rfl (by simp only [ByteArray.size_append, ja, List.size_toArray, List.length_cons, List.length_nil]; omega) ?_)
        repeat (first | ((with_reducible refine zI ?_); refine zH rfl ?_) | ((with_reducible refine zE ?_); refine zD rfl ?_)  | refine zJ ?_ | refine zB rfl ?_ | with_reducible refine zC ?_ | with_reducible refine zk ?_ | ((with_reducible refine zA ?_ ?_); kernel_rfl))
        ((with_reducible refine zM ?_); refine yb rfl rfl (by simp only [ByteArray.size_append, ja, List.size_toArray, List.length_cons, List.length_nil]; omega) ?_)
        repeat (first | ((with_reducible refine zI ?_); refine zH rfl ?_) | ((with_reducible refine zE ?_); refine zD rfl ?_) | ((with_reducible refine zM ?_); refine ze rfl rfl (by omega) ?_)  | refine zJ ?_ | refine zB rfl ?_ | with_reducible refine zC ?_ | with_reducible refine zk ?_ | ((with_reducible refine zA ?_ ?_); kernel_rfl))
        exact ⟨k + 1, by omega, by omega, ⟨rfl, rfl, congrArg (fun z => AV.v (.string z)) (qy (by rw [ym, qg hs]; unfold lnP; rw [show qV N V ⟨5, d, n, p, y⟩ = [qm, nodN N n] from rfl, ex, ← hSl]; simp [jm, jx, strL, txtP, qm])), rfl, trivial⟩, ⟨rfl, rfl, trivial⟩⟩
      · obtain ⟨x, hx, ex⟩ := devN_at (hd (by decide))
        have hz := dv_at' hx
        have hxs := qz ((net_names hok.net).1 x (List.mem_of_getElem? hx))
        have hd0 := hd (by decide)
        have hps := pos_sz p
        repeat (first | ((with_reducible refine zI ?_); refine zH rfl ?_) | ((with_reducible refine zE ?_); refine zD rfl ?_) | ((with_reducible refine zK ?_); refine zG tbOk rfl rfl rfl rfl ?_) | ((with_reducible refine zK ?_); refine ya tbOk rfl rfl rfl rfl ?_) | ((with_reducible refine zL ?_); refine zN tbOk rfl rfl rfl rfl rfl ?_) | ((with_reducible refine zL ?_); refine za tbOk rfl rfl rfl ?_) | ((with_reducible refine zL ?_); refine yT tbOk rfl rfl (Nat.le_of_ble_eq_true rfl) ?_) | ((with_reducible refine zd ?_); refine zf tbOk rfl rfl rfl rfl rfl rfl rfl (Nat.le_of_ble_eq_true rfl) rfl ?_) | ((with_reducible refine yA ?_); refine yB tbOk rfl rfl ?_) | ((with_reducible refine zT ?_); refine zZ tbOk rfl rfl rfl rfl (by assumption) ?_) | ((with_reducible refine zT ?_); refine jL tbOk rfl rfl rfl rfl (by omega) (by assumption) ?_) | ((with_reducible refine zM ?_); refine zV rfl rfl rfl ?_)  | refine zJ ?_ | refine zB rfl ?_ | with_reducible refine zC ?_ | with_reducible refine zF ?_ | with_reducible refine zY ?_ | with_reducible refine zR ?_ | ((with_reducible refine zA ?_ ?_); kernel_rfl) | ((with_reducible refine yx mixd ?_ ?_); kernel_rfl) | refine zp rfl (by first | rfl | assumption) ?_)
        ((with_reducible refine zM ?_); refine yb rfl rfl (by simp only [ByteArray.size_append, ja, List.size_toArray, List.length_cons, List.length_nil]; omega) ?_)
        repeat (first   | refine zB rfl ?_  )
        ((with_reducible refine zM ?_); refine yb rfl rfl (by simp only [ByteArray.size_append, ja, List.size_toArray, List.length_cons, List.length_nil]; omega) ?_)
        repeat (first | ((with_reducible refine zK ?_); refine zG tbOk rfl rfl rfl rfl ?_) | ((with_reducible refine zL ?_); refine zN tbOk rfl rfl rfl rfl rfl ?_)  | refine zB rfl ?_  )
        refine zo (side_A p (hp (.inr rfl))) (by repeat' (first | exact trivial | exact Ren.v _ | exact Ren.sl _ _ | exact Ren.ep _ | exact Ren.ptr _ _ _ _ rfl | exact Ren.bs _ _ _ _ _ rfl | exact Ren.nil _ | exact Ren.own _ _ _ _ ⟨_, rfl⟩ | refine zO ?_ | refine zQ ?_ | refine zP ?_ | refine ⟨?_, ?_⟩)) (by repeat' (first | exact trivial | exact RenB.v _ | exact RenB.sl _ _ | exact RenB.ep _ | exact RenB.ptr _ _ _ _ rfl | refine zW ?_ | refine zX ?_ | refine ⟨?_, ?_⟩)) ?_
        repeat (first   | refine zB rfl ?_  )
        ((with_reducible refine zM ?_); refine yb rfl rfl (by simp only [ByteArray.size_append, ja, List.size_toArray, List.length_cons, List.length_nil]; omega) ?_)
        repeat (first   | refine zB rfl ?_  )
        ((with_reducible refine zM ?_); refine yb rfl rfl (by simp only [ByteArray.size_append, ja, List.size_toArray, List.length_cons, List.length_nil]; omega) ?_)
        repeat (first | ((with_reducible refine zI ?_); refine zH rfl ?_) | ((with_reducible refine zE ?_); refine zD rfl ?_)  | refine jM (by kernel_rfl) ?_ | refine zB rfl ?_ | with_reducible refine zC ?_ | with_reducible refine zk ?_ | ((with_reducible refine zA ?_ ?_); kernel_rfl))
        ((with_reducible refine zM ?_); refine yb rfl rfl (by simp only [ByteArray.size_append, ja, List.size_toArray, List.length_cons, List.length_nil]; omega) ?_)
        repeat (first | ((with_reducible refine zI ?_); refine zH rfl ?_) | ((with_reducible refine zE ?_); refine zD rfl ?_) | ((with_reducible refine zM ?_); refine ze rfl rfl (by omega) ?_)  | refine zJ ?_ | refine zB rfl ?_ | with_reducible refine zC ?_ | with_reducible refine zk ?_ | ((with_reducible refine zA ?_ ?_); kernel_rfl))
        exact ⟨k + 1, by omega, by omega, ⟨rfl, rfl, congrArg (fun z => AV.v (.string z)) (qy (by rw [ym, qg hs]; unfold lnP; rw [show qV N V ⟨6, d, n, p, y⟩ = [qN, devN V d, posW p] from rfl, ex, ← hSl]; simp [jm, jx, strL, txtP, qN])), rfl, trivial⟩, ⟨rfl, rfl, trivial⟩⟩
    · have hge : k = P.st.length := by simp at h; omega
      rw [hge, preP_all]
      repeat (first | ((with_reducible refine zI ?_); refine zH rfl ?_) | ((with_reducible refine zE ?_); refine zD rfl ?_)  | refine zJ ?_ | refine zB rfl ?_ | with_reducible refine zC ?_ | with_reducible refine zw ?_ | with_reducible refine zF ?_ | with_reducible refine yJ ?_ | with_reducible refine zU ?_ | ((with_reducible refine zr ?_ ?_); rfl) | ((with_reducible refine zA ?_ ?_); kernel_rfl))
      refine jI (by first | exact .inr rfl | exact .inl rfl) rfl rfl rfl ?_
      repeat' (first | exact trivial | exact Ren.v _ | exact Ren.sl _ _ | exact Ren.ep _ | exact Ren.ptr _ _ _ _ rfl | exact Ren.bs _ _ _ _ _ rfl | exact Ren.nil _ | exact Ren.own _ _ _ _ ⟨_, rfl⟩ | refine zO ?_ | refine zQ ?_ | refine zP ?_ | refine ⟨?_, ?_⟩)
  · rw [if_pos h0]
    have hck := prcheck_A N V P hG ok hc hl
    refine zj tbOk (zn Tryz.func11 (by kernel_rfl) rfl) Tryz.func11 rfl _ Tryz.ntmps11 (Nat.le_of_ble_eq_true rfl) fun X hX => ?_
    subst hX
    repeat (first | ((with_reducible refine zE ?_); refine zD rfl ?_) | ((with_reducible refine zL ?_); refine zc tbOk rfl rfl rfl rfl (Nat.le_of_ble_eq_true rfl) ?_) | ((with_reducible refine yj ?_); refine yi rfl rfl rfl ?_)  | refine zJ ?_ | refine zB rfl ?_ | with_reducible refine zC ?_ | with_reducible refine zF ?_ | ((with_reducible refine zA ?_ ?_); kernel_rfl))
    refine zo (hck) (by repeat' (first | exact trivial | exact Ren.v _ | exact Ren.sl _ _ | exact Ren.ep _ | exact Ren.ptr _ _ _ _ rfl | exact Ren.bs _ _ _ _ _ rfl | exact Ren.nil _ | exact Ren.own _ _ _ _ ⟨_, rfl⟩ | refine zO ?_ | refine zQ ?_ | refine zP ?_ | refine ⟨?_, ?_⟩)) (by repeat' (first | exact trivial | exact RenB.v _ | exact RenB.sl _ _ | exact RenB.ep _ | exact RenB.ptr _ _ _ _ rfl | refine zW ?_ | refine zX ?_ | refine ⟨?_, ?_⟩)) ?_
    repeat (first | ((with_reducible refine zE ?_); refine zD rfl ?_) | refine zJ ?_ | refine zB rfl ?_ | with_reducible refine zC ?_ | with_reducible refine zF ?_)
    (with_reducible refine zA ?_ ?_); kernel_rfl
    repeat (first | ((with_reducible refine zI ?_); refine zH rfl ?_) | ((with_reducible refine zM ?_); refine zV rfl rfl rfl ?_) | refine zJ ?_ | refine zB rfl ?_ | with_reducible refine zC ?_)
    refine zg rfl (by simpa using h0) ?_
    repeat (first | ((with_reducible refine zI ?_); refine zH rfl ?_) | ((with_reducible refine zE ?_); refine zD rfl ?_)  | refine zJ ?_ | refine zB rfl ?_ | with_reducible refine zC ?_ | with_reducible refine zS ?_ | with_reducible refine zF ?_ | with_reducible refine zU ?_ | ((with_reducible refine zA ?_ ?_); kernel_rfl))
    refine jI (by first | exact .inr rfl | exact .inl rfl) rfl rfl rfl ?_
    repeat' (first | exact trivial | exact Ren.v _ | exact Ren.sl _ _ | exact Ren.ep _ | exact Ren.ptr _ _ _ _ rfl | exact Ren.bs _ _ _ _ _ rfl | exact Ren.nil _ | exact Ren.own _ _ _ _ ⟨_, rfl⟩ | refine zO ?_ | refine zQ ?_ | refine zP ?_ | refine ⟨?_, ?_⟩)
end Go.Proofs.YtggngllfnboehaaGreatDoor
