/- permitofficelaw26.DocumentApart, by the abstract machine: it answers true for all lists; conditions: the tables of classes and powers and a cell of the library stand. -/
import Derived.Test.YtjamibeffalhaaaGreatDoorDeA
import Derived.Test.YtjamibeffalhaaaGreatDoorTxB
import Derived.Test.YtjamibeffalhaaaGreatDoorAbsM
set_option linter.unusedVariables false
set_option linter.unusedSimpArgs false
namespace Go.Proofs.YtjamibeffalhaaaGreatDoor
open Go Go.RowKit
set_option maxRecDepth 10000
variable {G : Nat → Option (List Value)}
theorem iv_one (L : List Int) : ∀ x ∈ L.map iv, jJ x.cells = true := by
  intro x hx
  obtain ⟨r, _, rfl⟩ := List.mem_map.1 hx
  rfl
theorem ce_cells (d : Dc) (x : Int) : Dc.cells ⟨d.num, d.kind, d.st, d.rd, d.zone, d.safe, d.lk, d.iss, d.hol, d.f, d.u, d.ce ++ [x]⟩ = [.v (.int .i64 d.num), .v (.int .i64 d.kind), .v (.int .i64 d.st), .v (.int .i64 d.rd), .sl 1 (d.zone.map iv), .v (.int .i64 d.safe), .sl 3 (d.lk.map Lk.av), .v (.string d.iss), .v (.string d.hol), .v (.int .i64 d.f), .v (.int .i64 d.u), .sl 1 (d.ce.map iv ++ [.v (.int .i64 x)])] := by simp [Dc.cells, iv]
theorem print_cl (N : List Nd) (V : List Dv) (d : Dc) : (docE N V d ≠ 0 ∧ (jq N V d).2 ≠ 0) ∨ (DcOk N V d ∧ jq N V d = (strL (yd (yx N V d)), 0)) := by
  unfold jq
  by_cases h : docE N V d ≠ 0
  · rw [if_pos h]; exact .inl ⟨h, h⟩
  · rw [if_neg h]; exact .inr ⟨docE_iff.1 (by simpa using h), rfl⟩
theorem strL_inj {a b : List UInt8} : strL a = strL b ↔ a = b := ⟨fun h => by rw [← yc a, h, yc], fun h => by rw [h]⟩
set_option maxRecDepth 100000 in
set_option maxHeartbeats 16000000 in
theorem apart_law (l : List Int) (hG : GCls G) (hP : GPow G) (hM : GMax G) : zy Tryz.prog G 5 [.sl 1 (l.map iv)] [] (.v (.bool true)) [] := by
  refine zf tbOk (zg Tryz.func5 (by kernel_rfl) rfl) Tryz.func5 rfl _ Tryz.ntmps5 (Nat.le_of_ble_eq_true rfl) fun X hX => ?_
  subst hX
  repeat (first | ((with_reducible refine zD ?_); refine zC rfl ?_)  | refine zH ?_ | refine zB rfl ?_ | with_reducible refine zE ?_ | with_reducible refine zF ?_ | ((with_reducible refine zA ?_ ?_); kernel_rfl))
  refine zj (awake_A hG hP hM) (by repeat' (first | exact trivial | exact Ren.v _ | exact Ren.sl _ _ | exact Ren.ep _ | exact Ren.ptr _ _ _ _ rfl | exact Ren.bs _ _ _ _ _ rfl | exact Ren.nil _ | exact Ren.own _ _ _ _ ⟨_, rfl⟩ | refine zP ?_ | refine zQ ?_ | refine zR ?_ | refine ⟨?_, ?_⟩)) (by repeat' (first | exact trivial | exact RenB.v _ | exact RenB.sl _ _ | exact RenB.ep _ | exact RenB.ptr _ _ _ _ rfl | refine zW ?_ | refine zV ?_ | refine ⟨?_, ?_⟩)) ?_
  repeat (first | ((with_reducible refine zJ ?_); refine zI rfl ?_) | ((with_reducible refine k_un ?_); refine jC rfl ?_)  | refine zB rfl ?_ | refine zz rfl rfl (by first | rfl | assumption) ?_  )
  refine zj (few_A (l.map iv)) (by repeat' (first | exact trivial | exact Ren.v _ | exact Ren.sl _ _ | exact Ren.ep _ | exact Ren.ptr _ _ _ _ rfl | exact Ren.bs _ _ _ _ _ rfl | exact Ren.nil _ | exact Ren.own _ _ _ _ ⟨_, rfl⟩ | refine zP ?_ | refine zQ ?_ | refine zR ?_ | refine ⟨?_, ?_⟩)) (by repeat' (first | exact trivial | exact RenB.v _ | exact RenB.sl _ _ | exact RenB.ep _ | exact RenB.ptr _ _ _ _ rfl | refine zW ?_ | refine zV ?_ | refine ⟨?_, ?_⟩)) ?_
  repeat (first | ((with_reducible refine k_un ?_); refine jC rfl ?_) | ((with_reducible refine za ?_); refine zn rfl (by first | rfl | assumption) rfl ?_)  | refine zH ?_ | refine zB rfl ?_ | refine zz rfl rfl (by first | rfl | assumption) ?_ | with_reducible refine zE ?_ )
  refine zZ rfl (fun h => ?_) (fun h => ?_)
  · repeat (first   | refine zB rfl ?_ | with_reducible refine zF ?_ | ((with_reducible refine zA ?_ ?_); kernel_rfl))
    refine zj (awake_A hG hP hM) (by repeat' (first | exact trivial | exact Ren.v _ | exact Ren.sl _ _ | exact Ren.ep _ | exact Ren.ptr _ _ _ _ rfl | exact Ren.bs _ _ _ _ _ rfl | exact Ren.nil _ | exact Ren.own _ _ _ _ ⟨_, rfl⟩ | refine zP ?_ | refine zQ ?_ | refine zR ?_ | refine ⟨?_, ?_⟩)) (by repeat' (first | exact trivial | exact RenB.v _ | exact RenB.sl _ _ | exact RenB.ep _ | exact RenB.ptr _ _ _ _ rfl | refine zW ?_ | refine zV ?_ | refine ⟨?_, ?_⟩)) ?_
    repeat (first | ((with_reducible refine zD ?_); refine zC rfl ?_)  | refine zH ?_ | refine zB rfl ?_ | with_reducible refine zE ?_ | with_reducible refine zM ?_ | with_reducible refine zL ?_ )
    refine zk (by first | exact .inr rfl | exact .inl rfl) rfl rfl ?_
    rfl
  have h400 : l.length ≤ 400 := by simp at h; omega
  have hD := DkOk.new h400
  have ok := tie_ok (dk0 l)
  obtain ⟨v1, v64⟩ := tie_vlen (dk0 l)
  have hnl := tie_nlen (dk0 l)
  have hT := tie_A (G := X.G) (dk0 l) hD
  have hTd := tieD_ok hD
  have hdc := fun D (hD : DkOk D) => fdoc_A (G := X.G) (qc (dk0 l)) (jU (dk0 l)) D hD ok (by omega) (by omega) v1 v64
  have hdf := fun D (hD : DkOk D) => docD_few (qc (dk0 l)) (jU (dk0 l)) hD
  have hnet := tie_net (dk0 l)
  obtain ⟨N, hN⟩ : ∃ N, N = qc (dk0 l) := ⟨_, rfl⟩
  obtain ⟨V, hV⟩ : ∃ V, V = jU (dk0 l) := ⟨_, rfl⟩
  obtain ⟨S, hS⟩ : ∃ S, S = tieSs (dk0 l) := ⟨_, rfl⟩
  obtain ⟨D0, hD0⟩ : ∃ D0, D0 = tieD (dk0 l) := ⟨_, rfl⟩
  rw [← hN, ← hV, ← hS, ← hD0] at hT
  rw [← hN, ← hV] at ok hnet
  rw [← hV] at v1 v64
  rw [← hN] at hnl
  rw [← hD0] at hTd
  simp only [← hN, ← hV] at hdc hdf
  clear hN hV hS hD0
  have hdoc := hdc D0 hTd
  obtain ⟨hE, hf⟩ := hdf D0 hTd
  clear hdc hdf
  generalize docD N V D0 = Q at hdoc hE hf
  obtain ⟨d, E⟩ := Q
  dsimp only at hdoc hE hf
  have hpr := print_A (G := X.G) N V d hG hP ok hf.sz
  have hpc := print_cl N V d
  obtain ⟨⟨P, pe⟩, hPp⟩ : ∃ q, q = jq N V d := ⟨_, rfl⟩
  rw [← hPp] at hpr hpc
  dsimp only at hpr hpc
  have hn6 := yi (G := X.G) E 6 hE (by omega) (by omega)
  have r6 := E.in_ (n := 6) (by omega) (by omega)
  have hE1 := hE.next
  obtain ⟨q, hq⟩ : ∃ q, q = E.val 6 := ⟨_, rfl⟩
  rw [← hq] at hn6 r6
  obtain ⟨F, hF⟩ : ∃ F, F = E.next := ⟨_, rfl⟩
  rw [← hF] at hn6 hE1
  have hlk := locksN_A (G := X.G) 3 (by omega) F N V hE1 ok.n ok.v ok.l1 v1 v64
  have hll := (locksP_ok (N := N) (V := V) (S := []) 3 0 F [] ⟨by simp, List.Pairwise.nil⟩).2
  have hld := locksGo_dk N V [] 3 0 F [] hE1
  obtain ⟨⟨H, K⟩, hHK⟩ : ∃ q, q = jL N V [] 3 0 F [] := ⟨_, rfl⟩
  rw [show ((3 : Nat) : Int) = 3 from rfl] at hlk
  rw [← hHK] at hlk hll hld
  dsimp only at hlk hll hld
  clear hF hq hHK hPp hE
  have e16 : (16 : Nat) ≤ maxLen := by decide
  have kz := hf.z
  have kl := hf.l
  have ki := hf.i
  have kh := hf.h
  have kc := hf.c
  have kr := hf.r
  have ks := hf.s
  have kf := hf.f
  have t5 : 0 ≤ d.st.tmod 5 ∧ d.st.tmod 5 < 5 := ⟨Int.tmod_nonneg 5 ks.1, Int.tmod_lt_of_pos _ (by omega)⟩
  have t4 : 0 ≤ d.safe.tmod 4 ∧ d.safe.tmod 4 < 4 := ⟨Int.tmod_nonneg 4 kf.1, Int.tmod_lt_of_pos _ (by omega)⟩
  have hho : d.hol.size + (⟨#[120]⟩ : ByteArray).size ≤ 140737488355328 := by show _ + 1 ≤ _; omega
  repeat (first | ((with_reducible refine zJ ?_); refine zI rfl ?_)  | refine zB rfl ?_ | with_reducible refine zE ?_ | with_reducible refine zF ?_ | with_reducible refine zU ?_ | ((with_reducible refine zA ?_ ?_); kernel_rfl))
  refine x_call_new (new_A l) (by repeat' (first | exact trivial | exact Ren.v _ | exact Ren.sl _ _ | exact Ren.ep _ | exact Ren.ptr _ _ _ _ rfl | exact Ren.bs _ _ _ _ _ rfl | exact Ren.nil _ | exact Ren.own _ _ _ _ ⟨_, rfl⟩ | refine zP ?_ | refine zQ ?_ | refine zR ?_ | refine ⟨?_, ?_⟩)) (by repeat' (first | exact trivial | exact RenB.v _ | exact RenB.sl _ _ | exact RenB.ep _ | exact RenB.ptr _ _ _ _ rfl | refine zW ?_ | refine zV ?_ | refine ⟨?_, ?_⟩)) rfl ?_
  repeat (first | ((with_reducible refine zJ ?_); refine zI rfl ?_) | ((with_reducible refine zD ?_); refine zC rfl ?_)  | refine zH ?_ | refine zB rfl ?_ | with_reducible refine zE ?_ | with_reducible refine zF ?_ | ((with_reducible refine zA ?_ ?_); kernel_rfl))
  refine yE (y := .tu [qH N V, .sl 1 (S.map iv)]) (ss := [(21, 1)]) (hT) (by repeat' (first | exact trivial | exact Ren.v _ | exact Ren.sl _ _ | exact Ren.ep _ | exact Ren.ptr _ _ _ _ rfl | exact Ren.bs _ _ _ _ _ rfl | exact Ren.nil _ | exact Ren.own _ _ _ _ ⟨_, rfl⟩ | refine zP ?_ | refine zQ ?_ | refine zR ?_ | refine ⟨?_, ?_⟩)) (by simp) (in1 rfl rfl) rfl (yL rfl) (by repeat' (first | exact trivial | exact RenB.v _ | exact RenB.sl _ _ | exact RenB.ep _ | exact RenB.ptr _ _ _ _ rfl | refine zW ?_ | refine zV ?_ | refine ⟨?_, ?_⟩)) ?_
  repeat (first | ((with_reducible refine zJ ?_); refine zI rfl ?_) | ((with_reducible refine zD ?_); refine zC rfl ?_) | ((with_reducible refine zO ?_); refine zi tbOk rfl rfl rfl rfl (Nat.le_of_ble_eq_true rfl) ?_) | ((with_reducible refine zu ?_); refine zx tbOk rfl rfl rfl rfl rfl rfl rfl (Nat.le_of_ble_eq_true rfl) rfl ?_) | ((with_reducible refine yb ?_); refine ya tbOk rfl rfl ?_) | ((with_reducible refine yr ?_); refine yq rfl rfl ?_)  | refine zH ?_ | refine zB rfl ?_ | with_reducible refine zE ?_ | with_reducible refine zF ?_ | ((with_reducible refine zA ?_ ?_); kernel_rfl))
  refine yE (y := d.av) (ss := [(21, 1)]) (hdoc) (by repeat' (first | exact trivial | exact Ren.v _ | exact Ren.sl _ _ | exact Ren.ep _ | exact Ren.ptr _ _ _ _ rfl | exact Ren.bs _ _ _ _ _ rfl | exact Ren.nil _ | exact Ren.own _ _ _ _ ⟨_, rfl⟩ | refine zP ?_ | refine zQ ?_ | refine zR ?_ | refine ⟨?_, ?_⟩)) (by simp) (in1 rfl rfl) rfl (yL rfl) (by repeat' (first | exact trivial | exact RenB.v _ | exact RenB.sl _ _ | exact RenB.ep _ | exact RenB.ptr _ _ _ _ rfl | refine zW ?_ | refine zV ?_ | refine ⟨?_, ?_⟩)) ?_
  repeat (first | ((with_reducible refine zJ ?_); refine zI rfl ?_) | ((with_reducible refine zO ?_); refine zi tbOk rfl rfl rfl rfl (Nat.le_of_ble_eq_true rfl) ?_) | ((with_reducible refine zu ?_); refine zx tbOk rfl rfl rfl rfl rfl rfl rfl (Nat.le_of_ble_eq_true rfl) rfl ?_) | ((with_reducible refine yb ?_); refine ya tbOk rfl rfl ?_)  | refine zH ?_ | refine zB rfl ?_ | with_reducible refine zE ?_ | with_reducible refine zF ?_ | ((with_reducible refine zA ?_ ?_); kernel_rfl))
  refine yE (ss := [(21, 1)]) (hn6) (by repeat' (first | exact trivial | exact Ren.v _ | exact Ren.sl _ _ | exact Ren.ep _ | exact Ren.ptr _ _ _ _ rfl | exact Ren.bs _ _ _ _ _ rfl | exact Ren.nil _ | exact Ren.own _ _ _ _ ⟨_, rfl⟩ | refine zP ?_ | refine zQ ?_ | refine zR ?_ | refine ⟨?_, ?_⟩)) (by simp) (in1 rfl rfl) rfl (yL rfl) (by repeat' (first | exact trivial | exact RenB.v _ | exact RenB.sl _ _ | exact RenB.ep _ | exact RenB.ptr _ _ _ _ rfl | refine zW ?_ | refine zV ?_ | refine ⟨?_, ?_⟩)) ?_
  repeat (first | ((with_reducible refine zD ?_); refine zC rfl ?_) | ((with_reducible refine zS ?_); refine zT rfl rfl rfl ?_)  | refine zH ?_ | refine zB rfl ?_ | with_reducible refine zE ?_ | with_reducible refine zF ?_ | with_reducible refine zY ?_ | ((with_reducible refine zA ?_ ?_); kernel_rfl))
  refine awp_viaB (ι := Dc × Dk) (fun v i => DcSz i.1 ∧ True) (fun v i => [(3, .ptr 21 (v 21) 0), (4, .ptr 4 (v 4) 0), (6, .ptr 6 (v 6) 0), (7, .ptr 7 (v 7) 0)]) (fun v i => [(21, .box i.2.cells), (4, .box [.sl 3 (N.map Nd.av), .sl 5 (V.map Dv.av)]), (6, .box d.cells), (7, .box i.1.cells)]) ?_ ?_
  · refine zZ rfl (fun h => ?_) (fun h => ?_)
    · repeat (first | ((with_reducible refine zK ?_); refine zG tbOk rfl rfl rfl rfl ?_) | ((with_reducible refine zO ?_); refine zN tbOk rfl rfl rfl rfl rfl ?_) | ((with_reducible refine zu ?_); refine zx tbOk rfl rfl rfl rfl rfl rfl rfl (Nat.le_of_ble_eq_true rfl) rfl ?_) | ((with_reducible refine zS ?_); refine zl rfl rfl (by omega) ?_)  | refine zH ?_ | refine zB rfl ?_ | with_reducible refine zE ?_ | with_reducible refine zq ?_ | ((with_reducible refine zA ?_ ?_); kernel_rfl))
      exact ⟨(⟨d.num, d.kind, d.st, d.rd + 1, d.zone, d.safe, d.lk, d.iss, d.hol, d.f, d.u, d.ce⟩, F), ⟨⟨hf.sz.z, hf.sz.l, hf.sz.i, hf.sz.h, hf.sz.c⟩, trivial⟩, trivial, ⟨rfl, rfl, rfl, rfl, trivial⟩, ⟨rfl, rfl, rfl, rfl, trivial⟩⟩
    repeat (first | ((with_reducible refine zD ?_); refine zC rfl ?_) | ((with_reducible refine zS ?_); refine zT rfl rfl rfl ?_)  | refine zH ?_ | refine zB rfl ?_ | with_reducible refine zE ?_ | with_reducible refine zF ?_ | ((with_reducible refine zA ?_ ?_); kernel_rfl))
    refine zZ rfl (fun h => ?_) (fun h => ?_)
    · repeat (first | ((with_reducible refine zK ?_); refine zG tbOk rfl rfl rfl rfl ?_) | ((with_reducible refine zO ?_); refine zN tbOk rfl rfl rfl rfl rfl ?_) | ((with_reducible refine zu ?_); refine zx tbOk rfl rfl rfl rfl rfl rfl rfl (Nat.le_of_ble_eq_true rfl) rfl ?_) | ((with_reducible refine zS ?_); refine zl rfl rfl (by omega) ?_) | ((with_reducible refine zS ?_); refine x_rem rfl rfl (by first | decide | assumption | omega) ?_)  | refine zH ?_ | refine zB rfl ?_ | with_reducible refine zE ?_ | with_reducible refine zq ?_ | ((with_reducible refine zA ?_ ?_); kernel_rfl))
      exact ⟨(⟨d.num, d.kind, 1 + d.st.tmod 5, d.rd, d.zone, d.safe, d.lk, d.iss, d.hol, d.f, d.u, d.ce⟩, F), ⟨⟨hf.sz.z, hf.sz.l, hf.sz.i, hf.sz.h, hf.sz.c⟩, trivial⟩, trivial, ⟨rfl, rfl, rfl, rfl, trivial⟩, ⟨rfl, rfl, rfl, rfl, trivial⟩⟩
    repeat (first | ((with_reducible refine zD ?_); refine zC rfl ?_) | ((with_reducible refine zS ?_); refine zT rfl rfl rfl ?_)  | refine zH ?_ | refine zB rfl ?_ | with_reducible refine zE ?_ | with_reducible refine zF ?_ | ((with_reducible refine zA ?_ ?_); kernel_rfl))
    refine zZ rfl (fun h => ?_) (fun h => ?_)
    · repeat (first | ((with_reducible refine zK ?_); refine zG tbOk rfl rfl rfl rfl ?_) | ((with_reducible refine zO ?_); refine zN tbOk rfl rfl rfl rfl rfl ?_) | ((with_reducible refine zu ?_); refine zx tbOk rfl rfl rfl rfl rfl rfl rfl (Nat.le_of_ble_eq_true rfl) rfl ?_) | ((with_reducible refine zS ?_); refine zl rfl rfl (by omega) ?_) | ((with_reducible refine zS ?_); refine x_rem rfl rfl (by first | decide | assumption | omega) ?_)  | refine zH ?_ | refine zB rfl ?_ | with_reducible refine zE ?_ | with_reducible refine zq ?_ | ((with_reducible refine zA ?_ ?_); kernel_rfl))
      exact ⟨(⟨d.num, d.kind, d.st, d.rd, d.zone, 1 + d.safe.tmod 4, d.lk, d.iss, d.hol, d.f, d.u, d.ce⟩, F), ⟨⟨hf.sz.z, hf.sz.l, hf.sz.i, hf.sz.h, hf.sz.c⟩, trivial⟩, trivial, ⟨rfl, rfl, rfl, rfl, trivial⟩, ⟨rfl, rfl, rfl, rfl, trivial⟩⟩
    repeat (first | ((with_reducible refine zD ?_); refine zC rfl ?_) | ((with_reducible refine zS ?_); refine zT rfl rfl rfl ?_)  | refine zH ?_ | refine zB rfl ?_ | with_reducible refine zE ?_ | with_reducible refine zF ?_ | ((with_reducible refine zA ?_ ?_); kernel_rfl))
    refine zZ rfl (fun h => ?_) (fun h => ?_)
    · repeat (first | ((with_reducible refine zK ?_); refine zG tbOk rfl rfl rfl rfl ?_) | ((with_reducible refine zO ?_); refine zN tbOk rfl rfl rfl rfl rfl ?_)  | refine zB rfl ?_  | ((with_reducible refine zA ?_ ?_); kernel_rfl))
      with_reducible refine zS ?_
      refine x_add_s rfl rfl (by omega) ?_
      repeat (first | ((with_reducible refine zK ?_); refine zG tbOk rfl rfl rfl rfl ?_) | ((with_reducible refine zu ?_); refine zx tbOk rfl rfl rfl rfl rfl rfl rfl (Nat.le_of_ble_eq_true rfl) rfl ?_)  | refine zH ?_ | refine zB rfl ?_ | with_reducible refine zE ?_ | with_reducible refine zq ?_ )
      exact ⟨(⟨d.num, d.kind, d.st, d.rd, d.zone, d.safe, d.lk, d.iss, d.hol ++ ⟨#[120]⟩, d.f, d.u, d.ce⟩, F), ⟨⟨hf.sz.z, hf.sz.l, hf.sz.i, by show (d.hol ++ ⟨#[120]⟩).size ≤ maxLen; rw [ByteArray.size_append]; show d.hol.size + 1 ≤ _; omega, hf.sz.c⟩, trivial⟩, trivial, ⟨rfl, rfl, rfl, rfl, trivial⟩, ⟨rfl, rfl, rfl, rfl, trivial⟩⟩
    repeat (first | ((with_reducible refine zD ?_); refine zC rfl ?_) | ((with_reducible refine zS ?_); refine zT rfl rfl rfl ?_)  | refine zH ?_ | refine zB rfl ?_ | with_reducible refine zE ?_ | with_reducible refine zF ?_ | ((with_reducible refine zA ?_ ?_); kernel_rfl))
    refine zZ rfl (fun h => ?_) (fun h => ?_)
    · repeat (first | ((with_reducible refine zJ ?_); refine zI rfl ?_) | ((with_reducible refine zO ?_); refine zi tbOk rfl rfl rfl rfl (Nat.le_of_ble_eq_true rfl) ?_)  | refine zB rfl ?_  | ((with_reducible refine zA ?_ ?_); kernel_rfl))
      refine yE (ss := [(21, 1)]) (hlk) (by repeat' (first | exact trivial | exact Ren.v _ | exact Ren.sl _ _ | exact Ren.ep _ | exact Ren.ptr _ _ _ _ rfl | exact Ren.bs _ _ _ _ _ rfl | exact Ren.nil _ | exact Ren.own _ _ _ _ ⟨_, rfl⟩ | refine zP ?_ | refine zQ ?_ | refine zR ?_ | refine ⟨?_, ?_⟩)) (by simp) (in1 rfl rfl) rfl (yL rfl) (by repeat' (first | exact trivial | exact RenB.v _ | exact RenB.sl _ _ | exact RenB.ep _ | exact RenB.ptr _ _ _ _ rfl | refine zW ?_ | refine zV ?_ | refine ⟨?_, ?_⟩)) ?_
      repeat (first | ((with_reducible refine zK ?_); refine zG tbOk rfl rfl rfl rfl ?_) | ((with_reducible refine zu ?_); refine zx tbOk rfl rfl rfl rfl rfl rfl rfl (Nat.le_of_ble_eq_true rfl) rfl ?_)  | refine zH ?_ | refine zB rfl ?_ | with_reducible refine zE ?_ | with_reducible refine zq ?_ )
      exact ⟨(⟨d.num, d.kind, d.st, d.rd, d.zone, d.safe, K, d.iss, d.hol, d.f, d.u, d.ce⟩, H), ⟨⟨hf.sz.z, by show K.length ≤ maxLen; simp at hll; omega, hf.sz.i, hf.sz.h, hf.sz.c⟩, trivial⟩, trivial, ⟨rfl, rfl, rfl, rfl, trivial⟩, ⟨rfl, rfl, rfl, rfl, trivial⟩⟩
    repeat (first | ((with_reducible refine zK ?_); refine zG tbOk rfl rfl rfl rfl ?_) | ((with_reducible refine zO ?_); refine zN tbOk rfl rfl rfl rfl rfl ?_)  | refine zB rfl ?_  | ((with_reducible refine zA ?_ ?_); kernel_rfl))
    refine x_append_nil tbOk rfl rfl rfl rfl rfl (by decide) rfl rfl rfl (iv_one _) (by simp only [List.length_map]; omega) ?_
    repeat (first  | ((with_reducible refine zo ?_); refine zt tbOk rfl rfl rfl rfl rfl (by omega) rfl rfl rfl ?_) | refine zB rfl ?_  )
    refine x_append_fz tbOk rfl rfl rfl rfl rfl (by decide) rfl rfl rfl rfl rfl (fun x hx => by simp at hx; subst hx; rfl) (by simp only [List.length_map, List.length_cons, List.length_nil]; omega) (by simp only [List.length_map, List.length_cons, List.length_nil]; omega) ?_
    repeat (first | ((with_reducible refine zK ?_); refine zG tbOk rfl rfl rfl rfl ?_) | ((with_reducible refine zu ?_); refine zx tbOk rfl rfl rfl rfl rfl rfl rfl (Nat.le_of_ble_eq_true rfl) rfl ?_)  | refine zH ?_ | refine zB rfl ?_ | with_reducible refine zE ?_ | with_reducible refine zq ?_ )
    exact ⟨(⟨d.num, d.kind, d.st, d.rd, d.zone, d.safe, d.lk, d.iss, d.hol, d.f, d.u, d.ce ++ [900]⟩, F), ⟨⟨hf.sz.z, hf.sz.l, hf.sz.i, hf.sz.h, by show (d.ce ++ [900]).length ≤ maxLen; rw [List.length_append, List.length_singleton]; omega⟩, trivial⟩, trivial, ⟨rfl, rfl, rfl, rfl, trivial⟩, ⟨rfl, rfl, rfl, hc_box (by first | exact ce_cells d 900 | exact (ce_cells d 900).symm), trivial⟩⟩
  clear h
  rintro v ⟨y, H2⟩ ⟨hy, -⟩
  dsimp only at hy ⊢
  have hpy := print_A (G := X.G) N V y hG hP ok hy
  have hyc := print_cl N V y
  obtain ⟨⟨R, re⟩, hRr⟩ : ∃ q, q = jq N V y := ⟨_, rfl⟩
  rw [← hRr] at hpy hyc
  dsimp only at hpy hyc
  have hsm := dsame_A (G := X.G) d y hf.sz
  obtain ⟨sb, hsb⟩ : ∃ b, b = decide (d = y) := ⟨_, rfl⟩
  rw [← hsb] at hsm
  repeat (first | ((with_reducible refine zO ?_); refine zi tbOk rfl rfl rfl rfl (Nat.le_of_ble_eq_true rfl) ?_)  | refine zB rfl ?_ | with_reducible refine zF ?_ | ((with_reducible refine zA ?_ ?_); kernel_rfl))
  refine zj (hpr) (by repeat' (first | exact trivial | exact Ren.v _ | exact Ren.sl _ _ | exact Ren.ep _ | exact Ren.ptr _ _ _ _ rfl | exact Ren.bs _ _ _ _ _ rfl | exact Ren.nil _ | exact Ren.own _ _ _ _ ⟨_, rfl⟩ | refine zP ?_ | refine zQ ?_ | refine zR ?_ | refine ⟨?_, ?_⟩)) (by repeat' (first | exact trivial | exact RenB.v _ | exact RenB.sl _ _ | exact RenB.ep _ | exact RenB.ptr _ _ _ _ rfl | refine zW ?_ | refine zV ?_ | refine ⟨?_, ?_⟩)) ?_
  repeat (first | ((with_reducible refine zJ ?_); refine zI rfl ?_) | ((with_reducible refine zD ?_); refine zC rfl ?_) | ((with_reducible refine zO ?_); refine zi tbOk rfl rfl rfl rfl (Nat.le_of_ble_eq_true rfl) ?_) | ((with_reducible refine yr ?_); refine yq rfl rfl ?_)  | refine zH ?_ | refine zB rfl ?_ | with_reducible refine zE ?_ | with_reducible refine zF ?_ | ((with_reducible refine zA ?_ ?_); kernel_rfl))
  refine zj (hpy) (by repeat' (first | exact trivial | exact Ren.v _ | exact Ren.sl _ _ | exact Ren.ep _ | exact Ren.ptr _ _ _ _ rfl | exact Ren.bs _ _ _ _ _ rfl | exact Ren.nil _ | exact Ren.own _ _ _ _ ⟨_, rfl⟩ | refine zP ?_ | refine zQ ?_ | refine zR ?_ | refine ⟨?_, ?_⟩)) (by repeat' (first | exact trivial | exact RenB.v _ | exact RenB.sl _ _ | exact RenB.ep _ | exact RenB.ptr _ _ _ _ rfl | refine zW ?_ | refine zV ?_ | refine ⟨?_, ?_⟩)) ?_
  repeat (first | ((with_reducible refine zJ ?_); refine zI rfl ?_) | ((with_reducible refine zD ?_); refine zC rfl ?_) | ((with_reducible refine yr ?_); refine yq rfl rfl ?_) | ((with_reducible refine zS ?_); refine zT rfl rfl rfl ?_)  | refine zH ?_ | refine zB rfl ?_ | with_reducible refine zE ?_ | with_reducible refine zF ?_ | ((with_reducible refine zA ?_ ?_); kernel_rfl))
  refine zw rfl rfl (fun c => ?_) (fun c => ?_)
  · repeat (first | ((with_reducible refine zJ ?_); refine zI rfl ?_) | ((with_reducible refine zD ?_); refine zC rfl ?_) | ((with_reducible refine za ?_); refine zp rfl (by first | rfl | assumption) rfl ?_)  | refine zH ?_ | refine zB rfl ?_ | refine yD rfl rfl (by first | rfl | assumption) ?_ | with_reducible refine zE ?_ | with_reducible refine zL ?_ )
    refine zk (by first | exact .inr rfl | exact .inl rfl) rfl rfl ?_
    rfl
  repeat (first | ((with_reducible refine zJ ?_); refine zI rfl ?_) | ((with_reducible refine za ?_); refine zn rfl (by first | rfl | assumption) rfl ?_) | ((with_reducible refine zS ?_); refine zT rfl rfl rfl ?_)  | refine zB rfl ?_ | refine zz rfl rfl (by first | rfl | assumption) ?_  )
  refine zw rfl rfl (fun c2 => ?_) (fun c2 => ?_)
  · repeat (first | ((with_reducible refine zD ?_); refine zC rfl ?_) | ((with_reducible refine za ?_); refine zp rfl (by first | rfl | assumption) rfl ?_)  | refine zH ?_ | refine zB rfl ?_ | refine yD rfl rfl (by first | rfl | assumption) ?_ | with_reducible refine zE ?_ | with_reducible refine zL ?_ )
    refine zk (by first | exact .inr rfl | exact .inl rfl) rfl rfl ?_
    rfl
  have p0 : pe = 0 := by simpa using c
  have r0 : re = 0 := by simpa using c2
  have okd : DcOk N V d ∧ P = strL (yd (yx N V d)) := by
    rcases hpc with ⟨-, e⟩ | ⟨a, e⟩
    · exact absurd p0 e
    · exact ⟨a, congrArg Prod.fst e⟩
  have oky : DcOk N V y ∧ R = strL (yd (yx N V y)) := by
    rcases hyc with ⟨-, e⟩ | ⟨a, e⟩
    · exact absurd r0 e
    · exact ⟨a, congrArg Prod.fst e⟩
  have hst : yS P R = sb := by
    rw [hsb, strEq_dec, okd.2, oky.2]
    exact decide_eq_decide.2 (strL_inj.trans (text_apart okd.1 oky.1))
  repeat (first | ((with_reducible refine zJ ?_); refine zI rfl ?_) | ((with_reducible refine zO ?_); refine zi tbOk rfl rfl rfl rfl (Nat.le_of_ble_eq_true rfl) ?_) | ((with_reducible refine zS ?_); refine jB rfl rfl rfl ?_)  | refine zz rfl rfl (by first | rfl | assumption) ?_  )
  refine zj (hsm) (by repeat' (first | exact trivial | exact Ren.v _ | exact Ren.sl _ _ | exact Ren.ep _ | exact Ren.ptr _ _ _ _ rfl | exact Ren.bs _ _ _ _ _ rfl | exact Ren.nil _ | exact Ren.own _ _ _ _ ⟨_, rfl⟩ | refine zP ?_ | refine zQ ?_ | refine zR ?_ | refine ⟨?_, ?_⟩)) (by repeat' (first | exact trivial | exact RenB.v _ | exact RenB.sl _ _ | exact RenB.ep _ | exact RenB.ptr _ _ _ _ rfl | refine zW ?_ | refine zV ?_ | refine ⟨?_, ?_⟩)) ?_
  repeat (first | ((with_reducible refine zD ?_); refine zC rfl ?_) | ((with_reducible refine za ?_); refine zn rfl (by first | rfl | assumption) rfl ?_) | ((with_reducible refine zS ?_); refine x_eql_b (by exact Tryz.underlying4) rfl rfl ?_)  | refine zH ?_ | refine zB rfl ?_ | refine zz rfl rfl (by first | rfl | assumption) ?_ | with_reducible refine zE ?_ | with_reducible refine zL ?_ )
  refine zk (by first | exact .inr rfl | exact .inl rfl) rfl rfl ?_
  refine congrArg (fun b => AV.v (.bool b)) ?_
  rw [hst]; simp
end Go.Proofs.YtjamibeffalhaaaGreatDoor
