/- permitofficemake.Network, by the abstract machine: it makes the network of the plain functions; conditions: none. -/
import Derived.Test.YtnafokinifbfhaaGreatDoorSzA
import Derived.Test.YtnafokinifbfhaaGreatDoorNetA
import Derived.Test.YtnafokinifbfhaaGreatDoorLcC
import Derived.Test.YtnafokinifbfhaaGreatDoorAbsJ
set_option linter.unusedVariables false
set_option linter.unusedSimpArgs false
namespace Go.Proofs.YtnafokinifbfhaaGreatDoor
open Go Go.RowKit
set_option maxRecDepth 10000
variable {G : Nat → Option (List Value)}
theorem dig_str (c : UInt8) (k : Nat) (h : k < 100) : ((⟨#[c]⟩ : ByteArray) ++ strOfNums [IntKind.u8.wrap (IntKind.i64.wrap (48 + IntKind.i64.wrap ((k : Int).tdiv 10))), IntKind.u8.wrap (IntKind.i64.wrap (48 + (k : Int).tmod 10))]) = nmS c k := by
  have e1 : (k : Int).tdiv 10 = ((k / 10 : Nat) : Int) := by rw [Int.tdiv_eq_ediv_of_nonneg (by omega)]; omega
  have e2 : (k : Int).tmod 10 = ((k % 10 : Nat) : Int) := by rw [Int.tmod_eq_emod_of_nonneg (by omega)]; omega
  have e3 : ∀ d : Nat, d < 10 → IntKind.u8.wrap (IntKind.i64.wrap (48 + (d : Int))) = ((48 + d : Nat) : Int) := fun d hd => by
    rw [zr (by omega), IntKind.wrap_u8]; omega
  rw [e1, e2, zr (z := ((k / 10 : Nat) : Int)) (by omega), e3 _ (by omega), e3 _ (by omega)]
  rfl
theorem tZ (c : UInt8) (k : Nat) (h : k < 100) : zl Tryz.prog G 36 [.v (.string ⟨#[c]⟩), .v (.int .i64 (k : Nat))] [] (.v (.string (nmS c k))) [] := by
  refine zY tbOk (zM Tryz.func36 (by kernel_rfl) rfl) Tryz.func36 rfl _ Tryz.ntmps36 (Nat.le_of_ble_eq_true rfl) fun X hX => ?_
  subst hX
  repeat (first | ((with_reducible refine zI ?_); refine zJ rfl ?_) | ((with_reducible refine zE ?_); refine zF rfl ?_) | ((with_reducible refine yI ?_); refine qV tbOk rfl rfl rfl ?_) | ((with_reducible refine zP ?_); (first | refine zV rfl rfl rfl ?_ | refine xN rfl rfl (by first | decide | assumption | omega) ?_ | refine x_quo rfl rfl (by first | decide | assumption | omega) ?_)) | ((with_reducible refine yE ?_); refine yD tbOk rfl rfl rfl rfl rfl (by omega) rfl rfl rfl ?_) | refine zK ?_ | refine zB rfl ?_ | with_reducible (first | refine zG ?_ | refine zH ?_) | ((with_reducible refine zA ?_ ?_); kernel_rfl))
  with_reducible refine yI ?_
  refine sD Tryz.underlying135 Tryz.underlying5 Tryz.underlying9 rfl rfl (by simp) ?_
  repeat (first   | refine zB rfl ?_  )
  with_reducible refine zP ?_
  refine x_add_s rfl rfl (by rw [strOfNums_size]; exact (by decide : (1:Nat) + 2 ≤ 9223372036854775807)) ?_
  repeat (first | ((with_reducible refine zE ?_); refine zF rfl ?_)  | refine zK ?_ | refine zB rfl ?_ | with_reducible (first | refine zG ?_ | refine zS ?_) )
  refine yC (by first | exact .inr rfl | exact .inl rfl) rfl rfl ?_
  exact congrArg (fun s => AV.v (.string s)) (dig_str c k h).symm
def addR (N : List AV) (m : Nat) (r : List Dv × Dk) : List Cont := [.box [.sl 3 N, .own (refB + 4) 0], .box [.v (.int .i64 (m : Nat))], .box [.ptr (refB + 3) 0 0], .box r.2.cells, .buf 56 5 (r.1.map Dv.av)]
set_option maxHeartbeats 4000000 in
theorem mW (N : List AV) (m : Nat) (r : List Dv × Dk) (k a b : Int) (hD : DkOk r.2) (hm : m ≤ 60) (hr : r.1.length ≤ m) (hk : 1 ≤ k ∧ k ≤ 6) :
    qc Tryz.prog G 38 [.v (.int .i64 k), .v (.int .i64 a), .v (.int .i64 b), .ptr (refB + 0) 0 0, .ptr (refB + 1) 0 0, .ptr (refB + 2) 0 0] (addR N m r) (.tu []) (addR N m (addD m r k a b)) := by
  have hml : (r.1.map Dv.av).length = r.1.length := by simp
  have hidx : ([.v (.string ⟨#[]⟩), .v (.string ⟨#[76]⟩), .v (.string ⟨#[81]⟩), .v (.string ⟨#[68]⟩), .v (.string ⟨#[69]⟩), .v (.string ⟨#[83]⟩), .v (.string ⟨#[71]⟩)] : List AV)[k.toNat]? = some (.v (.string ⟨#[aZ k]⟩)) := by
    obtain rfl | rfl | rfl | rfl | rfl | rfl : k = 1 ∨ k = 2 ∨ k = 3 ∨ k = 4 ∨ k = 5 ∨ k = 6 := by omega
    all_goals rfl
  refine aC tbOk (zM Tryz.func38 (by kernel_rfl) rfl) Tryz.func38 rfl _ Tryz.ntmps38 (Nat.le_of_ble_eq_true rfl) fun X hX => ?_
  subst hX
  repeat (first | ((with_reducible refine zO ?_); refine zL tbOk rfl rfl rfl rfl ?_) | ((with_reducible refine zQ ?_); refine zN tbOk rfl rfl rfl rfl rfl ?_) | ((with_reducible refine yB ?_); refine jV tbOk rfl rfl rfl rfl ?_) | ((with_reducible refine zP ?_); refine zV rfl rfl rfl ?_)  | refine zK ?_ | refine zB rfl ?_ | with_reducible (first | refine zG ?_ | refine zH ?_) | ((with_reducible refine zA ?_ ?_); kernel_rfl))
  refine zh rfl (fun h => ?_) (fun h => ?_)
  · have h' : m ≤ r.1.length := by simp at h; omega
    have e : addD m r k a b = r := by unfold addD; rw [if_pos h']
    rw [e]
    repeat (first    | with_reducible (first | refine zf ?_ | refine zS ?_) )
    refine retJ (by first | exact .inr rfl | exact .inl rfl) (xs := []) (fs := [(refB + 0, 0), (refB + 1, 0), (refB + 2, 0), (refB + 3, 0), (refB + 4, 0)]) trivial (by decide) (by repeat' (first | exact trivial | exact Ren.v _ | exact Ren.sl _ _ | exact Ren.ep _ | exact Ren.ptr _ _ _ _ rfl | exact Ren.ownr _ _ _ rfl | exact Ren.bs _ _ _ _ _ rfl | refine zp ?_ | refine yR ?_ | refine yo ?_ | refine ⟨?_, ?_⟩)) ?_
    refine ⟨⟨⟨_, rfl, by repeat' (first | exact trivial | exact Ren.v _ | exact Ren.sl _ _ | exact Ren.ep _ | exact Ren.ptr _ _ _ _ rfl | exact Ren.ownr _ _ _ rfl | exact Ren.bs _ _ _ _ _ rfl | refine zp ?_ | refine yR ?_ | refine yo ?_ | refine ⟨?_, ?_⟩)⟩, fun _ => ⟨rfl, rfl⟩⟩, ⟨⟨_, rfl, by repeat' (first | exact trivial | exact Ren.v _ | exact Ren.sl _ _ | exact Ren.ep _ | exact Ren.ptr _ _ _ _ rfl | exact Ren.ownr _ _ _ rfl | exact Ren.bs _ _ _ _ _ rfl | refine zp ?_ | refine yR ?_ | refine yo ?_ | refine ⟨?_, ?_⟩)⟩, fun _ => ⟨rfl, rfl⟩⟩, ⟨⟨_, rfl, by repeat' (first | exact trivial | exact Ren.v _ | exact Ren.sl _ _ | exact Ren.ep _ | exact Ren.ptr _ _ _ _ rfl | exact Ren.ownr _ _ _ rfl | exact Ren.bs _ _ _ _ _ rfl | refine zp ?_ | refine yR ?_ | refine yo ?_ | refine ⟨?_, ?_⟩)⟩, fun _ => ⟨rfl, rfl⟩⟩, ⟨⟨_, rfl, by repeat' (first | exact trivial | exact Ren.v _ | exact Ren.sl _ _ | exact Ren.ep _ | exact Ren.ptr _ _ _ _ rfl | exact Ren.ownr _ _ _ rfl | exact Ren.bs _ _ _ _ _ rfl | refine zp ?_ | refine yR ?_ | refine yo ?_ | refine ⟨?_, ?_⟩)⟩, fun _ => ⟨rfl, rfl⟩⟩, rfl, trivial⟩
  have h' : ¬ m ≤ r.1.length := by simp at h; omega
  repeat (first | ((with_reducible refine zI ?_); refine zJ rfl ?_) | ((with_reducible refine zO ?_); refine zL tbOk rfl rfl rfl rfl ?_) | ((with_reducible refine zQ ?_); (first | refine zN tbOk rfl rfl rfl rfl rfl ?_ | refine zj tbOk rfl rfl rfl ?_)) | ((with_reducible refine zU ?_); refine jD tbOk rfl rfl rfl rfl (by omega) (by assumption) ?_) | ((with_reducible refine yB ?_); refine jV tbOk rfl rfl rfl rfl ?_) | ((with_reducible refine yE ?_); refine yD tbOk rfl rfl rfl rfl rfl (by omega) rfl rfl rfl ?_) | refine zB rfl ?_ | with_reducible (first | refine zG ?_ | refine zH ?_ | refine zR ?_) | ((with_reducible refine jQ mixd ?_ ?_); kernel_rfl))
  refine zC (tZ (aZ k) (r.1.map Dv.av).length (by omega)) ?_
  repeat (first | ((with_reducible refine zI ?_); refine zJ rfl ?_) | ((with_reducible refine zQ ?_); refine zN tbOk rfl rfl rfl rfl rfl ?_) | ((with_reducible refine zz ?_); refine yN tbOk rfl rfl rfl rfl rfl rfl rfl (Nat.le_of_ble_eq_true rfl) rfl ?_) | ((with_reducible refine yw ?_); refine yu tbOk rfl rfl ?_) | ((with_reducible refine jX ?_); refine jh tbOk rfl rfl rfl rfl rfl ?_)  | refine jR (by kernel_rfl) ?_ | refine zB rfl ?_ | with_reducible (first | refine zG ?_ | refine zH ?_) | ((with_reducible refine zA ?_ ?_); kernel_rfl))
  refine zD (ss := [(refB + 3, 0)]) (lU r.2 8 hD (by omega) (by omega)) (by simp) (in1 rfl rfl) rfl (yx rfl) ?_
  repeat (first   | refine zK ?_ | with_reducible refine zG ?_ )
  refine zh rfl (fun h => ?_) (fun h => ?_)
  · have h0 : r.2.val 8 = 0 := by simpa using h
    have e : addD m r k a b = (r.1 ++ [⟨nmS (aZ k) r.1.length, k, a, b, 1 + r.2.next.val 2⟩], r.2.next.next) := by unfold addD optD; rw [if_neg h', if_pos h0]
    rw [e]
    have hv := r.2.next.in_ (n := 2) (by decide) (by decide)
    repeat (first | ((with_reducible refine zQ ?_); refine zN tbOk rfl rfl rfl rfl rfl ?_)  | refine zB rfl ?_  | ((with_reducible refine zA ?_ ?_); kernel_rfl))
    refine zD (ss := [(refB + 3, 0)]) (jS r.2.next 2 hD.next (by omega) (by omega)) (by simp) (in1 rfl rfl) rfl (yx rfl) ?_
    repeat (first | ((with_reducible refine zO ?_); refine zL tbOk rfl rfl rfl rfl ?_) | ((with_reducible refine zQ ?_); (first | refine zN tbOk rfl rfl rfl rfl rfl ?_ | refine zZ tbOk rfl rfl rfl rfl (Nat.le_of_ble_eq_true rfl) ?_)) | ((with_reducible refine zz ?_); refine yN tbOk rfl rfl rfl rfl rfl rfl rfl (Nat.le_of_ble_eq_true rfl) rfl ?_) | ((with_reducible refine zP ?_); refine zX rfl rfl (by omega) ?_) | ((with_reducible refine yE ?_); refine yD tbOk rfl rfl rfl rfl rfl (by omega) rfl rfl rfl ?_) | refine zK ?_ | refine zB rfl ?_ | with_reducible refine zG ?_ | ((with_reducible refine zA ?_ ?_); kernel_rfl))
    refine yT tbOk rfl rfl rfl rfl rfl (by decide) rfl rfl rfl rfl rfl (fun x hx => by simp at hx; subst hx; rfl) (by simp only [List.length_map, List.length_cons, List.length_nil]; omega) (by simp only [List.length_map, List.length_cons, List.length_nil]; omega) ?_
    repeat (first | ((with_reducible refine zO ?_); refine zL tbOk rfl rfl rfl rfl ?_) | ((with_reducible refine zz ?_); refine yN tbOk rfl rfl rfl rfl rfl rfl rfl (Nat.le_of_ble_eq_true rfl) rfl ?_)  | refine zK ?_ | refine zB rfl ?_  )
    have e1 : r.1.map Dv.av ++ [AV.ag [.v (.string (nmS (aZ k) (r.1.map Dv.av).length)), .v (.int .i64 k), .v (.int .i64 a), .v (.int .i64 b), .v (.int .i64 (1 + r.2.next.val 2))]] = (r.1 ++ [(⟨nmS (aZ k) r.1.length, k, a, b, 1 + r.2.next.val 2⟩ : Dv)]).map Dv.av := by
      rw [hml]; simp [Dv.av]
    refine retJ (by first | exact .inr rfl | exact .inl rfl) (xs := []) (fs := [(refB + 0, 0), (refB + 1, 0), (refB + 2, 0), (refB + 3, 0), (37, 1)]) trivial (by decide) (by repeat' (first | exact trivial | exact Ren.v _ | exact Ren.sl _ _ | exact Ren.ep _ | exact Ren.ptr _ _ _ _ rfl | exact Ren.ownr _ _ _ rfl | exact Ren.bs _ _ _ _ _ rfl | refine zp ?_ | refine yR ?_ | refine yo ?_ | refine ⟨?_, ?_⟩)) ?_
    refine ⟨⟨⟨_, rfl, by repeat' (first | exact trivial | exact Ren.v _ | exact Ren.sl _ _ | exact Ren.ep _ | exact Ren.ptr _ _ _ _ rfl | exact Ren.ownr _ _ _ rfl | exact Ren.bs _ _ _ _ _ rfl | refine zp ?_ | refine yR ?_ | refine yo ?_ | refine ⟨?_, ?_⟩)⟩, fun _ => ⟨rfl, rfl⟩⟩, ⟨⟨_, rfl, by repeat' (first | exact trivial | exact Ren.v _ | exact Ren.sl _ _ | exact Ren.ep _ | exact Ren.ptr _ _ _ _ rfl | exact Ren.ownr _ _ _ rfl | exact Ren.bs _ _ _ _ _ rfl | refine zp ?_ | refine yR ?_ | refine yo ?_ | refine ⟨?_, ?_⟩)⟩, fun _ => ⟨rfl, rfl⟩⟩, ⟨⟨_, rfl, by repeat' (first | exact trivial | exact Ren.v _ | exact Ren.sl _ _ | exact Ren.ep _ | exact Ren.ptr _ _ _ _ rfl | exact Ren.ownr _ _ _ rfl | exact Ren.bs _ _ _ _ _ rfl | refine zp ?_ | refine yR ?_ | refine yo ?_ | refine ⟨?_, ?_⟩)⟩, fun _ => ⟨rfl, rfl⟩⟩, ⟨⟨_, rfl, by repeat' (first | exact trivial | exact Ren.v _ | exact Ren.sl _ _ | exact Ren.ep _ | exact Ren.ptr _ _ _ _ rfl | exact Ren.ownr _ _ _ rfl | exact Ren.bs _ _ _ _ _ rfl | refine zp ?_ | refine yR ?_ | refine yo ?_ | refine ⟨?_, ?_⟩)⟩, fun _ => ⟨rfl, rfl⟩⟩, ?_, trivial⟩
    exact congrArg (fun L => (⟨1, .buf 56 5 L⟩ : HC)) e1
  · have h0 : ¬ r.2.val 8 = 0 := by simpa using h
    have e : addD m r k a b = (r.1 ++ [⟨nmS (aZ k) r.1.length, k, a, b, 0⟩], r.2.next) := by unfold addD optD; rw [if_neg h', if_neg h0]
    rw [e]
    repeat (first | ((with_reducible refine zO ?_); refine zL tbOk rfl rfl rfl rfl ?_) | ((with_reducible refine zQ ?_); (first | refine zN tbOk rfl rfl rfl rfl rfl ?_ | refine zZ tbOk rfl rfl rfl rfl (Nat.le_of_ble_eq_true rfl) ?_)) | ((with_reducible refine yE ?_); refine yD tbOk rfl rfl rfl rfl rfl (by omega) rfl rfl rfl ?_) | refine zB rfl ?_ | with_reducible (first | refine zG ?_ | refine zR ?_) | ((with_reducible refine zA ?_ ?_); kernel_rfl))
    refine yT tbOk rfl rfl rfl rfl rfl (by decide) rfl rfl rfl rfl rfl (fun x hx => by simp at hx; subst hx; rfl) (by simp only [List.length_map, List.length_cons, List.length_nil]; omega) (by simp only [List.length_map, List.length_cons, List.length_nil]; omega) ?_
    repeat (first | ((with_reducible refine zO ?_); refine zL tbOk rfl rfl rfl rfl ?_) | ((with_reducible refine zz ?_); refine yN tbOk rfl rfl rfl rfl rfl rfl rfl (Nat.le_of_ble_eq_true rfl) rfl ?_)  | refine zK ?_ | refine zB rfl ?_  )
    have e1 : r.1.map Dv.av ++ [AV.ag [.v (.string (nmS (aZ k) (r.1.map Dv.av).length)), .v (.int .i64 k), .v (.int .i64 a), .v (.int .i64 b), .v (.int .i64 0)]] = (r.1 ++ [(⟨nmS (aZ k) r.1.length, k, a, b, 0⟩ : Dv)]).map Dv.av := by
      rw [hml]; simp [Dv.av]
    refine retJ (by first | exact .inr rfl | exact .inl rfl) (xs := []) (fs := [(refB + 0, 0), (refB + 1, 0), (refB + 2, 0), (refB + 3, 0), (37, 1)]) trivial (by decide) (by repeat' (first | exact trivial | exact Ren.v _ | exact Ren.sl _ _ | exact Ren.ep _ | exact Ren.ptr _ _ _ _ rfl | exact Ren.ownr _ _ _ rfl | exact Ren.bs _ _ _ _ _ rfl | refine zp ?_ | refine yR ?_ | refine yo ?_ | refine ⟨?_, ?_⟩)) ?_
    refine ⟨⟨⟨_, rfl, by repeat' (first | exact trivial | exact Ren.v _ | exact Ren.sl _ _ | exact Ren.ep _ | exact Ren.ptr _ _ _ _ rfl | exact Ren.ownr _ _ _ rfl | exact Ren.bs _ _ _ _ _ rfl | refine zp ?_ | refine yR ?_ | refine yo ?_ | refine ⟨?_, ?_⟩)⟩, fun _ => ⟨rfl, rfl⟩⟩, ⟨⟨_, rfl, by repeat' (first | exact trivial | exact Ren.v _ | exact Ren.sl _ _ | exact Ren.ep _ | exact Ren.ptr _ _ _ _ rfl | exact Ren.ownr _ _ _ rfl | exact Ren.bs _ _ _ _ _ rfl | refine zp ?_ | refine yR ?_ | refine yo ?_ | refine ⟨?_, ?_⟩)⟩, fun _ => ⟨rfl, rfl⟩⟩, ⟨⟨_, rfl, by repeat' (first | exact trivial | exact Ren.v _ | exact Ren.sl _ _ | exact Ren.ep _ | exact Ren.ptr _ _ _ _ rfl | exact Ren.ownr _ _ _ rfl | exact Ren.bs _ _ _ _ _ rfl | refine zp ?_ | refine yR ?_ | refine yo ?_ | refine ⟨?_, ?_⟩)⟩, fun _ => ⟨rfl, rfl⟩⟩, ⟨⟨_, rfl, by repeat' (first | exact trivial | exact Ren.v _ | exact Ren.sl _ _ | exact Ren.ep _ | exact Ren.ptr _ _ _ _ rfl | exact Ren.ownr _ _ _ rfl | exact Ren.bs _ _ _ _ _ rfl | refine zp ?_ | refine yR ?_ | refine yo ?_ | refine ⟨?_, ?_⟩)⟩, fun _ => ⟨rfl, rfl⟩⟩, ?_, trivial⟩
    exact congrArg (fun L => (⟨1, .buf 56 5 L⟩ : HC)) e1
end Go.Proofs.YtnafokinifbfhaaGreatDoor
