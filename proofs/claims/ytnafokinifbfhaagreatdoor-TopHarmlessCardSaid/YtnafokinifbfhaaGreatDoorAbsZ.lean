/- permitofficeref14: fault, before, Check, Locked, by the abstract machine; conditions: none / cmp.Compare at numbers, by the abstract machine; conditions: none / lockset: valid, order, other, used, with IndexFunc, ContainsFunc and cmp.Or at locks, by the abstract machine; conditions: none / lockset.valid and Check, by the abstract machine: Check answers as the reference does; conditions: the table of classes stands / network.across, Gap, Exists, slices.Index, Contains at numbers, the reference's Has, lockset.Locked, zone.rising, Check, at, by the abstract machine; conditions: the table of classes stands / Parts of own buffers: sliced, measured, and laid behind one another in place; conditions: tables of types that agree with the program's. -/
import Derived.Test.YtnafokinifbfhaaGreatDoorNetB
import Derived.Test.YtnafokinifbfhaaGreatDoorNetC
import Derived.Test.YtnafokinifbfhaaGreatDoorDkA
import Derived.Test.YtnafokinifbfhaaGreatDoorZg
import Derived.Test.YtnafokinifbfhaaGreatDoorTab
import Derived.Test.YtnafokinifbfhaaGreatDoorTwQ
set_option linter.unusedVariables false
set_option linter.unusedSimpArgs false
namespace Go.Proofs.YtnafokinifbfhaaGreatDoor
open Go Go.RowKit
set_option maxRecDepth 10000
variable {G : Nat → Option (List Value)}
def Lk.av (k : Lk) : AV := .ag [.v (.int .i64 k.d), .v (.int .i64 k.p), .v (.int .i64 k.k)]
def yR (N : List Nd) (V : List Dv) : AV := .ag [.sl 3 (N.map Nd.av), .sl 5 (V.map Dv.av)]
theorem gM {V : List Dv} {k : Nat} {x : Dv} (h : V[k]? = some x) : (V.map Dv.av)[k]? = some x.av := by rw [List.getElem?_map, h]; rfl
theorem lk_at {L : List Lk} {k : Nat} {x : Lk} (h : L[k]? = some x) : (L.map Lk.av)[k]? = some x.av := by rw [List.getElem?_map, h]; rfl
set_option maxHeartbeats 1000000 in
theorem fault_A (N : List Nd) (V : List Dv) (k : Lk) : zJ Tryz.prog G 58 [yR N V, k.av] [] (.v (.int .i64 (jP V k))) [] := by
  refine zE tbOk (zA Tryz.func58 (by kernel_rfl) rfl) Tryz.func58 rfl _ Tryz.ntmps58 (Nat.le_of_ble_eq_true rfl) fun X hX => ?_
  subst hX
  refine zg12 ?_
  refine zX rfl rfl (fun h => ?_) (fun h => ?_)
  · have h0 : k.d < 0 := by simpa using h
    have e : jP V k = 8 := by unfold jP; rw [if_pos (.inl h0)]
    rw [e]
    refine zg6 ?_
    refine zL (by first | exact .inr rfl | exact .inl rfl) rfl rfl ?_
    rfl
  have h0 : ¬ k.d < 0 := by simpa using h
  refine zg9 ?_
  refine zF rfl (fun h => ?_) (fun h => ?_)
  · have h1 : (V.length : Int) ≤ k.d := by simpa using h
    have e : jP V k = 8 := by unfold jP; rw [if_pos (.inr h1)]
    rw [e]
    refine zg6 ?_
    refine zL (by first | exact .inr rfl | exact .inl rfl) rfl rfl ?_
    rfl
  · have h1 : ¬ (V.length : Int) ≤ k.d := by simpa using h
    obtain ⟨x, hx⟩ := zB (L := V) (k := k.d.toNat) (by omega)
    have hy := gM hx
    have eK : xP V k.d = x.k := by unfold xP; rw [hx]
    have e : jP V k = if x.k = 5 then 6 else if k.p ≠ 1 ∧ k.p ≠ 2 then 10 else if k.k < 0 ∨ 65536 < k.k then 5 else 0 := by unfold jP; rw [if_neg (by omega), eK]
    rw [e]
    refine zg14 ?_
    refine zF rfl (fun h => ?_) (fun h => ?_)
    · rw [if_pos (by simpa using h)]
      refine zg6 ?_
      refine zL (by first | exact .inr rfl | exact .inl rfl) rfl rfl ?_
      rfl
    · rw [if_neg (by simpa using h)]
      by_cases p1 : k.p = 1
      · have b1 : (k.p != 1) = false := by simpa using p1
        rw [if_neg (by omega)]
        refine zg4 ?_
        by_cases k0 : k.k < 0
        · have b2 : decide (k.k < 0) = true := by simpa using k0
          rw [if_pos (.inl k0)]
          refine zg6 ?_
          refine zL (by first | exact .inr rfl | exact .inl rfl) rfl rfl ?_
          rfl
        · have b2 : decide (k.k < 0) = false := by simpa using k0
          refine zg9 ?_
          refine zF rfl (fun h => ?_) (fun h => ?_)
          · rw [if_pos (.inr (by simpa using h))]
            refine zg6 ?_
            refine zL (by first | exact .inr rfl | exact .inl rfl) rfl rfl ?_
            rfl
          · have h' : ¬ 65536 < k.k := by simpa using h
            rw [if_neg (by omega)]
            refine zg12 ?_
            refine zL (by first | exact .inr rfl | exact .inl rfl) rfl rfl ?_
            rfl
      · have b1 : (k.p != 1) = true := by simpa using p1
        refine zg7 ?_
        refine zF rfl (fun h => ?_) (fun h => ?_)
        · have p2 : k.p ≠ 2 := by simpa using h
          rw [if_pos ⟨p1, p2⟩]
          refine zg6 ?_
          refine zL (by first | exact .inr rfl | exact .inl rfl) rfl rfl ?_
          rfl
        · have p2 : k.p = 2 := by simpa using h
          rw [if_neg (by omega)]
          by_cases k0 : k.k < 0
          · have b2 : decide (k.k < 0) = true := by simpa using k0
            rw [if_pos (.inl k0)]
            refine zg14 ?_
            refine zL (by first | exact .inr rfl | exact .inl rfl) rfl rfl ?_
            rfl
          · have b2 : decide (k.k < 0) = false := by simpa using k0
            refine zg4 ?_
            refine zF rfl (fun h => ?_) (fun h => ?_)
            · rw [if_pos (.inr (by simpa using h))]
              refine zg6 ?_
              refine zL (by first | exact .inr rfl | exact .inl rfl) rfl rfl ?_
              rfl
            · have h' : ¬ 65536 < k.k := by simpa using h
              rw [if_neg (by omega)]
              refine zg12 ?_
              refine zL (by first | exact .inr rfl | exact .inl rfl) rfl rfl ?_
              rfl
theorem before_A (a b : Lk) : zJ Tryz.prog G 59 [a.av, b.av] [] (.v (.bool (befB a b))) [] := by
  unfold befB
  refine zE tbOk (zA Tryz.func59 (by kernel_rfl) rfl) Tryz.func59 rfl _ Tryz.ntmps59 (Nat.le_of_ble_eq_true rfl) fun X hX => ?_
  subst hX
  repeat' (first | ((with_reducible refine yD ?_); refine yE rfl ?_) | ((with_reducible refine zi ?_); refine zh rfl ?_) | ((with_reducible refine zS ?_); refine zN tbOk rfl rfl rfl rfl ?_) | ((with_reducible refine ze ?_); refine zY tbOk rfl rfl rfl rfl rfl ?_) | ((with_reducible refine mG ?_); refine mP rfl rfl rfl ?_) | ((with_reducible refine yf ?_); (first | refine yj rfl (by first | rfl | assumption) rfl ?_ | refine yW rfl (by first | rfl | assumption) rfl ?_)) | ((with_reducible refine yZ ?_); refine yI rfl rfl rfl ?_)  | refine yh ?_ | refine zu rfl ?_ | refine jA rfl rfl (by first | rfl | assumption) ?_ | refine ym rfl rfl (by first | rfl | assumption) ?_ | refine yq rfl rfl (by first | rfl | assumption) ?_ | refine qd rfl rfl (by first | rfl | assumption) ?_ | refine kI rfl rfl rfl ?_ | with_reducible (first | refine zw ?_ | refine zp ?_ | refine yF ?_) | ((with_reducible refine zl ?_ ?_); kernel_rfl) | refine zX rfl rfl (fun _ => ?_) (fun _ => ?_) | refine zF rfl (fun _ => ?_) (fun _ => ?_))
  all_goals refine zL (by first | exact .inr rfl | exact .inl rfl) rfl rfl ?_
  all_goals refine congrArg (fun b => AV.v (.bool b)) ?_
  all_goals simp_all
  all_goals (by_cases h9 : a.d = b.d <;> simp_all)
set_option maxHeartbeats 4000000 in
theorem rlocks_A (N : List Nd) (V : List Dv) (L : List Lk) (hN : ∀ x ∈ N, x.n.size ≤ maxLen) (hV : ∀ x ∈ V, x.n.size ≤ maxLen) (h1 : N.length ≤ maxLen) (h2 : V.length ≤ maxLen) :
    zJ Tryz.prog G 26 [yR N V, .sl 3 (L.map Lk.av)] [] (.v (.int .i64 (lksE N V L))) [] := by
  refine zE tbOk (zA Tryz.func26 (by kernel_rfl) rfl) Tryz.func26 rfl _ Tryz.ntmps26 (Nat.le_of_ble_eq_true rfl) fun X hX => ?_
  subst hX
  unfold lksE
  refine zg0 ?_
  refine zC (rnet_A N V hN hV h1 h2) ?_
  refine zg1 ?_
  refine zF rfl (fun h => ?_) (fun h => ?_)
  · rw [if_pos (by simpa using h)]
    refine zg6 ?_
    refine zL (by first | exact .inr rfl | exact .inl rfl) rfl rfl ?_
    rfl
  rw [if_neg (by simpa using h)]
  refine zg4 ?_
  refine zF rfl (fun h => ?_) (fun h => ?_)
  · have h128 : 128 < L.length := by simp at h; omega
    rw [if_pos h128]
    refine zg6 ?_
    refine zL (by first | exact .inr rfl | exact .inl rfl) rfl rfl ?_
    rfl
  have h128 : ¬ 128 < L.length := by simp at h; omega
  rw [if_neg h128]
  refine zg0 ?_
  refine zQ (ι := Nat) (fun i => i ≤ L.length ∧ lkGo V (L.take i) (L.drop i) = lkGo V [] L) (fun i => L.length - i) (fun v i => [(1, .sl 3 (L.map Lk.av)), (2, .ptr 2 (v 2) 0), (6, .v (.int .i64 i))]) (fun v i => [(2, .box [.sl 3 (N.map Nd.av), .sl 5 (V.map Dv.av)])]) ?_ ?_
  · exact ⟨0, ⟨Nat.zero_le _, rfl⟩, trivial, ⟨rfl, rfl, rfl, trivial⟩, ⟨rfl, trivial⟩⟩
  · rintro v i ⟨hi, hf⟩
    refine zg6 ?_
    refine zF rfl (fun h => ?_) (fun h => ?_)
    · have hlt : i < L.length := by simpa using h
      obtain ⟨k, hx⟩ := zB hlt
      have hy := lk_at hx
      rw [lkGo_at hx] at hf
      refine zg14 ?_
      refine zC (fault_A N V k) ?_
      refine zg12 ?_
      refine zF rfl (fun h => ?_) (fun h => ?_)
      · have hF : jP V k ≠ 0 := by simpa using h
        rw [lkE_f hF, if_pos hF] at hf
        refine zg6 ?_
        refine zL (by first | exact .inr rfl | exact .inl rfl) rfl rfl ?_
        rw [hf]
      have hF : jP V k = 0 := by simpa using h
      rcases Nat.eq_zero_or_pos i with i0 | i0
      rotate_left
      obtain ⟨q, hq⟩ := zB (L := L) (k := i - 1) (by omega)
      have hqy := lk_at hq
      have ei : ((i : Nat) : Int) - 1 = ((i - 1 : Nat) : Int) := by omega
      have b0 : decide ((i : Int) > 0) = true := by simpa using i0
      refine zg7 ?_
      with_reducible refine zH ?_
      refine qe tbOk rfl rfl rfl rfl (by omega) (by rw [ei, Int.toNat_natCast]; exact hqy) ?_
      refine zg8 ?_
      refine zC (before_A q k) ?_
      refine zg15 ?_
      refine zF rfl (fun h => ?_) (fun h => ?_)
      · have hP : dP (L.take i) k = false := by unfold dP; rw [rU i0 hq]; simpa using h
        rw [lkE_14 hF hP, if_pos (by decide)] at hf
        refine zg6 ?_
        refine zL (by first | exact .inr rfl | exact .inl rfl) rfl rfl ?_
        rw [← hf]
      have hP : dP (L.take i) k = true := by unfold dP; rw [rU i0 hq]; simpa using h
      refine zg0 ?_
      rotate_left
      have b0 : decide ((i : Int) > 0) = false := by simp [i0]
      have hP : dP (L.take i) k = true := by subst i0; rfl
      refine zg15 ?_
      all_goals
        refine zQ (ι := Nat) (fun j => j ≤ i ∧ qm (L.take j) k = false) (fun j => i - j) (fun v j => [(1, .sl 3 (L.map Lk.av)), (2, .ptr 2 (v 2) 0), (6, .v (.int .i64 i)), (8, .v (.int .i64 j))]) (fun v j => [(2, .box [.sl 3 (N.map Nd.av), .sl 5 (V.map Dv.av)])]) ?_ ?_
        · exact ⟨0, ⟨Nat.zero_le _, rfl⟩, trivial, ⟨rfl, rfl, rfl, rfl, trivial⟩, ⟨rfl, trivial⟩⟩
        · rintro v j ⟨hj, hu⟩
          refine zg1 ?_
          refine zF rfl (fun h => ?_) (fun h => ?_)
          · have hji : j < i := by simpa using h
            obtain ⟨y, hjy⟩ := zB (L := L) (k := j) (by omega)
            have hz := lk_at hjy
            refine zg14 ?_
            refine zX rfl rfl (fun c1 => ?_) (fun c1 => ?_)
            · have c1' : y.d = k.d := by simpa using c1
              refine zg15 ?_
              refine zF rfl (fun c2 => ?_) (fun c2 => ?_)
              · have c2' : ¬ y.p = k.p := by simpa using c2
                rw [lkE_18 hF hP (otherB_mem hjy hji c1' c2'), if_pos (by decide)] at hf
                refine zg6 ?_
                refine zL (by first | exact .inr rfl | exact .inl rfl) rfl rfl ?_
                rw [← hf]
              · have c2' : y.p = k.p := by simpa using c2
                refine zg2 ?_
                exact ⟨j + 1, ⟨by omega, by rw [mF hjy, hu, decide_eq_true c2']; simp⟩, by omega, ⟨rfl, rfl, rfl, rfl, trivial⟩, ⟨rfl, trivial⟩⟩
            · have c1' : ¬ y.d = k.d := by simpa using c1
              refine zg10 ?_
              exact ⟨j + 1, ⟨by omega, by rw [mF hjy, hu, decide_eq_false c1']; simp⟩, by omega, ⟨rfl, rfl, rfl, rfl, trivial⟩, ⟨rfl, trivial⟩⟩
          · obtain rfl : j = i := by simp at h; omega
            have hO := hu
            refine zg2 ?_
            refine zQ (ι := Nat) (fun m => m ≤ j ∧ keyB (L.take m) k.k = false) (fun m => j - m) (fun v m => [(1, .sl 3 (L.map Lk.av)), (2, .ptr 2 (v 2) 0), (6, .v (.int .i64 j)), (9, .v (.int .i64 m))]) (fun v m => [(2, .box [.sl 3 (N.map Nd.av), .sl 5 (V.map Dv.av)])]) ?_ ?_
            · exact ⟨0, ⟨Nat.zero_le _, rfl⟩, trivial, ⟨rfl, rfl, rfl, rfl, trivial⟩, ⟨rfl, trivial⟩⟩
            · rintro v m ⟨hm, hw⟩
              refine zg1 ?_
              refine zF rfl (fun h => ?_) (fun h => ?_)
              · have hmj : m < j := by simpa using h
                obtain ⟨y, hjy⟩ := zB (L := L) (k := m) (by omega)
                have hz := lk_at hjy
                refine zg14 ?_
                refine zF rfl (fun c1 => ?_) (fun c1 => ?_)
                · have c1' : y.k = k.k := by simpa using c1
                  rw [lkE_4 hF hP hO (keyB_mem hjy hmj c1'), if_pos (by decide)] at hf
                  refine zg6 ?_
                  refine zL (by first | exact .inr rfl | exact .inl rfl) rfl rfl ?_
                  rw [← hf]
                · have c1' : ¬ y.k = k.k := by simpa using c1
                  refine zg2 ?_
                  exact ⟨m + 1, ⟨by omega, by rw [keyB_next hjy, hw, decide_eq_false c1']; rfl⟩, by omega, ⟨rfl, rfl, rfl, rfl, trivial⟩, ⟨rfl, trivial⟩⟩
              · obtain rfl : m = j := by simp at h; omega
                rw [lkE_0 hF hP hO hw, if_neg (by decide)] at hf
                refine zg2 ?_
                exact ⟨m + 1, ⟨by omega, hf⟩, by omega, ⟨rfl, rfl, rfl, trivial⟩, ⟨rfl, trivial⟩⟩
    · have hlt : ¬ i < L.length := by simpa using h
      rw [List.drop_of_length_le (by omega)] at hf
      refine zg2 ?_
      refine zL (by first | exact .inr rfl | exact .inl rfl) rfl rfl ?_
      rw [← hf]; rfl
end Go.Proofs.YtnafokinifbfhaaGreatDoor
namespace Go.Proofs.YtnafokinifbfhaaGreatDoor
open Go Go.RowKit
set_option maxRecDepth 10000
variable {G : Nat → Option (List Value)}
end Go.Proofs.YtnafokinifbfhaaGreatDoor
namespace Go.Proofs.YtnafokinifbfhaaGreatDoor
open Go Go.RowKit
set_option maxRecDepth 10000
variable {G : Nat → Option (List Value)}
end Go.Proofs.YtnafokinifbfhaaGreatDoor
namespace Go.Proofs.YtnafokinifbfhaaGreatDoor
open Go Go.RowKit
set_option maxRecDepth 10000
variable {G : Nat → Option (List Value)}
theorem qA {L : List Int} {k : Nat} {x : Int} (h : L[k]? = some x) : (L.map iv)[k]? = some (iv x) := by rw [List.getElem?_map, h]; rfl
def hasI (L : List Int) (x : Int) : Bool := L.any fun y => decide (y = x)
def fstI (x : Int) : List Int → Nat → Int
  | [], _ => -1
  | y :: l, i => if y = x then i else fstI x l (i + 1)
theorem oI (x : Int) : ∀ (L : List Int) (i : Nat), decide (fstI x L i ≥ 0) = hasI L x
  | [], i => by simp [fstI, hasI]
  | y :: L, i => by
    unfold hasI
    rw [fstI, List.any_cons]
    split
    · rename_i h; simp [h]
    · rename_i h; rw [oI x L (i + 1)]; simp [h, hasI]
theorem across_A (d : Dv) (v : Int) : zJ Tryz.prog G 109 [d.av, .v (.int .i64 v)] [] (.v (.int .i64 (acr d v))) [] := by
  refine zE tbOk (zA Tryz.func109 (by kernel_rfl) rfl) Tryz.func109 rfl _ Tryz.ntmps109 (Nat.le_of_ble_eq_true rfl) fun X hX => ?_
  subst hX
  unfold acr
  refine zg12 ?_
  refine zG (nG d.k) (by repeat' (first | exact trivial | exact Ren.v _ | refine ⟨?_, ?_⟩)) (by repeat' exact RenB.v _) ?_
  refine zg5 ?_
  refine zF rfl (fun h => ?_) (fun h => ?_)
  · rw [if_neg (by simpa using h)]
    refine zg12 ?_
    refine zL (by first | exact .inr rfl | exact .inl rfl) rfl rfl ?_
    rfl
  rw [if_pos (by simpa using h)]
  refine zg6 ?_
  refine zF rfl (fun h => ?_) (fun h => ?_)
  · rw [if_pos (by simpa using h)]
    refine zg6 ?_
    refine zL (by first | exact .inr rfl | exact .inl rfl) rfl rfl ?_
    rfl
  rw [if_neg (by simpa using h)]
  refine zg6 ?_
  refine zF rfl (fun h => ?_) (fun h => ?_)
  · rw [if_pos (by simpa using h)]
    refine zg6 ?_
    refine zL (by first | exact .inr rfl | exact .inl rfl) rfl rfl ?_
    rfl
  rw [if_neg (by simpa using h)]
  refine zg12 ?_
  refine zL (by first | exact .inr rfl | exact .inl rfl) rfl rfl ?_
  rfl
theorem idx_A (L : List Int) (x : Int) (hm : L.length ≤ maxLen) : zJ Tryz.prog G 91 [.sl 1 (L.map iv), .v (.int .i64 x)] [] (.v (.int .i64 (fstI x L 0))) [] := by
  have hml : L.length ≤ 9223372036854775807 := by unfold maxLen at hm; omega
  refine zE tbOk (zA Tryz.func91 (by kernel_rfl) rfl) Tryz.func91 rfl _ Tryz.ntmps91 (Nat.le_of_ble_eq_true rfl) fun X hX => ?_
  subst hX
  refine zg0 ?_
  refine zQ (ι := Nat) (fun k => k ≤ L.length ∧ fstI x (L.drop k) k = fstI x L 0) (fun k => L.length - k) (fun v k => [(0, .sl 1 (L.map iv)), (1, .v (.int .i64 x)), (7, .v (.int .i64 (L.map iv).length)), (8, .v (.int .i64 (k : Nat)))]) (fun v k => []) ?_ ?_
  · exact ⟨0, ⟨Nat.zero_le _, rfl⟩, trivial, ⟨rfl, rfl, rfl, rfl, trivial⟩, trivial⟩
  · rintro v k ⟨hk, hi⟩
    refine zg1 ?_
    refine zF rfl (fun h => ?_) (fun h => ?_)
    · have hlt : k < L.length := by simpa using h
      obtain ⟨y, hy0⟩ := zB hlt
      have hy := qA hy0
      rw [zv hy0, fstI] at hi
      refine zg3 ?_
      refine zF rfl (fun h => ?_) (fun h => ?_)
      · have e : y = x := by
          have := of_decide_eq_true h
          omega
        rw [if_pos e] at hi
        refine zg6 ?_
        refine zL (by first | exact .inr rfl | exact .inl rfl) rfl rfl ?_
        rw [hi]
      · have e : ¬ y = x := by
          have := of_decide_eq_false h
          omega
        rw [if_neg e] at hi
        refine zg2 ?_
        exact ⟨k + 1, ⟨by omega, hi⟩, by omega, ⟨rfl, rfl, rfl, rfl, trivial⟩, trivial⟩
    · have hlt : ¬ k < L.length := by simpa using h
      rw [List.drop_of_length_le (by omega)] at hi
      refine zg2 ?_
      refine zL (by first | exact .inr rfl | exact .inl rfl) rfl rfl ?_
      rw [← hi]; rfl
theorem con_I (L : List Int) (x : Int) (hm : L.length ≤ maxLen) : zJ Tryz.prog G 46 [.sl 1 (L.map iv), .v (.int .i64 x)] [] (.v (.bool (hasI L x))) [] := by
  refine zE tbOk (zA Tryz.func46 (by kernel_rfl) rfl) Tryz.func46 rfl _ Tryz.ntmps46 (Nat.le_of_ble_eq_true rfl) fun X hX => ?_
  subst hX
  refine zg1 ?_
  refine zG (idx_A L x hm) (by repeat' (first | exact trivial | exact Ren.v _ | exact Ren.sl _ _ | refine ⟨?_, ?_⟩)) (by repeat' exact RenB.v _) ?_
  refine zg5 ?_
  refine zL (by first | exact .inr rfl | exact .inl rfl) rfl rfl ?_
  exact congrArg (fun b => AV.v (.bool b)) (oI x L 0).symm
theorem hasI_at {L : List Int} {x y : Int} {k : Nat} (h : L[k]? = some y) : hasI (L.drop k) x = (decide (y = x) || hasI (L.drop (k + 1)) x) := by
  unfold hasI; rw [zv h, List.any_cons]
theorem has_A (L : List Int) (x : Int) (hm : L.length ≤ maxLen) : zJ Tryz.prog G 16 [.sl 1 (L.map iv), .v (.int .i64 x)] [] (.v (.bool (hasI L x))) [] := by
  have hml : L.length ≤ 9223372036854775807 := by unfold maxLen at hm; omega
  refine zE tbOk (zA Tryz.func16 (by kernel_rfl) rfl) Tryz.func16 rfl _ Tryz.ntmps16 (Nat.le_of_ble_eq_true rfl) fun X hX => ?_
  subst hX
  refine zg0 ?_
  refine zQ (ι := Nat) (fun k => k ≤ L.length ∧ hasI (L.drop k) x = hasI L x) (fun k => L.length - k) (fun v k => [(0, .sl 1 (L.map iv)), (1, .v (.int .i64 x)), (5, .v (.int .i64 (k : Nat)))]) (fun v k => []) ?_ ?_
  · exact ⟨0, ⟨Nat.zero_le _, rfl⟩, trivial, ⟨rfl, rfl, rfl, trivial⟩, trivial⟩
  · rintro v k ⟨hk, hi⟩
    refine zg6 ?_
    refine zF rfl (fun h => ?_) (fun h => ?_)
    · have hlt : k < L.length := by simpa using h
      obtain ⟨y, hy0⟩ := zB hlt
      have hy := qA hy0
      rw [hasI_at hy0] at hi
      refine zg3 ?_
      refine zF rfl (fun h => ?_) (fun h => ?_)
      · have e : decide (y = x) = true := h
        rw [e, Bool.true_or] at hi
        refine zg6 ?_
        refine zL (by first | exact .inr rfl | exact .inl rfl) rfl rfl ?_
        rw [hi]
      · have e : decide (y = x) = false := h
        rw [e, Bool.false_or] at hi
        refine zg2 ?_
        exact ⟨k + 1, ⟨by omega, hi⟩, by omega, ⟨rfl, rfl, rfl, trivial⟩, trivial⟩
    · have hlt : ¬ k < L.length := by simpa using h
      rw [List.drop_of_length_le (by omega)] at hi
      refine zg2 ?_
      refine zL (by first | exact .inr rfl | exact .inl rfl) rfl rfl ?_
      rw [← hi]; rfl
end Go.Proofs.YtnafokinifbfhaaGreatDoor
namespace Go.Proofs.YtnafokinifbfhaaGreatDoor
open Go Go.RowKit
theorem Rep.os_inv {M : Nat → Option (Array Value)} {ρ : Nat → Nat → Option Value} {s k sz lo hi : Nat} {u : Value} (h : Rep M ρ (.os s k sz lo hi) u) : ∃ (g l c : Nat) (A : Option Addr), ρ s k = some (.slice (some ⟨g, 0, none⟩) l c) ∧ (lo < hi → A = some ⟨g, lo * sz, none⟩) ∧ (lo = 0 → A = some ⟨g, 0, none⟩) ∧ u = .slice A (hi - lo) (c - lo) := by
  cases h with
  | os _ _ _ _ _ _ g l c A h hA h0 => exact ⟨g, l, c, A, h, hA, h0, rfl⟩
theorem pA {sz : Nat} : ∀ (L : List AV) (i : Nat), (∀ x ∈ L, x.cells.length = sz) → (L.take i).flatMap AV.cells = (L.flatMap AV.cells).take (i * sz) ∧ (L.drop i).flatMap AV.cells = (L.flatMap AV.cells).drop (i * sz)
  | [], i, _ => by simp
  | x :: L, 0, _ => by simp
  | x :: L, i + 1, h => by
    obtain ⟨h1, h2⟩ := pA L i fun y hy => h y (by simp [hy])
    have hx := h x (by simp)
    have hle : x.cells.length ≤ sz + i * sz := by rw [hx]; exact Nat.le_add_right _ _
    have he : sz + i * sz - x.cells.length = i * sz := by rw [hx]; exact Nat.add_sub_cancel_left _ _
    rw [List.take_succ_cons, List.drop_succ_cons, List.flatMap_cons, List.flatMap_cons, h1, h2, Nat.succ_mul, Nat.add_comm (i * sz) sz]
    constructor
    · rw [List.take_append, List.take_of_length_le hle, he]
    · rw [List.drop_append, List.drop_of_length_le hle, List.nil_append, he]
section
variable {P : Program} {X : Ctx} {n : Nat} {ops : Array Oper} {os : List Oper} {acc : List Rule} {σ : AS} {K : List Rule → AS → Prop} {gt : List (Nat × AV)} {ty : TypeId} {ps : String} {af : Array Edge} {g : Option (Nat × Bool)}
variable {TB : Tabs} (hTB : TabsOk P TB)
include hTB
theorem x_slice_os {d : Option Nat} {t : TypeId} {x : Operand} {lo hi : Option Operand} {s k k' sz e e' : Nat} {b : Bool} {L : List AV} {l h : Int} (hs : lk TB.sle t = some e) (hz : lk TB.ty e = some (b, sz)) (hx : ev σ x = .own s k) (hH : σ.H s = ⟨k', .buf e' sz L⟩) (hk : k = k') (hlo : loOf σ lo = some l) (hhi : hiOf σ L.length hi = some h) (hb : 0 ≤ l ∧ l ≤ h ∧ h ≤ L.length) (hpos : 0 < L.length)
    (hK : Exec P X n ops os (mkG gt σ (x :: (lo.toList ++ hi.toList)) [s] d (.os s k sz l.toNat h.toNat) [] :: acc) (σ.put d (.os s k sz l.toNat h.toNat)) K) : Op1 P X n ops gt ⟨d, .slice t x lo hi none, ty, ps, af, g⟩ os acc σ K := by
  refine ⟨⟨mkR σ (x :: (lo.toList ++ hi.toList)) [s] d (.os s k sz l.toNat h.toNat) [], zW rfl fun M ρ τ a w hf hR => ?_, zR _ _ _ _ _ _, hK⟩⟩
  subst hk
  have hHs := (zo hf (s := s) (by simp)).trans hH
  have h1 := hR.ev x
  rw [zP hf (by simp), hx] at h1
  obtain ⟨g', c, cl, us, b1, b2, b3, b4, b5, b6, -⟩ := eP.some_ (hR.buf s k e' sz L hHs) hpos
  have e1 := h1.own_inv
  rw [b1] at e1
  injection e1 with e1
  obtain ⟨c1, c2, c3⟩ := hb
  have el : (l.toNat : Int) = l := Int.toNat_of_nonneg c1
  have eh : (h.toNat : Int) = h := Int.toNat_of_nonneg (by omega)
  have hl : ((lo.map a.eval) = none ∧ l.toNat = 0) ∨ ∃ k, lo.map a.eval = some (.int k (l.toNat : Int)) := by
    cases lo with
    | none => injection hlo with hlo; subst hlo; exact .inl ⟨rfl, rfl⟩
    | some o =>
      obtain ⟨k, hk⟩ := lM hlo
      exact .inr ⟨k, by rw [Option.map_some, zT hR (zP hf (by simp)) hk, el]⟩
  have hh : ((hi.map a.eval) = none ∧ h.toNat = L.length) ∨ ∃ k, hi.map a.eval = some (.int k (h.toNat : Int)) := by
    cases hi with
    | none => injection hhi with hhi; subst hhi; exact .inl ⟨rfl, by omega⟩
    | some o =>
      obtain ⟨k, hk⟩ := rL hhi
      exact .inr ⟨k, by rw [Option.map_some, zT hR (zP hf (by simp)) hk, eh]⟩
  have hr := qx (P := P) (A := some ⟨g', 0, none⟩) (cap := c) (yM hTB hs) (yA hTB hz) (show l.toNat ≤ h.toNat by omega) (show h.toNat ≤ L.length by omega) b5 hl hh w
  refine ⟨_, w, M, ρ, by unfold execOp; simp only [← e1, Option.map_none, Sem.run_bind, hr]; rfl, hR, .os _ s k sz l.toNat h.toNat g' _ c _ b1 (fun hlt => ?_) (fun h0 => ?_)⟩
  · rw [if_neg (by omega), Option.map_some, Addr.add_mid, Nat.zero_add]
  · split
    · rfl
    · rw [Option.map_some, Addr.add_mid, h0]; simp
end
section
variable {P : Program} {X : Ctx} {n : Nat} {σ : AS} {Q : Exit → AS → Prop} {c : Code}
end
end Go.Proofs.YtnafokinifbfhaaGreatDoor
