/- slices.SortFunc at people, where there are few, by the abstract machine; conditions: none. -/
import Derived.Test.YtggagmafkdhjcaaGreatDoorAbsW
import Derived.Test.YtggagmafkdhjcaaGreatDoorAbsN
import Derived.Test.YtggagmafkdhjcaaGreatDoorShelf
import Derived.Test.YtggagmafkdhjcaaGreatDoorRgP
import Derived.Test.YtggagmafkdhjcaaGreatDoorRgE
set_option linter.unusedVariables false
set_option linter.unusedSimpArgs false
namespace Go.Proofs.YtggagmafkdhjcaaGreatDoor
open Go Go.RowKit
set_option maxRecDepth 10000
variable {G : Nat → Option (List Value)}
def cmpT (a b : ByteArray) : Int := if jQ a b = true then -1 else if jQ b a = true then 1 else 0
def cmpP (a b : Per) : Int := cmpT a.n b.n
def ltP (a b : Per) : Bool := decide (cmpP a b < 0)
theorem eL (a b : Per) : ltP a b = jQ a.n b.n := by
  unfold ltP cmpP cmpT
  cases h : jQ a.n b.n
  · cases h2 : jQ b.n a.n <;> rfl
  · rfl
theorem oK (n : ByteArray) : jD Tryz.prog G 71 [.v (.string n)] [] (.v (.bool false)) [] := by
  have q : (!jM n n) = false := by rw [ja.2 rfl]; rfl
  refine yi tbOk (yj Tryz.func71 (by kernel_rfl) rfl) Tryz.func71 rfl _ Tryz.ntmps71 (Nat.le_of_ble_eq_true rfl) fun X hX => ?_
  subst hX
  repeat' (first | ((with_reducible refine zm ?_); refine zl rfl ?_) | ((with_reducible refine zL ?_); refine zM rfl ?_) | ((with_reducible refine zA ?_); refine yh rfl rfl rfl ?_)  | refine yA ?_ | refine zS rfl ?_ | with_reducible (first | refine zY ?_ | refine zR ?_ | refine zv ?_) | ((with_reducible refine zJ ?_ ?_); kernel_rfl) | refine jH rfl rfl (fun _ => ?_) (fun _ => ?_) | refine jE rfl (fun _ => ?_) (fun _ => ?_))
  refine jK (by first | exact .inr rfl | exact .inl rfl) rfl rfl ?_
  first | rfl | simp [ja.2 rfl]
theorem oM (a b : ByteArray) : jD Tryz.prog G 47 [.v (.string a), .v (.string b)] [] (.v (.int .i64 (cmpT a b))) [] := by
  refine yi tbOk (yj Tryz.func47 (by kernel_rfl) rfl) Tryz.func47 rfl _ Tryz.ntmps47 (Nat.le_of_ble_eq_true rfl) fun X hX => ?_
  subst hX
  repeat (first | ((with_reducible refine zm ?_); refine zl rfl ?_) | ((with_reducible refine zL ?_); refine zM rfl ?_)  | refine yA ?_ | refine zS rfl ?_ | with_reducible (first | refine zY ?_ | refine zR ?_) | ((with_reducible refine zJ ?_ ?_); kernel_rfl))
  refine zC (oK a) ?_
  repeat (first | ((with_reducible refine zm ?_); refine zl rfl ?_) | ((with_reducible refine zL ?_); refine zM rfl ?_)  | refine yA ?_ | refine zS rfl ?_ | with_reducible (first | refine zY ?_ | refine zR ?_) | ((with_reducible refine zJ ?_ ?_); kernel_rfl))
  refine zC (oK b) ?_
  repeat' (first | ((with_reducible refine zm ?_); refine zl rfl ?_) | ((with_reducible refine zL ?_); refine zM rfl ?_) | ((with_reducible refine zA ?_); refine yh rfl rfl rfl ?_)  | refine yA ?_ | refine zS rfl ?_ | with_reducible (first | refine zY ?_ | refine zV ?_ | refine zR ?_ | refine zr ?_ | refine zv ?_) | ((with_reducible refine zJ ?_ ?_); kernel_rfl) | refine yJ rfl (by first | rfl | assumption) ?_ | refine jH rfl rfl (fun _ => ?_) (fun _ => ?_) | refine jE rfl (fun _ => ?_) (fun _ => ?_))
  all_goals refine jK (by first | exact .inr rfl | exact .inl rfl) rfl rfl ?_
  all_goals (unfold cmpT; simp_all)
  · rename_i h1 h2
    have h3 := rD a b
    have h4 : jM b a = false := by
      rw [Bool.eq_false_iff]
      intro h
      have := ja.1 h
      rw [this, ja.2 rfl] at h2
      cases h2
    rw [h1, h4] at h3
    simpa using h3.symm
  · rename_i h1 h2
    have := ja.1 h2
    subst this
    exact h1
theorem wU (x y : Per) : jD Tryz.prog G 46 [x.av, y.av] [] (.v (.int .i64 (cmpP x y))) [] := by
  refine yi tbOk (yj Tryz.func46 (by kernel_rfl) rfl) Tryz.func46 rfl _ Tryz.ntmps46 (Nat.le_of_ble_eq_true rfl) fun X hX => ?_
  subst hX
  repeat (first | ((with_reducible refine zL ?_); refine zM rfl ?_) | ((with_reducible refine zB ?_); refine zH tbOk rfl rfl rfl rfl ?_) | ((with_reducible refine zF ?_); refine zX tbOk rfl rfl rfl rfl rfl ?_) | ((with_reducible refine yo ?_); refine ym rfl rfl rfl ?_)  | refine yA ?_ | refine zS rfl ?_ | with_reducible (first | refine zY ?_ | refine zR ?_) | ((with_reducible refine zJ ?_ ?_); kernel_rfl))
  refine zC (oM x.n y.n) ?_
  repeat (first | ((with_reducible refine zL ?_); refine zM rfl ?_)  | refine yA ?_ | refine zS rfl ?_ | with_reducible (first | refine zY ?_ | refine zv ?_) )
  refine jK (by first | exact .inr rfl | exact .inl rfl) rfl rfl ?_
  rfl
theorem oR (n : Int) (h0 : 0 ≤ n) (h1 : n ≤ 18446744073709551615) : jD Tryz.prog G 70 [.v (.int .u64 n)] [] (.v (.int .i64 (Lib.bitLen n.toNat))) [] :=
  bS (vs := [.int .u64 n]) (yj Tryz.func70 (by kernel_rfl) rfl) (fun _ _ => .v _ _) (fun w hw => by
    refine (Tryz.bits_Len n w h0 h1).mono ?_
    rintro e w' ⟨rfl, rfl⟩
    exact ⟨rfl, Below.refl _ _⟩)
set_option maxHeartbeats 4000000 in
theorem wQ (L : List Per) (J : List AV) (hJ : ∀ x ∈ J, x = AV.junk) (hm : L.length ≤ 100000) : jD Tryz.prog G 88 [.bs (refB + 0) 0 5 L.length, .v (.int .i64 0), .v (.int .i64 L.length), .fn 46 []] [bsC (L.map Per.av) J] (.tu []) [bsC ((jv ltP L).map Per.av) J] := by
  have hsz : ∀ (R : List Per), ∀ x ∈ R.map Per.av, x.cells.length = 5 := fun R x hx => by
    obtain ⟨y, -, rfl⟩ := List.mem_map.1 hx
    rfl
  have hpu : ∀ (R : List Per), ∀ x ∈ R.map Per.av, qC x.cells = true := fun R x hx => by
    obtain ⟨y, -, rfl⟩ := List.mem_map.1 hx
    rfl
  have hgt : ∀ (R : List Per) (j : Nat) (x : Per), R[j]? = some x → (R.map Per.av)[j]? = some (Per.av x) := fun R j x hx => by rw [List.getElem?_map, hx]; rfl
  refine yi tbOk (yj Tryz.func88 (by kernel_rfl) rfl) Tryz.func88 rfl _ Tryz.ntmps88 (Nat.le_of_ble_eq_true rfl) fun X hX => ?_
  subst hX
  repeat (first | ((with_reducible refine zm ?_); refine zl rfl ?_) | ((with_reducible refine zL ?_); refine zM rfl ?_) | ((with_reducible refine zA ?_); refine yE rfl rfl (by omega) ?_)  | refine yA ?_ | refine zS rfl ?_ | with_reducible (first | refine zY ?_ | refine zR ?_ | refine zq ?_) | ((with_reducible refine zJ ?_ ?_); kernel_rfl))
  refine qT (ι := Nat) (fun v i => v (refB + 0) = 0 ∧ 1 ≤ i ∧ (i ≤ L.length ∨ i = 1)) (fun i => L.length + 1 - i) (fun v i => [(0, .bs (refB + 0) (v (refB + 0)) 5 L.length), (1, .v (.int .i64 0)), (2, .v (.int .i64 L.length)), (3, .fn 46 []), (8, .v (.int .i64 i))]) (fun v i => [(refB + 0, .box (bsC ((outr ltP i L).map Per.av) J))]) ?_ ?_
  · refine ⟨1, ⟨rfl, Nat.le_refl _, .inr rfl⟩, trivial, ⟨rfl, rfl, rfl, rfl, rfl, trivial⟩, ⟨rfl, trivial⟩⟩
  rintro v i ⟨hv0, hi1, hi2⟩
  repeat (first | ((with_reducible refine zm ?_); refine zl rfl ?_) | ((with_reducible refine zA ?_); refine yM rfl rfl rfl ?_)  | refine yA ?_ | refine zS rfl ?_ | with_reducible (first | refine zY ?_ | refine zR ?_) | ((with_reducible refine zJ ?_ ?_); kernel_rfl))
  refine jE rfl (fun h => ?_) (fun h => ?_)
  · have hlt : i < L.length := by simp at h; omega
    repeat (first | ((with_reducible refine zm ?_); refine zl rfl ?_) | ((with_reducible refine zL ?_); refine zM rfl ?_)  | refine yA ?_ | refine zS rfl ?_ | with_reducible (first | refine zY ?_ | refine zR ?_ | refine zq ?_ | refine zr ?_) | ((with_reducible refine zJ ?_ ?_); kernel_rfl))
    refine qT (ι := Nat × List Per) (fun v q => v (refB + 0) = 0 ∧ q.1 ≤ i ∧ q.2.length = L.length ∧ inn ltP q.1 q.2 = outr ltP (i + 1) L) (fun q => q.1) (fun v q => [(0, .bs (refB + 0) (v (refB + 0)) 5 L.length), (1, .v (.int .i64 0)), (2, .v (.int .i64 L.length)), (3, .fn 46 []), (8, .v (.int .i64 i)), (9, .v (.int .i64 (q.1 : Nat)))]) (fun v q => [(refB + 0, .box (bsC (q.2.map Per.av) J))]) ?_ ?_
    · refine ⟨(i, outr ltP i L), ⟨hv0, Nat.le_refl _, eO _ _, rfl⟩, trivial, ⟨rfl, rfl, rfl, rfl, rfl, rfl, trivial⟩, ⟨rfl, trivial⟩⟩
    rintro v ⟨j, R⟩ ⟨hv0, hj, hR, hf⟩
    simp only at hj hR hf
    dsimp only
    repeat (first | ((with_reducible refine zm ?_); refine zl rfl ?_) | ((with_reducible refine zA ?_); refine yM rfl rfl rfl ?_)  | refine zS rfl ?_ | with_reducible refine zR ?_ | ((with_reducible refine yg mixd ?_ ?_); kernel_rfl))
    by_cases hj0 : j = 0
    · subst hj0
      have p1 : decide (((0 : Nat) : Int) > 0) = false := rfl
      repeat (first | ((with_reducible refine zm ?_); refine zl rfl ?_) | ((with_reducible refine zL ?_); refine zM rfl ?_) | ((with_reducible refine zh ?_); refine yP rfl (by first | rfl | assumption) rfl ?_) | ((with_reducible refine zA ?_); refine yE rfl rfl (by omega) ?_)  | refine yA ?_ | refine yl (by kernel_rfl) ?_ | refine zS rfl ?_ | refine yL rfl rfl (by first | rfl | assumption) ?_ | with_reducible (first | refine zY ?_ | refine ze ?_ | refine yV ?_ | refine yK ?_) | ((with_reducible refine zW ?_ ?_); rfl) | ((with_reducible refine zJ ?_ ?_); kernel_rfl) | refine yJ rfl (by first | rfl | assumption) ?_)
      refine ⟨i + 1, ⟨hv0, by omega, .inl (by omega)⟩, by omega, ⟨rfl, rfl, rfl, rfl, rfl, trivial⟩, ⟨?_, trivial⟩⟩
      rw [← hf]; rfl
    obtain ⟨k, rfl⟩ : ∃ k, j = k + 1 := ⟨j - 1, by omega⟩
    have p1 : decide (((k + 1 : Nat) : Int) > 0) = true := by simp
    obtain ⟨x, hx⟩ := yr (L := R) (k := k + 1) (by omega)
    obtain ⟨y, hy⟩ := yr (L := R) (k := k) (by omega)
    have hlx : dT ltP R (k + 1) k = ltP x y := by unfold dT; rw [hx, hy]
    rw [inn, hlx] at hf
    have hxy := hgt R (k + 1) x hx
    have hyy := hgt R k y hy
    repeat (first | ((with_reducible refine zm ?_); refine zl rfl ?_)  | refine yR rfl rfl (by first | rfl | assumption) ?_  )
    with_reducible refine zE ?_
    refine jd tbOk rfl rfl rfl rfl ⟨by omega, by omega⟩ ?_
    repeat (first   | refine yR rfl rfl (by first | rfl | assumption) ?_  )
    with_reducible refine zF ?_
    refine bB (j := k + 1) tbOk rfl rfl rfl rfl (by rw [Int.toNat_natCast]) (hsz R) hxy ?_
    repeat (first | ((with_reducible refine zm ?_); refine zl rfl ?_) | ((with_reducible refine zA ?_); refine yN rfl rfl (by omega) ?_)  | refine yR rfl rfl (by first | rfl | assumption) ?_  )
    with_reducible refine zE ?_
    refine jd tbOk rfl rfl rfl rfl ⟨by omega, by omega⟩ ?_
    repeat (first   | refine yR rfl rfl (by first | rfl | assumption) ?_  )
    with_reducible refine zF ?_
    refine bB (j := k) tbOk rfl rfl rfl rfl (by congr 1; omega) (hsz R) hyy ?_
    repeat (first   | refine yR rfl rfl (by first | rfl | assumption) ?_  )
    with_reducible refine zG ?_
    refine dQ (ss := []) (cs' := []) (wU x y) rfl (by repeat' (first | exact trivial | exact Ren.v _ | exact Ren.sl _ _ | exact Ren.ep _ | exact Ren.ptr _ _ _ _ rfl | exact Ren.bs _ _ _ _ _ rfl | exact Ren.nil _ | exact Ren.own _ _ _ _ ⟨_, rfl⟩ | refine yz ?_ | refine jA ?_ | refine jB ?_ | refine ⟨?_, ?_⟩)) (by simp) trivial rfl trivial (by repeat' (first | exact trivial | exact RenB.v _ | exact RenB.sl _ _ | exact RenB.ep _ | exact RenB.ptr _ _ _ _ rfl | refine aA ?_ | refine qv ?_ | refine ⟨?_, ?_⟩)) ?_
    repeat (first | ((with_reducible refine zh ?_); refine yO rfl (by first | rfl | assumption) rfl ?_) | ((with_reducible refine zA ?_); refine yM rfl rfl rfl ?_)  | refine yl (by kernel_rfl) ?_ | refine zS rfl ?_ | refine yR rfl rfl (by first | rfl | assumption) ?_ | with_reducible refine zY ?_ )
    cases hc : ltP x y with
    | false =>
      rw [hc, if_neg (by decide)] at hf
      have p2 : decide (cmpP x y < 0) = false := hc
      repeat (first | ((with_reducible refine zm ?_); refine zl rfl ?_) | ((with_reducible refine zL ?_); refine zM rfl ?_) | ((with_reducible refine zA ?_); refine yE rfl rfl (by omega) ?_)  | refine yA ?_ | refine zS rfl ?_ | with_reducible (first | refine zY ?_ | refine ze ?_ | refine yV ?_ | refine yK ?_) | ((with_reducible refine zW ?_ ?_); rfl) | ((with_reducible refine zJ ?_ ?_); kernel_rfl) | refine yJ rfl (by first | rfl | assumption) ?_)
      refine ⟨i + 1, ⟨hv0, by omega, .inl (by omega)⟩, by omega, ⟨rfl, rfl, rfl, rfl, rfl, trivial⟩, ⟨?_, trivial⟩⟩
      rw [← hf]; rfl
    | true =>
      rw [hc, if_pos rfl, sP hx hy] at hf
      have p2 : decide (cmpP x y < 0) = true := hc
      have hset1 : ((R.map Per.av).set (k + 1) (Per.av y)) = (R.set (k + 1) y).map Per.av := by rw [List.map_set]
      have hset2 : (((R.set (k + 1) y).map Per.av).set k (Per.av x)) = ((R.set (k + 1) y).set k x).map Per.av := by rw [List.map_set, List.map_set, List.map_set]
      have hzz := hgt (R.set (k + 1) y) k y (by rw [List.getElem?_set_ne (by omega)]; exact hy)
      repeat (first | ((with_reducible refine zm ?_); refine zl rfl ?_) | ((with_reducible refine zA ?_); refine yN rfl rfl (by omega) ?_)  | refine zS rfl ?_ | with_reducible (first | refine zY ?_ | refine zR ?_ | refine zq ?_ | refine zr ?_) | ((with_reducible refine yg mixd ?_ ?_); kernel_rfl) | refine yD rfl (by first | rfl | assumption) ?_)
      with_reducible refine zE ?_
      refine jd tbOk rfl rfl rfl rfl ⟨by omega, by omega⟩ ?_
      repeat (first   | refine zS rfl ?_  )
      with_reducible refine zF ?_
      refine bB (j := k) tbOk rfl rfl rfl rfl (by congr 1; omega) (hsz R) hyy ?_
      repeat (first | ((with_reducible refine zm ?_); refine zl rfl ?_)  | refine zS rfl ?_  )
      with_reducible refine zE ?_
      refine jd tbOk rfl rfl rfl rfl ⟨by omega, by omega⟩ ?_
      repeat (first   | refine zS rfl ?_  )
      with_reducible refine zF ?_
      refine bB (j := k + 1) tbOk rfl rfl rfl rfl (by rw [Int.toNat_natCast]) (hsz R) hxy ?_
      repeat (first   | refine zS rfl ?_  )
      with_reducible refine zE ?_
      refine jd tbOk rfl rfl rfl rfl ⟨by omega, by omega⟩ ?_
      repeat (first   | refine zS rfl ?_  )
      with_reducible refine yQ ?_
      refine dX (j := k + 1) (z := Per.av y) tbOk rfl rfl rfl rfl (by rw [Int.toNat_natCast]) (hsz R) hxy rfl rfl rfl ?_
      rw [hset1]
      repeat (first   | refine zS rfl ?_  )
      with_reducible refine zE ?_
      refine jd tbOk rfl rfl rfl rfl ⟨by omega, by omega⟩ ?_
      repeat (first   | refine zS rfl ?_  )
      with_reducible refine yQ ?_
      refine dX (j := k) (z := Per.av x) tbOk rfl rfl rfl rfl (by congr 1; omega) (hsz _) hzz rfl rfl rfl ?_
      rw [hset2]
      repeat (first | ((with_reducible refine zm ?_); refine zl rfl ?_) | ((with_reducible refine zL ?_); refine zM rfl ?_) | ((with_reducible refine zA ?_); refine yN rfl rfl (by omega) ?_)  | refine yA ?_ | refine yl (by kernel_rfl) ?_ | refine zS rfl ?_ | with_reducible (first | refine zY ?_ | refine yV ?_) | ((with_reducible refine zJ ?_ ?_); kernel_rfl))
      refine ⟨(k, (R.set (k + 1) y).set k x), ⟨hv0, by show k ≤ i; omega, by show ((R.set (k + 1) y).set k x).length = L.length; rw [List.length_set, List.length_set]; exact hR, hf⟩, by show k < k + 1; omega, ⟨rfl, rfl, rfl, rfl, rfl, ?_, trivial⟩, ⟨rfl, trivial⟩⟩
      show AV.v (.int .i64 _) = AV.v (.int .i64 _)
      congr 2
      omega
  · have he : outr ltP i L = jv ltP L := by
      unfold jv
      rcases hi2 with h1 | h1
      · have : i = L.length := by simp at h; omega
        rw [this]
      · subst h1
        have : L.length = 0 ∨ L.length = 1 := by simp at h; omega
        rcases this with h2 | h2
        · rw [h2]; rfl
        · rw [h2]
    rw [he, hv0]
    repeat (first    | with_reducible (first | refine ze ?_ | refine yK ?_) | ((with_reducible refine zW ?_ ?_); rfl) )
    refine ret1 (by first | exact .inr rfl | exact .inl rfl) (xs := []) ?_ (by repeat' (first | exact trivial | exact Ren.v _ | exact Ren.sl _ _ | exact Ren.ep _ | exact Ren.ptr _ _ _ _ rfl | exact Ren.bs _ _ _ _ _ rfl | exact Ren.nil _ | exact Ren.own _ _ _ _ ⟨_, rfl⟩ | refine yz ?_ | refine jA ?_ | refine jB ?_ | refine ⟨?_, ?_⟩)) rfl hv0 (cC (qw (hpu _) hJ))
    trivial
theorem wE (L : List Per) (J : List AV) (lim : Int) (hJ : ∀ x ∈ J, x = AV.junk) (hm : L.length ≤ 12) : jD Tryz.prog G 69 [.bs (refB + 0) 0 5 L.length, .v (.int .i64 0), .v (.int .i64 L.length), .v (.int .i64 lim), .fn 46 []] [bsC (L.map Per.av) J] (.tu []) [bsC ((jv ltP L).map Per.av) J] := by
  have hpu : ∀ (R : List Per), ∀ x ∈ R.map Per.av, qC x.cells = true := fun R x hx => by
    obtain ⟨y, -, rfl⟩ := List.mem_map.1 hx
    rfl
  have q1 : decide ((L.length : Int) ≤ 12) = true := by simp; omega
  have q0 : (L.length : Int) - 0 = L.length := by omega
  refine yi tbOk (yj Tryz.func69 (by kernel_rfl) rfl) Tryz.func69 rfl _ Tryz.ntmps69 (Nat.le_of_ble_eq_true rfl) fun X hX => ?_
  subst hX
  repeat (first | ((with_reducible refine zL ?_); refine zM rfl ?_)  | refine yA ?_ | refine zS rfl ?_ | with_reducible (first | refine zY ?_ | refine zR ?_ | refine zq ?_) | ((with_reducible refine zJ ?_ ?_); kernel_rfl))
  refine qT (ι := Unit) (fun v i => v (refB + 0) = 0) (fun i => 0) (fun v i => [(0, .bs (refB + 0) (v (refB + 0)) 5 L.length), (1, .v (.int .i64 0)), (2, .v (.int .i64 L.length)), (3, .v (.int .i64 lim)), (4, .fn 46 [])]) (fun v i => [(refB + 0, .box (bsC (L.map Per.av) J))]) ?_ ?_
  · exact ⟨(), rfl, trivial, ⟨rfl, rfl, rfl, rfl, rfl, trivial⟩, ⟨rfl, trivial⟩⟩
  rintro v ⟨⟩ hv0
  repeat (first | ((with_reducible refine zm ?_); refine zl rfl ?_) | ((with_reducible refine zL ?_); refine zM rfl ?_) | ((with_reducible refine zA ?_); (first | refine yN rfl rfl (by omega) ?_ | refine yM rfl rfl rfl ?_))  | refine yA ?_ | refine zS rfl ?_ | with_reducible (first | refine zY ?_ | refine zR ?_ | refine zq ?_) | ((with_reducible refine zJ ?_ ?_); kernel_rfl) | refine yD rfl (by first | rfl | assumption) ?_)
  rw [q0]
  repeat (first | fail    )
  with_reducible refine zG ?_
  refine zD (y := .tu []) (ss := [(refB + 0, v (refB + 0))]) (wQ L J hJ (by omega)) (by simp) (mV rfl (qw (hpu _) hJ)) rfl (eJ (qw (hpu _) hJ)) ?_
  repeat (first   | refine yA ?_ | with_reducible (first | refine zY ?_ | refine zV ?_ | refine za ?_ | refine zv ?_) )
  refine ret1 (by first | exact .inr rfl | exact .inl rfl) (xs := []) ?_ (by repeat' (first | exact trivial | exact Ren.v _ | exact Ren.sl _ _ | exact Ren.ep _ | exact Ren.ptr _ _ _ _ rfl | exact Ren.bs _ _ _ _ _ rfl | exact Ren.nil _ | exact Ren.own _ _ _ _ ⟨_, rfl⟩ | refine yz ?_ | refine jA ?_ | refine jB ?_ | refine ⟨?_, ?_⟩)) rfl hv0 (cC (qw (hpu _) hJ))
  trivial
theorem rW (L : List Per) (J : List AV) (hJ : ∀ x ∈ J, x = AV.junk) (hm : L.length ≤ 12) : jD Tryz.prog G 45 [.bs (refB + 0) 0 5 L.length, .fn 46 []] [bsC (L.map Per.av) J] (.tu []) [bsC ((jv ltP L).map Per.av) J] := by
  have hpu : ∀ (R : List Per), ∀ x ∈ R.map Per.av, qC x.cells = true := fun R x hx => by
    obtain ⟨y, -, rfl⟩ := List.mem_map.1 hx
    rfl
  refine yi tbOk (yj Tryz.func45 (by kernel_rfl) rfl) Tryz.func45 rfl _ Tryz.ntmps45 (Nat.le_of_ble_eq_true rfl) fun X hX => ?_
  subst hX
  repeat (first | ((with_reducible refine zm ?_); refine zl rfl ?_)  | refine zS rfl ?_ | with_reducible refine zR ?_ | ((with_reducible refine zJ ?_ ?_); kernel_rfl))
  with_reducible refine zG ?_
  refine pY tbOk rfl rfl ?_
  repeat (first | ((with_reducible refine zm ?_); refine zl rfl ?_) | ((with_reducible refine zL ?_); refine zM rfl ?_) | ((with_reducible refine zK ?_); refine yC tbOk rfl rfl rfl (by first | assumption | exact zi (by omega) | exact zf (by omega) | exact zt (by omega)) ?_)  | refine yA ?_ | refine zS rfl ?_ | with_reducible refine zY ?_ | ((with_reducible refine zJ ?_ ?_); kernel_rfl))
  refine zC (oR (L.length : Int) (by omega) (by omega)) ?_
  repeat (first | ((with_reducible refine zm ?_); refine zl rfl ?_)  | refine zS rfl ?_  )
  with_reducible refine zG ?_
  refine zD (y := .tu []) (ss := [(refB + 0, 0)]) (wE L J _ hJ hm) (by simp) (mV rfl (qw (hpu _) hJ)) rfl (eJ (qw (hpu _) hJ)) ?_
  repeat (first   | refine yA ?_  )
  refine ret1 (by first | exact .inr rfl | exact .inl rfl) (xs := []) ?_ (by repeat' (first | exact trivial | exact Ren.v _ | exact Ren.sl _ _ | exact Ren.ep _ | exact Ren.ptr _ _ _ _ rfl | exact Ren.bs _ _ _ _ _ rfl | exact Ren.nil _ | exact Ren.own _ _ _ _ ⟨_, rfl⟩ | refine yz ?_ | refine jA ?_ | refine jB ?_ | refine ⟨?_, ?_⟩)) rfl rfl (cC (qw (hpu _) hJ))
  trivial
end Go.Proofs.YtggagmafkdhjcaaGreatDoor
