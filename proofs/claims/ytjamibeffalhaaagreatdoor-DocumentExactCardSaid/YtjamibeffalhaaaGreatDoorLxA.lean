/- Networks, by plain functions: what network.Check says; nothing of the program stands here / network.Check and what it calls, by the abstract machine; conditions: the table of classes stands / Networks that came in, as values of the abstract machine; conditions: none / lexeme.Words, Join, Lines, their references, and the comparison of lists, by the abstract machine; conditions: a cell of the library stands. -/
import Derived.Test.YtjamibeffalhaaaGreatDoorLexP
import Derived.Test.YtjamibeffalhaaaGreatDoorAbsU
import Derived.Test.YtjamibeffalhaaaGreatDoorLexA
import Derived.Test.YtjamibeffalhaaaGreatDoorOpenB
import Derived.Deep.Strs
import Derived.Test.YtjamibeffalhaaaGreatDoorNmA
set_option linter.unusedVariables false
set_option linter.unusedSimpArgs false
namespace Go.Proofs.YtjamibeffalhaaaGreatDoor
open Go Go.RowKit
structure Nd where
  n : ByteArray
  cu : Int
  co : Int
  deriving DecidableEq
structure Dv where
  n : ByteArray
  k : Int
  a : Int
  b : Int
  co : Int
  deriving DecidableEq
def ju (n : Int) : Bool := decide (0 ≤ n) && decide (n ≤ 7)
def qp (k : Int) : Bool := decide (1 ≤ k) && decide (k ≤ 3)
def qQ (d : Dv) (m : Int) : Bool := if d.a < 0 ∨ m ≤ d.a then false else if qp d.k = false then decide (d.b = -1) else decide (0 ≤ d.b) && decide (d.b < m) && decide (d.b ≠ d.a)
def jS (U : List ByteArray) (s : ByteArray) : Bool := U.any fun u => decide (s = u)
/-- The nodes: the first error, or 0; the names that were used stand in U. -/
def ndGo (U : List ByteArray) : List Nd → Int
  | [] => 0
  | x :: l => if jT x.n.data.toList = false then 3 else if jS U x.n = true then 4 else if x.cu < 0 ∨ 1048576 < x.cu ∨ ju x.co = false then 5 else ndGo (U ++ [x.n]) l
def dvGo (m : Int) (U : List ByteArray) : List Dv → Int
  | [] => 0
  | d :: l => if jT d.n.data.toList = false then 3 else if jS U d.n = true then 4 else if d.k < 1 ∨ 6 < d.k then 6 else if qQ d m = false then 7 else if ju d.co = false then 5 else dvGo m (U ++ [d.n]) l
def netE (N : List Nd) (V : List Dv) : Int :=
  if 32 < N.length ∨ 64 < V.length then 1 else if ndGo [] N ≠ 0 then ndGo [] N else dvGo N.length (N.map Nd.n) V
/-- The used names as a map's entries. -/
def iE (U : List ByteArray) : List (Value × Value) := U.map fun n => (.string n, .bool true)
end Go.Proofs.YtjamibeffalhaaaGreatDoor
namespace Go.Proofs.YtjamibeffalhaaaGreatDoor
open Go Go.RowKit
set_option maxRecDepth 10000
variable {G : Nat → Option (List Value)}
def Nd.av (x : Nd) : AV := .ag [.v (.string x.n), .v (.int .i64 x.cu), .v (.int .i64 x.co)]
def Dv.av (d : Dv) : AV := .ag [.v (.string d.n), .v (.int .i64 d.k), .v (.int .i64 d.a), .v (.int .i64 d.b), .v (.int .i64 d.co)]
theorem kW (s n : ByteArray) : (s == n) = decide (s = n) := by
  obtain ⟨a⟩ := s
  obtain ⟨b⟩ := n
  show (a == b) = _
  by_cases h : a = b
  · subst h; simp
  · simp [h]
theorem qB (s : ByteArray) : ∀ U : List ByteArray, iR .string (.string s) (iE U) = some (if jS U s = true then some (.bool true) else none)
  | [] => rfl
  | n :: U => by
    have ih := qB s U
    unfold iE at ih ⊢
    rw [List.map_cons, iR]
    simp only [Instr.sameNow]
    by_cases h : s = n
    · subst h
      rw [kW]
      simp [jS]
    · rw [kW, decide_eq_false h]
      simp only [ih, jS, List.any_cons, decide_eq_false h, Bool.false_or]
      rfl
theorem wO (n : Int) : zy Tryz.prog G 76 [.v (.int .i64 n)] [] (.v (.bool (ju n))) [] := by
  refine zd tbOk (zf Tryz.func76 (by kernel_rfl) rfl) Tryz.func76 rfl _ Tryz.ntmps76 (Nat.le_of_ble_eq_true rfl) fun X hX => ?_
  subst hX
  repeat' (first | ((with_reducible refine zJ ?_); refine zK rfl ?_) | ((with_reducible refine zF ?_); refine zE rfl ?_) | ((with_reducible refine zW ?_); (first | refine zi rfl (by first | rfl | assumption) rfl ?_ | refine zh rfl (by first | rfl | assumption) rfl ?_)) | ((with_reducible refine zR ?_); refine zS rfl rfl rfl ?_)  | refine zL ?_ | refine zB rfl ?_ | refine zu rfl rfl (by first | rfl | assumption) ?_ | refine yB rfl rfl (by first | rfl | assumption) ?_ | with_reducible (first | refine zG ?_ | refine zH ?_ | refine zN ?_) | ((with_reducible refine zA ?_ ?_); kernel_rfl) | refine zn rfl rfl (fun _ => ?_) (fun _ => ?_) | refine zX rfl (fun _ => ?_) (fun _ => ?_))
  all_goals refine ze (by first | exact .inr rfl | exact .inl rfl) rfl rfl ?_
  all_goals simp_all [ju]
  all_goals (intros; omega)
theorem joins_A (n : Int) : zy Tryz.prog G 105 [.v (.int .i64 n)] [] (.v (.bool (qp n))) [] := by
  refine zd tbOk (zf Tryz.func105 (by kernel_rfl) rfl) Tryz.func105 rfl _ Tryz.ntmps105 (Nat.le_of_ble_eq_true rfl) fun X hX => ?_
  subst hX
  repeat' (first | ((with_reducible refine zJ ?_); refine zK rfl ?_) | ((with_reducible refine zF ?_); refine zE rfl ?_) | ((with_reducible refine zW ?_); (first | refine zi rfl (by first | rfl | assumption) rfl ?_ | refine zh rfl (by first | rfl | assumption) rfl ?_)) | ((with_reducible refine zR ?_); refine zS rfl rfl rfl ?_)  | refine zL ?_ | refine zB rfl ?_ | refine zu rfl rfl (by first | rfl | assumption) ?_ | refine yB rfl rfl (by first | rfl | assumption) ?_ | with_reducible (first | refine zG ?_ | refine zH ?_ | refine zN ?_) | ((with_reducible refine zA ?_ ?_); kernel_rfl) | refine zn rfl rfl (fun _ => ?_) (fun _ => ?_) | refine zX rfl (fun _ => ?_) (fun _ => ?_))
  all_goals refine ze (by first | exact .inr rfl | exact .inl rfl) rfl rfl ?_
  all_goals simp_all [qp]
  all_goals (intros; omega)
set_option maxHeartbeats 1000000 in
theorem vL (d : Dv) (m : Int) : zy Tryz.prog G 77 [d.av, .v (.int .i64 m)] [] (.v (.bool (qQ d m))) [] := by
  refine zd tbOk (zf Tryz.func77 (by kernel_rfl) rfl) Tryz.func77 rfl _ Tryz.ntmps77 (Nat.le_of_ble_eq_true rfl) fun X hX => ?_
  subst hX
  repeat' (first | ((with_reducible refine zJ ?_); refine zK rfl ?_) | ((with_reducible refine zF ?_); refine zE rfl ?_) | ((with_reducible refine zM ?_); refine zI tbOk rfl rfl rfl rfl ?_) | ((with_reducible refine zQ ?_); refine zO tbOk rfl rfl rfl rfl rfl ?_) | ((with_reducible refine yl ?_); refine yj rfl rfl rfl ?_) | ((with_reducible refine zW ?_); (first | refine zi rfl (by first | rfl | assumption) rfl ?_ | refine zh rfl (by first | rfl | assumption) rfl ?_)) | ((with_reducible refine zR ?_); refine zS rfl rfl rfl ?_)  | refine zL ?_ | refine zB rfl ?_ | refine zm rfl rfl (by first | rfl | assumption) ?_ | refine yC rfl rfl (by first | rfl | assumption) ?_ | with_reducible (first | refine zG ?_ | refine zP ?_ | refine zU ?_ | refine zH ?_ | refine zV ?_ | refine zN ?_) | ((with_reducible refine zA ?_ ?_); kernel_rfl) | refine zr rfl (by first | rfl | assumption) ?_ | refine zn rfl rfl (fun _ => ?_) (fun _ => ?_) | refine zX rfl (fun _ => ?_) (fun _ => ?_))
  all_goals first
    | (fail_if_success with_reducible refine zq ?_
       skip)
    | (refine zC (joins_A d.k) ?_
       skip)
  all_goals repeat' (first | ((with_reducible refine zJ ?_); refine zK rfl ?_) | ((with_reducible refine zF ?_); refine zE rfl ?_) | ((with_reducible refine zM ?_); refine zI tbOk rfl rfl rfl rfl ?_) | ((with_reducible refine zQ ?_); refine zO tbOk rfl rfl rfl rfl rfl ?_) | ((with_reducible refine k_un ?_); refine yz rfl ?_) | ((with_reducible refine zW ?_); (first | refine zi rfl (by first | rfl | assumption) rfl ?_ | refine zh rfl (by first | rfl | assumption) rfl ?_)) | ((with_reducible refine zR ?_); refine zS rfl rfl rfl ?_)  | refine zL ?_ | refine zB rfl ?_ | refine zu rfl rfl (by first | rfl | assumption) ?_ | refine yB rfl rfl (by first | rfl | assumption) ?_ | with_reducible (first | refine zG ?_ | refine zP ?_ | refine zo ?_ | refine zU ?_ | refine zH ?_ | refine zT ?_ | refine zN ?_) | ((with_reducible refine zA ?_ ?_); kernel_rfl) | refine zn rfl rfl (fun _ => ?_) (fun _ => ?_) | refine zX rfl (fun _ => ?_) (fun _ => ?_))
  all_goals refine ze (by first | exact .inr rfl | exact .inl rfl) rfl rfl ?_
  all_goals refine congrArg (fun b => AV.v (.bool b)) ?_
  all_goals simp_all [qQ]
  all_goals first
    | (intros; omega)
    | (rw [decide_eq_false (show ¬ d.a < 0 by omega), decide_eq_false (show ¬ m ≤ d.a by omega)]
       by_cases h9 : d.b = d.a <;> by_cases h10 : d.b = -1 <;> simp_all)
end Go.Proofs.YtjamibeffalhaaaGreatDoor
namespace Go.Proofs.YtjamibeffalhaaaGreatDoor
open Go Go.ChangeShapes Go.WideShapes Go.ChangeAt Go.RowKit Go.Deep
instance : Inhabited Nd := ⟨⟨ByteArray.empty, 0, 0⟩⟩
instance : Inhabited Dv := ⟨⟨ByteArray.empty, 0, 0, 0, 0⟩⟩
section
variable {H : Type} {enc : TypeId × Value → H} {W : World}
theorem yq : jv enc Tryz.prog W 3 (fun z : Int => .v (.int .i64 z)) 1 (fun z => (Lit.int .i64 z).wf = true) := tW Tryz.underlying3 (by kernel_rfl)
theorem cZ : jv enc Tryz.prog W 9 (fun z : ByteArray => .v (.string z)) 1 (fun z => z.size ≤ maxLen) := uS Tryz.underlying9 (by kernel_rfl)
theorem rK : jv enc Tryz.prog W 61 Nd.av 3 (fun x => x.n.size ≤ maxLen) :=
  qy (fun x : ByteArray × Int × Int × Unit => ⟨x.1, x.2.1, x.2.2.1⟩) (jp Tryz.underlying61 (by kernel_rfl) (yM cZ rfl rfl (yM yq rfl rfl (yM yq rfl rfl (qX _))))) (fun _ => rfl) (fun a q => q.1)
theorem uI : jv enc Tryz.prog W 63 Dv.av 5 (fun x => x.n.size ≤ maxLen) :=
  qy (fun x : ByteArray × Int × Int × Int × Int × Unit => ⟨x.1, x.2.1, x.2.2.1, x.2.2.2.1, x.2.2.2.2.1⟩) (jp Tryz.underlying63 (by kernel_rfl) (yM cZ rfl rfl (yM yq rfl rfl (yM yq rfl rfl (yM yq rfl rfl (yM yq rfl rfl (qX _))))))) (fun _ => rfl) (fun a q => q.1)
theorem pT : jv enc Tryz.prog W 27 (fun L : List Nd => .sl 3 (L.map Nd.av)) 1 (fun L => L.length ≤ maxLen ∧ ∀ r ∈ L, r.n.size ≤ maxLen) := aS Tryz.underlying27 (by kernel_rfl) (by decide) rK
theorem rH : jv enc Tryz.prog W 28 (fun L : List Dv => .sl 5 (L.map Dv.av)) 1 (fun L => L.length ≤ maxLen ∧ ∀ r ∈ L, r.n.size ≤ maxLen) := aS Tryz.underlying28 (by kernel_rfl) (by decide) uI
theorem uD : jv enc Tryz.prog W 30 (fun x : List Nd × List Dv => .ag [.sl 3 (x.1.map Nd.av), .sl 5 (x.2.map Dv.av)]) 2 (fun x => (x.1.length ≤ maxLen ∧ ∀ r ∈ x.1, r.n.size ≤ maxLen) ∧ (x.2.length ≤ maxLen ∧ ∀ r ∈ x.2, r.n.size ≤ maxLen)) :=
  qy (fun x : List Nd × List Dv × Unit => (x.1, x.2.1)) (jp Tryz.underlying30 (by kernel_rfl) (yM pT rfl rfl (yM rH rfl rfl (qX _)))) (fun _ => rfl) (fun a q => ⟨q.1, q.2.1⟩)
end
end Go.Proofs.YtjamibeffalhaaaGreatDoor
namespace Go.Proofs.YtjamibeffalhaaaGreatDoor
open Go Go.RowKit
set_option maxRecDepth 10000
variable {G : Nat → Option (List Value)}
theorem mP (s : ByteArray) (hs : s.size ≤ 4294967296) : zy Tryz.prog G 41 [.v (.string s)] [] (.sl 1 ((yU s.data.toList).map svL)) [] := by
  refine zd tbOk (zf Tryz.func41 (by kernel_rfl) rfl) Tryz.func41 rfl _ Tryz.ntmps41 (Nat.le_of_ble_eq_true rfl) fun X hX => ?_
  subst hX
  repeat (first | ((with_reducible refine zJ ?_); refine zK rfl ?_) | ((with_reducible refine zF ?_); refine zE rfl ?_)  | refine zL ?_ | refine zB rfl ?_ | with_reducible (first | refine zG ?_ | refine zH ?_) | ((with_reducible refine zA ?_ ?_); kernel_rfl))
  refine zC (vR s hs) ?_
  repeat (first | ((with_reducible refine zF ?_); refine zE rfl ?_)  | refine zL ?_ | refine zB rfl ?_ | with_reducible (first | refine zG ?_ | refine zN ?_) )
  refine dT (by first | exact .inr rfl | exact .inl rfl) rfl rfl ?_
  repeat' (first | exact trivial | exact Ren.v _ | exact Ren.sl _ _ | exact Ren.ep _ | exact Ren.ptr _ _ _ _ rfl | exact Ren.bs _ _ _ _ _ rfl | exact Ren.nil _ | exact Ren.own _ _ _ _ ⟨_, rfl⟩ | refine zv ?_ | refine zx ?_ | refine zw ?_ | refine ⟨?_, ?_⟩)
theorem ba_ext' {s : ByteArray} {l : List UInt8} (h : s.data.toList = l) : s = strL l := by
  subst h; rfl
theorem wQ (s : ByteArray) (a b : Nat) : s.extract a b = strL (extL s (a, b)) := by
  refine ba_ext' ?_
  rw [ByteArray.data_extract, Array.toList_extract, List.extract_eq_take_drop, extL, List.drop_take]
theorem iM (x : List UInt8) : ∀ (L : List (List UInt8)), yW (L ++ [x]) = if L = [] then x else yW L ++ 32 :: x
  | [] => by rw [if_pos rfl]; exact jd x
  | [w] => by rw [if_neg (by simp), jd]; exact (yR w x []).trans (by rw [jd])
  | w :: y :: r => by
    rw [if_neg (by simp)]
    have := iM x (y :: r)
    rw [if_neg (by simp)] at this
    rw [yR]
    show yW (w :: y :: (r ++ [x])) = _
    rw [yR, show y :: (r ++ [x]) = (y :: r) ++ [x] from rfl, this]
    simp
theorem jn_A (L : List (List UInt8)) (hn : L.length ≤ 140737488355328) (hs : (yW L).length ≤ 140737488355328) : zy Tryz.prog G 56 [.sl 1 (L.map svL)] [] (svL (yW L)) [] := by
  refine zd tbOk (zf Tryz.func56 (by kernel_rfl) rfl) Tryz.func56 rfl _ Tryz.ntmps56 (Nat.le_of_ble_eq_true rfl) fun X hX => ?_
  subst hX
  repeat (first | ((with_reducible refine zJ ?_); refine zK rfl ?_) | ((with_reducible refine zF ?_); refine zE rfl ?_)  | refine zL ?_ | refine zB rfl ?_ | with_reducible (first | refine zG ?_ | refine zH ?_) | ((with_reducible refine zA ?_ ?_); kernel_rfl))
  refine zC (join_A L 32 hn hs) ?_
  repeat (first | ((with_reducible refine zF ?_); refine zE rfl ?_)  | refine zL ?_ | refine zB rfl ?_ | with_reducible (first | refine zG ?_ | refine zN ?_) )
  refine ze (by first | exact .inr rfl | exact .inl rfl) rfl rfl ?_
  rfl
end Go.Proofs.YtjamibeffalhaaaGreatDoor
