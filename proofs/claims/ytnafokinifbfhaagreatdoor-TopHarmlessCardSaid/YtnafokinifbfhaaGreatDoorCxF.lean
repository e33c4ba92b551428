/- The executor itself: a frame's slots and memory's names in tries, one operation, one region, the code by fuel; written so that the kernel reckons it quickly; nothing of the program stands here; conditions: none. -/
import Derived.Test.YtnafokinifbfhaaGreatDoorCxG
set_option linter.unusedVariables false
set_option linter.unusedSimpArgs false
namespace Go.Proofs.YtnafokinifbfhaaGreatDoor.Cx
open Go Go.RowKit
inductive Tr (α : Type) where
  | nil
  | node (l : Tr α) (x : α) (r : Tr α)
/-- A number that is reckoned before it is handed on. -/
noncomputable def fN {β : Type} (n : Nat) (K : Nat → β) : β := @Nat.rec (fun _ => β) (K 0) (fun m _ => K m) (Nat.succ n)
theorem qF {β : Type} (n : Nat) (K : Nat → β) : fN n K = K n := rfl
noncomputable def fZ {β : Type} (z : Int) (K : Int → β) : β := @Int.rec (fun _ => β) (fun n => fN n fun n => K (.ofNat n)) (fun n => fN n fun n => K (.negSucc n)) z
theorem fZ_eq {β : Type} (z : Int) (K : Int → β) : fZ z K = K z := by cases z <;> rfl
noncomputable def fB {β : Type} (b : Bool) (K : Bool → β) : β := @Bool.rec (fun _ => β) (K false) (K true) b
theorem gL {β : Type} (b : Bool) (K : Bool → β) : fB b K = K b := by cases b <;> rfl
noncomputable def fL {α β : Type} (l : List α) : (List α → β) → β := @List.rec α (fun _ => (List α → β) → β) (fun K => K []) (fun x _ ih K => ih fun l => K (x :: l)) l
theorem fJ {α β : Type} : ∀ (l : List α) (K : List α → β), fL l K = K l
  | [], _ => rfl
  | x :: l, K => fJ l fun l => K (x :: l)
noncomputable def Tr.get {α : Type} (d : α) (t : Tr α) : Nat → α :=
  @Tr.rec α (fun _ => Nat → α) (fun _ => d) (fun _ x _ gl gr k => @Bool.rec (fun _ => α) (@Bool.rec (fun _ => α) (gr (Nat.sub (Nat.div k 2) 1)) (gl (Nat.div k 2)) (Nat.beq (Nat.mod k 2) 1)) x (Nat.beq k 0)) t
noncomputable def setK {α β : Type} (d v : α) (f : Nat) : Nat → Tr α → (Tr α → β) → β :=
  @Nat.rec (fun _ => Nat → Tr α → (Tr α → β) → β) (fun _ t K => K t) (fun _ ih k t K => @Tr.rec α (fun _ => Tr α → α → Tr α → β) (fun _ _ _ => K .nil) (fun l x r _ _ _ _ _ =>
    @Bool.rec (fun _ => β) (@Bool.rec (fun _ => β) (ih (Nat.sub (Nat.div k 2) 1) r fun r' => K (.node l x r')) (ih (Nat.div k 2) l fun l' => K (.node l' x r)) (Nat.beq (Nat.mod k 2) 1)) (K (.node l v r)) (Nat.beq k 0))
    (@Tr.rec α (fun _ => Tr α) (.node .nil d .nil) (fun l x r _ _ => .node l x r) t) .nil d .nil) f
structure Tb where
  ty : Nat → Option (Bool × Nat)
  sle : Nat → Option Nat
  fld : Nat → Option (List (Nat × Nat))
  zer : Nat → Option (List Value)
  byt : Nat → Option Nat
  ik : Nat → Option IntKind
  arr : Nat → Option (Nat × Nat)
  mp : Nat → Option (Nat × Nat)
  mz : Nat → Option Value
  ch : Nat → Option Nat
  isS : Nat → Option Unit
  isB : Nat → Option Unit
  ask : Nat → Option Unit
  flat : Nat → Option Nat
  fn : Nat → Option Func
inductive Res where
  | val (y : CV) (ss : List Nat) (hw : List (Nat × CO)) (nx : Nat)
  | go (f : Nat) (args : List CV)
  | no
noncomputable def tg (T : Tr CV) (t : Nat) : CV := T.get (.v undef) t
noncomputable def hg (H : Tr CO) (s : Nat) : CO := H.get .none s
noncomputable def eT (o : Operand) : Tr CV → CV := @Operand.rec (fun _ => Tr CV → CV) (fun t T => tg T t) (fun x _ => .v x) (fun g _ => .v (.pointer (some ⟨g, 0, none⟩))) (fun f _ => .fn f [] []) o
def natV : CV → Option Nat
  | .v (.int _ (.ofNat n)) => some n
  | _ => none
/-- The cells of a row from a place on, so many. -/
noncomputable def subK {β : Type} (cs : List CV) : Nat → Nat → β → (List CV → β) → β :=
  @List.rec CV (fun _ => Nat → Nat → β → (List CV → β) → β) (fun _ m e K => @Bool.rec (fun _ => β) e (K []) (Nat.beq m 0))
    (fun x _ ih o m e K => @Bool.rec (fun _ => β) (ih (Nat.sub o 1) m e K) (@Bool.rec (fun _ => β) (ih 0 (Nat.sub m 1) e fun l => K (x :: l)) (K []) (Nat.beq m 0)) (Nat.beq o 0)) cs
/-- A row with some of its cells written. -/
noncomputable def putK {β : Type} (cs : List CV) : Nat → List CV → β → (List CV → β) → β :=
  @List.rec CV (fun _ => Nat → List CV → β → (List CV → β) → β) (fun o xs e K => @List.rec CV (fun _ => β) (K []) (fun _ _ _ => e) xs)
    (fun x l ih o xs e K => @Bool.rec (fun _ => β) (ih (Nat.sub o 1) xs e fun l => K (x :: l)) (@List.rec CV (fun _ => β) (K (x :: l)) (fun y ys _ => ih 0 ys e fun l => K (y :: l)) xs) (Nat.beq o 0)) cs
noncomputable def getK {β : Type} (cs : List CV) : Nat → β → (CV → β) → β :=
  @List.rec CV (fun _ => Nat → β → (CV → β) → β) (fun _ e _ => e) (fun x _ ih o e K => @Bool.rec (fun _ => β) (ih (Nat.sub o 1) e K) (K x) (Nat.beq o 0)) cs
abbrev Opn := Tb → Tr CV → Tr CO → Nat → Res
def rv (y : CV) (nx : Nat) : Res := .val y [] [] nx
noncomputable def oMove (x : Operand) : Opn := fun _ T _ nx => rv (eT x T) nx
def pickB (a b : CV) (nx : Nat) : CV → Res
  | .v (.bool t) => rv (bif t then a else b) nx
  | _ => .no
noncomputable def oPick (c a b : Operand) : Opn := fun _ T _ nx => pickB (eT a T) (eT b T) nx (eT c T)
def allocZ (nx : Nat) : Option (List Value) → Res
  | some zs => bif zn (zs.map .v) then .val (.ptr nx 0) [nx] [(nx, .row (zs.map .v))] (nx + 1) else .no
  | none => .no
noncomputable def oAlloc (e : Nat) : Opn := fun tb _ _ nx => allocZ nx (tb.zer e)
def boxC (nx : Nat) (cs : List CV) : Res := bif zn cs then .val (.ptr nx 0) [nx] [(nx, .row cs)] (nx + 1) else .no
noncomputable def oBox (_ : Nat) (x : Operand) : Opn := fun _ T _ nx => boxC nx (eT x T).cells
/-! loads and stores -/
noncomputable def loadAgg (s off m nx : Nat) : CO → Res
  | .row cs => bif Nat.beq m 0 then .no else subK cs off m .no fun l => .val (.ag l) [s] [] nx
  | _ => .no
noncomputable def loadOne (s off nx : Nat) : CO → Res
  | .row cs => getK cs off .no fun y => .val y [s] [] nx
  | _ => .no
def loadG (g o nx : Nat) : CO → Res
  | .ro vs => match vs[o]? with
    | some u => .val (.v u) [g] [] nx
    | none => .no
  | _ => .no
def loadGA (g o m nx : Nat) : CO → Res
  | .ro vs => bif Nat.beq o 0 && Nat.beq vs.length m then .val (.ag (vs.map .v)) [g] [] nx else .no
  | _ => .no
noncomputable def bJ (H : Tr CO) (nx : Nat) (b : Bool) (m : Nat) : CV → Res
  | .ptr s off => bif b then loadAgg s off m nx (hg H s) else loadOne s off nx (hg H s)
  | .v (.pointer (some ⟨g, o, none⟩)) => bif b then loadGA g o m nx (hg H g) else loadG g o nx (hg H g)
  | _ => .no
noncomputable def loadT (H : Tr CO) (nx : Nat) (x : CV) : Option (Bool × Nat) → Res
  | some (b, m) => bJ H nx b m x
  | none => .no
noncomputable def oLoad (t : Nat) (x : Operand) : Opn := fun tb T H nx => loadT H nx (eT x T) (tb.ty t)
noncomputable def storeR (s off m nx : Nat) (ys : List CV) : CO → Res
  | .row cs => bif Nat.blt 0 m && (Nat.beq ys.length m && zn ys) then putK cs off ys .no fun cs => .val (.v undef) [s] [(s, .row cs)] nx else .no
  | _ => .no
noncomputable def storeP (H : Tr CO) (nx : Nat) (m : Nat) (y : CV) : CV → Res
  | .ptr s off => storeR s off m nx y.cells (hg H s)
  | _ => .no
noncomputable def storeT (H : Tr CO) (nx : Nat) (x y : CV) : Option (Bool × Nat) → Res
  | some (_, m) => storeP H nx m y x
  | none => .no
noncomputable def oStore (t : Nat) (x y : Operand) : Opn := fun tb T H nx => storeT H nx (eT x T) (eT y T) (tb.ty t)
def nilC (nx : Nat) : CV → Res
  | .ptr s o => rv (.ptr s o) nx
  | .v (.pointer (some a)) => rv (.v (.pointer (some a))) nx
  | .fn f a b => rv (.fn f a b) nx
  | _ => .no
noncomputable def oNil (x : Operand) : Opn := fun _ T _ nx => nilC nx (eT x T)
noncomputable def fieldP (o nx : Nat) : CV → Res
  | .ptr s off => fN (Nat.add off o) fun o => rv (.ptr s o) nx
  | .v (.pointer (some ⟨g, off, none⟩)) => fN (Nat.add off o) fun o => rv (.v (.pointer (some ⟨g, o, none⟩))) nx
  | _ => .no
noncomputable def fieldF (tb : Tb) (x : CV) (nx : Nat) : Option (Nat × Nat) → Res
  | some (o, ft) => match tb.ty ft with
    | some (_, m) => bif Nat.blt 0 m then fieldP o nx x else .no
    | none => .no
  | none => .no
noncomputable def fieldT (tb : Tb) (f : Nat) (x : CV) (nx : Nat) : Option (List (Nat × Nat)) → Res
  | some fs => fieldF tb x nx fs[f]?
  | none => .no
noncomputable def oField (t : Nat) (x : Operand) (f : Nat) : Opn := fun tb T _ nx => fieldT tb f (eT x T) nx (tb.fld t)
/-! places of elements -/
def mE (tb : Tb) : Option Nat → Option (Nat × Nat)
  | some e => match tb.ty e with
    | some (_, sz) => some (0, sz)
    | none => none
  | none => none
def sR (tb : Tb) : Option (Nat × Nat) → Option (Nat × Nat)
  | some (n, e) => match tb.ty e with
    | some (_, sz) => some (n, sz)
    | none => none
  | none => none
noncomputable def ixS (s off len i nx : Nat) : Option (Nat × Nat) → Res
  | some (_, sz) => bif Nat.blt i len then fN (Nat.add off (Nat.mul i sz)) fun o => rv (.ptr s o) nx else .no
  | none => .no
noncomputable def ixA (s off i nx : Nat) : Option (Nat × Nat) → Res
  | some (n, sz) => bif Nat.blt i n then fN (Nat.add off (Nat.mul i sz)) fun o => rv (.ptr s o) nx else .no
  | none => .no
noncomputable def ixG (g off i nx : Nat) : Option (Nat × Nat) → Res
  | some (n, sz) => bif Nat.blt i n then fN (Nat.add off (Nat.mul i sz)) fun o => rv (.v (.pointer (some ⟨g, o, none⟩))) nx else .no
  | none => .no
noncomputable def ixX (tb : Tb) (t nx i : Nat) : CV → Res
  | .sl s _ off len _ _ => ixS s off len i nx (mE tb (tb.sle t))
  | .ptr s off => ixA s off i nx (sR tb (tb.arr t))
  | .v (.pointer (some ⟨g, o, none⟩)) => ixG g o i nx (sR tb (tb.arr t))
  | _ => .no
noncomputable def ixI (tb : Tb) (t nx : Nat) (x : CV) : Option Nat → Res
  | some i => ixX tb t nx i x
  | none => .no
noncomputable def oIndexAddr (t : Nat) (x i : Operand) : Opn := fun tb T _ nx => ixI tb t nx (eT x T) (natV (eT i T))
noncomputable def idA (tb : Tb) (cs : List CV) (i nx : Nat) : Option (Nat × Nat) → Res
  | some (n, e) => match tb.ty e with
    | some (false, sz) => bif Nat.blt i n && Nat.beq sz 1 then getK cs i .no fun y => rv y nx else .no
    | some (true, sz) => bif Nat.blt i n then subK cs (Nat.mul i sz) sz .no fun l => rv (.ag l) nx else .no
    | none => .no
  | none => .no
noncomputable def idS (s : ByteArray) (i nx : Nat) : Option Unit → Res
  | some _ => match s.data.toList[i]? with
    | some b => fN b.toNat fun b => rv (.v (.int .u8 (.ofNat b))) nx
    | none => .no
  | none => .no
noncomputable def idX (tb : Tb) (t nx i : Nat) : CV → Res
  | .ag cs => idA tb cs i nx (tb.arr t)
  | .v (.string s) => idS s i nx (tb.isS t)
  | _ => .no
noncomputable def idI (tb : Tb) (t nx : Nat) (x : CV) : Option Nat → Res
  | some i => idX tb t nx i x
  | none => .no
noncomputable def oIndex (t : Nat) (x i : Operand) : Opn := fun tb T _ nx => idI tb t nx (eT x T) (natV (eT i T))
/-! operators -/
noncomputable def binSlow (k : IntKind) (a : Int) (yk : IntKind) (b : Int) (op : BinOp) (nx : Nat) : Res := match intR k a yk b op with
  | some (.int k z) => fZ z fun z => rv (.v (.int k z)) nx
  | some (.bool c) => fB c fun c => rv (.v (.bool c)) nx
  | _ => .no
/-- Two whole numbers of 64 bits. -/
noncomputable def binNat (a b : Nat) (nx : Nat) : BinOp → Res
  | .lss => fB (Nat.blt a b) fun c => rv (.v (.bool c)) nx
  | .leq => fB (Nat.ble a b) fun c => rv (.v (.bool c)) nx
  | .gtr => fB (Nat.blt b a) fun c => rv (.v (.bool c)) nx
  | .geq => fB (Nat.ble b a) fun c => rv (.v (.bool c)) nx
  | .eql => fB (Nat.beq a b) fun c => rv (.v (.bool c)) nx
  | .add => fN (Nat.add a b) fun c => bif Nat.blt c 4294967296 then rv (.v (.int .i64 (.ofNat c))) nx else .no
  | op => binSlow .i64 (.ofNat a) .i64 (.ofNat b) op nx
noncomputable def binI (k : IntKind) (a : Int) (yk : IntKind) (b : Int) (op : BinOp) (nx : Nat) : Res := match k, yk, a, b with
  | .i64, .i64, .ofNat m, .ofNat n => binNat m n nx op
  | k, yk, a, b => binSlow k a yk b op nx
def binB (a b : Bool) (nx : Nat) (op : BinOp) : Option Unit → Res
  | some _ => match op with
    | .eql => rv (.v (.bool (a == b))) nx
    | .neq => rv (.v (.bool (a != b))) nx
    | _ => .no
  | none => .no
noncomputable def binS (a b : ByteArray) (nx : Nat) : BinOp → Res
  | .eql => fB (strE a b) fun c => rv (.v (.bool c)) nx
  | .neq => fB (strE a b) fun c => rv (.v (.bool (!c))) nx
  | _ => .no
def binN (r : Bool) (nx : Nat) (op : BinOp) : Option Nat → Res
  | some _ => match op with
    | .eql => rv (.v (.bool r)) nx
    | _ => .no
  | none => .no
def nQ : List CV → Option (List Int)
  | [] => some []
  | .v (.int .i64 z) :: l => match nQ l with
    | some zs => some (z :: zs)
    | none => none
  | _ :: _ => none
def eqZ : List Int → List Int → Bool
  | [], [] => true
  | a :: l, b :: m => bif decide (a = b) then eqZ l m else false
  | _, _ => false
noncomputable def binA (cs ds : List CV) (nx : Nat) (op : BinOp) : Option Nat → Res
  | some n => match op, nQ cs, nQ ds with
    | .neq, some as1, some bs => bif Nat.beq as1.length n && Nat.beq bs.length n then fB (eqZ as1 bs) fun c => rv (.v (.bool (!c))) nx else .no
    | _, _, _ => .no
  | none => .no
noncomputable def binX (tb : Tb) (op : BinOp) (tx nx : Nat) : CV → CV → Res
  | .v (.int k a), .v (.int yk b) => binI k a yk b op nx
  | .v (.bool a), .v (.bool b) => binB a b nx op (tb.isB tx)
  | .v (.string a), .v (.string b) => binS a b nx op
  | .ag cs, .ag ds => binA cs ds nx op (tb.flat tx)
  | .sl _ _ _ _ _ _, .v (.slice none 0 0) => binN false nx op (tb.sle tx)
  | .v (.slice none 0 0), .v (.slice none 0 0) => binN true nx op (tb.sle tx)
  | _, _ => .no
noncomputable def oBin (op : BinOp) (tx : Nat) (x y : Operand) (_ : Nat) : Opn := fun tb T _ nx => binX tb op tx nx (eT x T) (eT y T)
noncomputable def unX (op : UnOp) (nx : Nat) : CV → Res
  | .v (.bool b) => match op with
    | .not => fB b fun b => rv (.v (.bool (!b))) nx
    | _ => .no
  | .v (.int k a) => match op with
    | .neg => fZ (k.wrap (0 - a)) fun z => rv (.v (.int k z)) nx
    | _ => .no
  | _ => .no
noncomputable def oUn (op : UnOp) (_ : Nat) (x : Operand) : Opn := fun _ T _ nx => unX op nx (eT x T)
noncomputable def convK (nx : Nat) (x : CV) : Option IntKind → Option IntKind → Res
  | some _, some kd => match x with
    | .v (.int _ z) => fZ (kd.wrap z) fun z => rv (.v (.int kd z)) nx
    | _ => .no
  | _, _ => .no
noncomputable def oConv (src dst : Nat) (x : Operand) : Opn := fun tb T _ nx => convK nx (eT x T) (tb.ik src) (tb.ik dst)
noncomputable def oMkif (t : Nat) (x : Operand) : Opn := fun tb T _ nx => match tb.ask t with
  | some _ => rv (.ifc t (eT x T)) nx
  | none => .no
def tyaX (a nx : Nat) (u : Option Unit) : CV → Res
  | .ifc t y => match u with
    | some _ => bif Nat.beq t a then rv (.tu [y, .v (.bool true)]) nx else rv (.tu [.junk, .v (.bool false)]) nx
    | none => .no
  | _ => .no
noncomputable def oTya (x : Operand) (_ : Nat) (a : Nat) (ok : Bool) : Opn := fun tb T _ nx => bif ok then tyaX a nx (tb.ask a) (eT x T) else .no
/-- Operands' values. -/
noncomputable def evL {β : Type} (xs : List Operand) : Tr CV → (List CV → β) → β :=
  @List.rec Operand (fun _ => Tr CV → (List CV → β) → β) (fun _ K => K []) (fun o _ ih T K => ih T fun l => K (eT o T :: l)) xs
noncomputable def oMkf : Fn → Array Operand → Array Operand → Opn
  | .func f, as1, bs => fun _ T _ nx => evL as1.toList T fun as1 => evL bs.toList T fun bs => rv (.fn f as1 bs) nx
  | _, _, _ => fun _ _ _ _ => .no
def iR (tb : Tb) : List (Nat × Nat) → Option (List (Nat × Nat))
  | [] => some []
  | (off, ft) :: r => match tb.ty ft, iR tb r with
    | some (_, m), some l => some ((off, m) :: l)
    | _, _ => none
def kV (sz : Nat) : Nat → Nat → List (Nat × Nat)
  | 0, _ => []
  | n + 1, i => (i * sz, sz) :: kV sz n (i + 1)
noncomputable def fillK (pl : List (Nat × Nat)) (nx : Nat) : List (Nat × CV) → List CV → Res
  | [], cs => rv (.ag cs) nx
  | (i, x) :: r, cs => match pl[i]? with
    | some (off, sz) => bif Nat.blt 0 sz && (Nat.beq x.cells.length sz && zn x.cells) then putK cs off x.cells .no fun cs => fillK pl nx r cs else .no
    | none => .no
noncomputable def evP {β : Type} (ps : List (Nat × Operand)) : Tr CV → (List (Nat × CV) → β) → β :=
  @List.rec (Nat × Operand) (fun _ => Tr CV → (List (Nat × CV) → β) → β) (fun _ K => K []) (fun p _ ih T K => ih T fun l => K ((p.1, eT p.2 T) :: l)) ps
noncomputable def buildX (tb : Tb) (t nx : Nat) (vals : List (Nat × CV)) (zs : List Value) : Option (List (Nat × Nat)) → Res
  | some fs => match iR tb fs with
    | some pl => fL (zs.map .v) fun cs => fillK pl nx vals cs
    | none => .no
  | none => match tb.arr t with
    | some (n, e) => match tb.ty e with
      | some (_, sz) => fL (zs.map .v) fun cs => fillK (kV sz n 0) nx vals cs
      | none => .no
    | none => .no
noncomputable def oBuild (t : Nat) (ps : Array (Nat × Operand)) : Opn := fun tb T _ nx => match tb.zer t with
  | some zs => evP ps.toList T fun vals => buildX tb t nx vals zs (tb.fld t)
  | none => .no
noncomputable def fillS {β : Type} (sz : Nat) (e : β) : Nat → List (Nat × CV) → (List CV → β) → β
  | _, [], K => K []
  | i, (j, x) :: r, K => bif Nat.beq i j && Nat.beq x.cells.length sz && zn x.cells then fillS sz e (i + 1) r fun l => fL (x.cells ++ l) K else e
noncomputable def bslX (len nx : Nat) (vals : List (Nat × CV)) : Option (Nat × Nat) → Res
  | some (_, sz) => bif Nat.beq vals.length len && Nat.blt 0 sz && Nat.ble len 1000 && Nat.ble sz 1000 then fillS sz .no 0 vals fun cs => .val (.sl nx sz 0 len len true) [nx] [(nx, .row cs)] (nx + 1) else .no
  | none => .no
noncomputable def oBsl (t len : Nat) (ps : Array (Nat × Operand)) : Opn := fun tb T _ nx => evP ps.toList T fun vals => bslX len nx vals (elemZ tb (tb.sle t))
where elemZ (tb : Tb) : Option Nat → Option (Nat × Nat)
  | some e => match tb.ty e, tb.zer e with
    | some (_, sz), some zs => bif Nat.beq zs.length sz then some (0, sz) else none
    | _, _ => none
  | none => none
/-! rows that are made -/
def iP (zs : List CV) : Nat → List CV
  | 0 => []
  | n + 1 => zs ++ iP zs n
/-- What is known of a slice's elements: size, bytes, zero cells. -/
def mK (tb : Tb) : Option Nat → Option (Nat × List Value)
  | some e => match tb.ty e, tb.zer e, tb.byt e with
    | some (_, sz), some zs, some by_ => bif Nat.beq zs.length sz && Nat.blt 0 sz && Nat.ble sz 1000 && Nat.ble by_ 100000 then some (sz, zs) else none
    | _, _, _ => none
  | none => none
noncomputable def mkslX (l c nx : Nat) : Option (Nat × List Value) → Res
  | some (sz, zs) => bif Nat.beq l c && (Nat.blt 0 c && (Nat.ble c 1000 && zn (zs.map .v))) then fL (iP (zs.map .v) c) fun cs => .val (.sl nx sz 0 c c true) [nx] [(nx, .row cs)] (nx + 1) else .no
  | none => .no
noncomputable def mkslN (nx : Nat) (e : Option (Nat × List Value)) : Option Nat → Option Nat → Res
  | some l, some c => mkslX l c nx e
  | _, _ => .no
noncomputable def oMksl (t : Nat) (l c : Operand) : Opn := fun tb T _ nx => mkslN nx (mK tb (tb.sle t)) (natV (eT l T)) (natV (eT c T))
def oMkmap (_ : Nat) : Option Operand → Opn
  | none => fun _ _ _ nx => .val (.mp nx) [nx] [(nx, .map [])] (nx + 1)
  | some _ => fun _ _ _ _ => .no
def mkchX (nx : Nat) : Option Nat → Option Nat → Res
  | some by_, some n => bif Nat.ble n 1000 && Nat.ble by_ 1000 then .val (.ch nx) [nx] [(nx, .chan n [] 0 0)] (nx + 1) else .no
  | _, _ => .no
noncomputable def oMkch (t : Nat) (n : Operand) : Opn := fun tb T _ nx => mkchX nx (tb.ch t) (natV (eT n T))
/-! maps -/
def keyEq : Value → CV → Option Bool
  | .int k a, .v (.int k' b) => if k = k' then some (decide (a = b)) else none
  | .string a, .v (.string b) => some (strE a b)
  | _, _ => none
def kO (k : Value) : List (CV × CV) → Nat → Option (Option (Nat × CV))
  | [], _ => some none
  | p :: l, i => match keyEq k p.1 with
    | some true => some (some (i, p.2))
    | some false => kO k l (i + 1)
    | none => none
def setE (k : CV) (v : CV) : List (CV × CV) → Nat → List (CV × CV)
  | [], _ => []
  | _ :: l, 0 => (k, v) :: l
  | p :: l, i + 1 => p :: setE k v l i
def lookE (s nx : Nat) (z : Value) : Option (Option (Nat × CV)) → Res
  | some (some (_, y)) => .val y [s] [] nx
  | some none => .val (.v z) [s] [] nx
  | none => .no
noncomputable def lookM (H : Tr CO) (nx : Nat) (z : Value) : CV → CV → Res
  | .mp s, .v k => match hg H s with
    | .map es => lookE s nx z (kO k es 0)
    | _ => .no
  | _, _ => .no
/-- A key of the map's own kind. -/
def keyOk (tb : Tb) (kt : Nat) : CV → Bool
  | .v (.int k _) => (match tb.ik kt with
    | some k' => decide (k = k')
    | none => false)
  | .v (.string _) => (tb.isS kt).isSome
  | _ => false
noncomputable def lookT (tb : Tb) (H : Tr CO) (nx : Nat) (m k : CV) : Option (Nat × Nat) → Res
  | some (kt, et) => match tb.mz et with
    | some z => bif keyOk tb kt k then lookM H nx z m k else .no
    | none => .no
  | none => .no
noncomputable def oLook (t : Nat) (m k : Operand) (ok : Bool) : Opn := fun tb T H nx => bif ok then .no else lookT tb H nx (eT m T) (eT k T) (tb.mp t)
noncomputable def updE (s nx : Nat) (k : Value) (v : CV) (es : List (CV × CV)) : Option (Option (Nat × CV)) → Res
  | some (some (i, _)) => fL (setE (.v k) v es i) fun es => .val (.v undef) [s] [(s, .map es)] nx
  | some none => fL (es ++ [(.v k, v)]) fun es => .val (.v undef) [s] [(s, .map es)] nx
  | none => .no
noncomputable def updM (H : Tr CO) (nx : Nat) (v : CV) : CV → CV → Res
  | .mp s, .v k => match hg H s with
    | .map es => updE s nx k v es (kO k es 0)
    | _ => .no
  | _, _ => .no
noncomputable def oUpd (t : Nat) (m k v : Operand) : Opn := fun tb T H nx => match tb.mp t with
  | some (kt, _) => bif keyOk tb kt (eT k T) then updM H nx (eT v T) (eT m T) (eT k T) else .no
  | none => .no
def extX (i nx : Nat) : CV → Res
  | .tu xs => match xs[i]? with
    | some y => rv y nx
    | none => .no
  | _ => .no
noncomputable def oExt (t : Operand) (i : Nat) : Opn := fun _ T _ nx => extX i nx (eT t T)
/-! slices -/
noncomputable def slS (s sz off mc : Nat) (ex : Bool) (len nx l : Nat) : Res := bif Nat.ble l len && Nat.ble len mc then
    (bif Nat.blt l mc then fN (Nat.add off (Nat.mul l sz)) fun o => fN (Nat.sub len l) fun h => fN (Nat.sub mc l) fun m => rv (.sl s sz o h m ex) nx else bif ex then rv (.sl s sz off 0 0 true) nx else rv (.se s sz) nx) else .no
noncomputable def slX (tb : Tb) (t nx l : Nat) : CV → Res
  | .sl s sz off len mc ex => match mE tb (tb.sle t) with
    | some (_, sz') => bif Nat.beq sz sz' then slS s sz off mc ex len nx l else .no
    | none => .no
  | .v (.slice none 0 0) => match mE tb (tb.sle t) with
    | some _ => bif Nat.beq l 0 then rv (.v (.slice none 0 0)) nx else .no
    | none => .no
  | _ => .no
noncomputable def slI (tb : Tb) (t nx : Nat) (x : CV) : Option Nat → Res
  | some l => slX tb t nx l x
  | none => .no
noncomputable def oSlice (t : Nat) (x : Operand) : Option Operand → Option Operand → Option Operand → Opn
  | some lo, none, none => fun tb T _ nx => slI tb t nx (eT x T) (natV (eT lo T))
  | _, _, _ => fun _ _ _ _ => .no
noncomputable def lenX (tb : Tb) (H : Tr CO) (t nx : Nat) : CV → Res
  | .sl _ _ _ len _ _ => match tb.sle t with
    | some _ => rv (.v (.int .i64 (.ofNat len))) nx
    | none => .no
  | .se _ _ => match tb.sle t with
    | some _ => rv (.v (.int .i64 (.ofNat 0))) nx
    | none => .no
  | .v (.slice _ m _) => match tb.sle t with
    | some _ => rv (.v (.int .i64 (.ofNat m))) nx
    | none => .no
  | .v (.string s) => match tb.isS t with
    | some _ => fN s.data.toList.length fun m => rv (.v (.int .i64 (.ofNat m))) nx
    | none => .no
  | .ch s => match tb.ch t, hg H s with
    | some _, .chan _ buf _ _ => fN buf.length fun m => .val (.v (.int .i64 (.ofNat m))) [s] [] nx
    | _, _ => .no
  | _ => .no
def minX (nx : Nat) : CV → CV → Res
  | .v (.int k a), .v (.int _ b) => rv (.v (.int k (if b < a then b else a))) nx
  | _, _ => .no
/-- The cells that an appended slice brings. -/
noncomputable def newsK (H : Tr CO) (sz : Nat) (K : Nat → Nat → List CV → Res) : CV → Res
  | .sl s sz' off len _ _ => match hg H s with
    | .row cs => bif Nat.beq sz sz' && (Nat.blt 0 len && Nat.blt 0 sz) then subK cs off (Nat.mul len sz) .no fun l => bif zn l then K len s l else .no else .no
    | _ => .no
  | _ => .no
noncomputable def appX (H : Tr CO) (nx sz : Nat) (x : CV) (n sy : Nat) (new : List CV) : Res := match x with
  | .sl s sz' off len mc ex => match hg H s with
    | .row cs => bif Nat.beq sz sz' && (Nat.beq len mc && (Nat.ble (Nat.add len n) 100000 && Nat.ble off cs.length)) then subK cs off (Nat.mul len sz) .no fun old => fL (old ++ new) fun cs => fN (Nat.add len n) fun m =>
        bif ex then .val (.sl nx sz 0 m m false) [nx, s, sy] [(nx, .row cs)] (nx + 1) else .val (.sl nx sz 0 m m false) [nx, s, sy] [(s, .dead), (nx, .row cs)] (nx + 1) else .no
    | _ => .no
  | .v (.slice none 0 0) => bif Nat.ble n 100000 then .val (.sl nx sz 0 n n false) [nx, sy] [(nx, .row new)] (nx + 1) else .no
  | _ => .no
noncomputable def appE (H : Tr CO) (nx : Nat) (x y : CV) : Option (Nat × List Value) → Res
  | some (sz, _) => newsK H sz (fun n sy new => appX H nx sz x n sy new) y
  | none => .no
noncomputable def biX : Builtin → List Operand → List Nat → Opn
  | .len, [x], [t] => fun tb T H nx => lenX tb H t nx (eT x T)
  | .append, [x, y], [t, t'] => fun tb T H nx => bif Nat.beq t t' then appE H nx (eT x T) (eT y T) (mK tb (tb.sle t)) else .no
  | .min, [x, y], [_, _] => fun _ T _ nx => minX nx (eT x T) (eT y T)
  | _, _, _ => fun _ _ _ _ => .no
noncomputable def callX (args : List Operand) (T : Tr CV) : CV → Res
  | .fn g a b => evL args T fun l => fL (a ++ l ++ b) fun l => .go g l
  | _ => .no
noncomputable def oCall (c : Call) : Opn := match c.callee with
  | .builtin b => biX b c.args.toList c.argTypes.toList
  | .value f => fun _ T _ _ => callX c.args.toList T (eT f T)
  | .invoke _ _ => fun _ _ _ _ => .no
noncomputable def sendX (H : Tr CO) (nx : Nat) (y : CV) : CV → Res
  | .ch s => match hg H s with
    | .chan cap buf ns nr => bif Nat.blt buf.length cap then fL (buf ++ [y]) fun buf => fN (Nat.add ns 1) fun ns => .val (.v undef) [s] [(s, .chan cap buf ns nr)] nx else .no
    | _ => .no
  | _ => .no
noncomputable def oSend (ch x : Operand) : Opn := fun _ T H nx => sendX H nx (eT x T) (eT ch T)
noncomputable def recvX (H : Tr CO) (nx : Nat) : CV → Res
  | .ch s => match hg H s with
    | .chan cap (y :: buf) ns nr => fN (Nat.add nr 1) fun nr => .val y [s] [(s, .chan cap buf ns nr)] nx
    | _ => .no
  | _ => .no
noncomputable def oRecv (t : Nat) (ch : Operand) (ok : Bool) : Opn := fun tb T H nx => bif ok then .no else (match tb.ch t with
  | some _ => recvX H nx (eT ch T)
  | none => .no)
def oNo : Opn := fun _ _ _ _ => .no
noncomputable def opOf : Op → Opn
  | .move x => oMove x
  | .assign x => oMove x
  | .pick c a b => oPick c a b
  | .alloc e => oAlloc e
  | .box e x => oBox e x
  | .build t ps => oBuild t ps
  | .buildSlice t n ps => oBsl t n ps
  | .load t x => oLoad t x
  | .store t x y => oStore t x y
  | .nilCheck x => oNil x
  | .binOp op tx x y ty => oBin op tx x y ty
  | .unOp op tx x => oUn op tx x
  | .convert s d x => oConv s d x
  | .makeInterface t x => oMkif t x
  | .makeFunc f a b => oMkf f a b
  | .makeMap t r => oMkmap t r
  | .makeChan t n => oMkch t n
  | .makeSlice t l c => oMksl t l c
  | .slice t x lo hi mx => oSlice t x lo hi mx
  | .fieldAddr t x f => oField t x f
  | .indexAddr t x i => oIndexAddr t x i
  | .index t x i => oIndex t x i
  | .lookup t m k ok => oLook t m k ok
  | .mapUpdate t m k v => oUpd t m k v
  | .typeAssert x t a ok => oTya x t a ok
  | .extract t i => oExt t i
  | .call c => oCall c
  | .send c x => oSend c x
  | .recv t c ok => oRecv t c ok
  | _ => oNo
/-! control -/
structure CS where
  T : Tr CV
  H : Tr CO
  nx : Nat
  R : Nat
  W : Nat
inductive Ex where
  | normal | exit (id : Nat) | ret
def isNew : CO → Bool
  | .none => true
  | _ => false
noncomputable def orL {β : Type} (l : List Nat) : Nat → (Nat → β) → β := @List.rec Nat (fun _ => Nat → (Nat → β) → β) (fun m K => K m) (fun s _ ih m K => fN (Nat.lor m (Nat.pow 2 s)) fun m => ih m K) l
noncomputable def setL {β : Type} (l : List (Nat × CO)) : Tr CO → Nat → (Tr CO → Nat → β) → β :=
  @List.rec (Nat × CO) (fun _ => Tr CO → Nat → (Tr CO → Nat → β) → β) (fun H W K => K H W) (fun p _ ih H W K => setK .none p.2 (Nat.succ p.1) p.1 H fun H => fN (Nat.lor W (Nat.pow 2 p.1)) fun W => ih H W K) l
noncomputable def putT {β : Type} (d : Option Nat) (T : Tr CV) (y : CV) (K : Tr CV → β) : β := @Option.rec Nat (fun _ => β) (K T) (fun d => setK (.v undef) y (Nat.succ d) d T K) d
abbrev CallF := Nat → List CV → Tr CO → Nat → Option (CV × CS)
noncomputable def putV (d : Option Nat) (s : CS) (y : CV) (ss : List Nat) (hw : List (Nat × CO)) (nx : Nat) : Option CS :=
  setL hw s.H s.W fun H W => putT d s.T y fun T => orL ss s.R fun R => some ⟨T, H, nx, R, W⟩
noncomputable def stepR (call : CallF) (d : Option Nat) (s : CS) : Res → Option CS
  | .val y ss hw nx => bif Nat.beq nx s.nx then putV d s y ss hw nx else bif isNew (hg s.H s.nx) then fN nx fun nx => putV d s y ss hw nx else none
  | .go f args => match call f args s.H s.nx with
    | some (y, c) => putT d s.T y fun T => fN (Nat.lor s.R c.R) fun R => fN (Nat.lor s.W c.W) fun W => some ⟨T, c.H, c.nx, R, W⟩
    | none => none
  | .no => none
def yieldV (b : Bool) : CV → Option Bool
  | .v (.bool c) => some (c == b)
  | .v _ => some false
  | _ => none
noncomputable def wantG (ops : Array Oper) (T : Tr CV) : Option (Nat × Bool) → Option Bool
  | none => some true
  | some (j, b) => match ops.toList[j]? with
    | some o => (match o.dst with
      | some d => yieldV b (tg T d)
      | none => some false)
    | none => some false
noncomputable def oneW (tb : Tb) (call : CallF) (o : Oper) (s : CS) : Option Bool → Option CS
  | some true => stepR call o.dst s (opOf o.op tb s.T s.H s.nx)
  | some false => putT o.dst s.T (.v undef) fun T => some ⟨T, s.H, s.nx, s.R, s.W⟩
  | none => none
noncomputable def oneOp (tb : Tb) (call : CallF) (ops : Array Oper) (o : Oper) (s : CS) : Option CS := oneW tb call o s (wantG ops s.T o.guard)
noncomputable def runOps (tb : Tb) (call : CallF) (ops : Array Oper) (l : List Oper) : CS → Option CS :=
  @List.rec Oper (fun _ => CS → Option CS) (fun s => some s) (fun o _ ih s => match oneOp tb call ops o s with
    | some s => ih s
    | none => none) l
noncomputable def infoOps (tb : Tb) (call : CallF) (ops : Array Oper) (l : List Oper) : CS → Option (CS × List (Nat × Nat)) :=
  @List.rec Oper (fun _ => CS → Option (CS × List (Nat × Nat))) (fun s => some (s, [])) (fun o _ ih s => match oneOp tb call ops o ⟨s.T, s.H, s.nx, 0, 0⟩ with
    | some c => (match ih ⟨c.T, c.H, c.nx, Nat.lor s.R c.R, Nat.lor s.W c.W⟩ with
      | some (z, l) => some (z, (c.R, c.W) :: l)
      | none => none)
    | none => none) l
/-! drawn regions: what may come in any order does not meet -/
noncomputable def opdM (l : List Operand) : Nat → Nat := @List.rec Operand (fun _ => Nat → Nat) (fun m => m) (fun o _ ih m => @Operand.rec (fun _ => Nat) (fun t => fN (Nat.lor m (Nat.pow 2 t)) ih) (fun _ => ih m) (fun _ => ih m) (fun _ => ih m) o) l
def dstM : Option Nat → Nat
  | some d => Nat.pow 2 d
  | none => 0
def guardM (ops : Array Oper) : Option (Nat × Bool) → Nat
  | some (j, _) => (match ops.toList[j]? with
    | some o => dstM o.dst
    | none => 0)
  | none => 0
noncomputable def readM (ops : Array Oper) (o : Oper) : Nat := opdM o.op.operands.toList (guardM ops o.guard)
def iK : Op → Bool
  | .send _ _ => true
  | .recv _ _ _ => true
  | _ => false
def backB (j : Nat) (o : Oper) : Bool := o.after.toList.all fun e => !Region.binds .any e || Nat.blt e.on j
/-- What stands of an operation in a drawn region's check: slots read, target, names read, names written. -/
structure Ft where
  r : Nat
  d : Nat
  R : Nat
  W : Nat
def oM (x y : Ft) : Bool := Nat.beq (Nat.land x.d (Nat.lor y.r y.d)) 0 && (Nat.beq (Nat.land y.d x.r) 0 && (Nat.beq (Nat.land x.W (Nat.lor y.R y.W)) 0 && Nat.beq (Nat.land y.W x.R) 0))
def oU (bj : Nat) (y : Ft) : List Ft → Nat → Bool
  | [], _ => true
  | x :: l, i => bif Nat.testBit bj i || oM x y then oU bj y l (i + 1) else false
noncomputable def okGo (ops : Array Oper) : List Oper → List Nat → List (Nat × Nat) → Nat → List Ft → Bool
  | [], _, _, _, _ => true
  | o :: os, b :: bs, p :: inf, j, acc => fN (readM ops o) fun r => fN (dstM o.dst) fun d => fN p.1 fun R => fN p.2 fun W => bif (backB j o && !iK o.op) && oU b ⟨r, d, R, W⟩ acc 0 then okGo ops os bs inf (j + 1) (acc ++ [⟨r, d, R, W⟩]) else false
  | _ :: _, _, _, _, _ => false
noncomputable def okDraw (ops : Array Oper) (inf : List (Nat × Nat)) : Bool := okGo ops ops.toList (befs ops.toList []) inf 0 []
/-! code -/
noncomputable def resLoad (s off nx : Nat) (c : CO) : Option (Bool × Nat) → Res
  | some (b, m) => bif b then loadAgg s off m nx c else loadOne s off nx c
  | none => .no
noncomputable def resOne (tb : Tb) (s : CS) : ResultVar → Res
  | .tmp t => rv (tg s.T t) s.nx
  | .cell a ty => match tg s.T a with
    | .ptr q off => resLoad q off s.nx (hg s.H q) (tb.ty ty)
    | _ => .no
noncomputable def resL (tb : Tb) (s : CS) (l : List ResultVar) : Nat → (List CV → Nat → Option (CV × CS)) → Option (CV × CS) :=
  @List.rec ResultVar (fun _ => Nat → (List CV → Nat → Option (CV × CS)) → Option (CV × CS)) (fun R K => K [] R) (fun v _ ih R K => match resOne tb s v with
    | .val y ss _ _ => orL ss R fun R => ih R fun l R => K (y :: l) R
    | _ => none) l
def one1 : List CV → CV
  | [x] => x
  | xs => .tu xs
noncomputable def fin (tb : Tb) (fi : Func) (s : CS) : Option (CV × CS) := resL tb s fi.results.toList s.R fun l R => some (one1 l, ⟨.nil, s.H, s.nx, R, s.W⟩)
noncomputable def start {β : Type} (l : List CV) : Nat → Tr CV → (Tr CV → β) → β :=
  @List.rec CV (fun _ => Nat → Tr CV → (Tr CV → β) → β) (fun _ T K => K T) (fun x _ ih i T K => setK (.v undef) x (Nat.succ i) i T fun T => ih (Nat.succ i) T K) l
abbrev RecF := Code → CS → Option (Ex × CS)
def endC (K : CS → Option (CV × CS)) : Option (Ex × CS) → Option (CV × CS)
  | some (.normal, s) => K s
  | some (.ret, s) => K s
  | _ => none
noncomputable def callB (tb : Tb) (rec : RecF) (fi : Func) (args : List CV) (H : Tr CO) (nx : Nat) : Option Code → Option (CV × CS)
  | some c => bif Nat.ble args.length fi.ntmps then start args 0 .nil fun T => endC (fin tb fi) (rec c ⟨T, H, nx, 0, 0⟩) else none
  | none => none
noncomputable def callF (tb : Tb) (rec : RecF) (args : List CV) (H : Tr CO) (nx : Nat) : Option Func → Option (CV × CS)
  | some fi => callB tb rec fi args H nx fi.body
  | none => none
noncomputable def callC (tb : Tb) (rec : RecF) : CallF := fun f args H nx => callF tb rec args H nx (tb.fn f)
def nrmO : Option CS → Option (Ex × CS)
  | some s => some (.normal, s)
  | none => none
noncomputable def drawO (ops : Array Oper) : Option (CS × List (Nat × Nat)) → Option (Ex × CS)
  | some (s, inf) => bif okDraw ops inf then fN s.R fun R => fN s.W fun W => some (.normal, ⟨s.T, s.H, s.nx, R, W⟩) else none
  | none => none
noncomputable def cRegion (ops : Array Oper) (draw : Bool) : Tb → RecF → CS → Option (Ex × CS) := fun tb rec s =>
  @Bool.rec (fun _ => Option (Ex × CS)) (nrmO (runOps tb (callC tb rec) ops ops.toList s)) (drawO ops (infoOps tb (callC tb rec) ops ops.toList s)) draw
def mR (K : CS → Option (Ex × CS)) : Option (Ex × CS) → Option (Ex × CS)
  | some (.normal, s) => K s
  | r => r
def condC (x y : CS → Option (Ex × CS)) (s : CS) : CV → Option (Ex × CS)
  | .v (.bool true) => x s
  | .v (.bool false) => y s
  | _ => none
def blockC (id : Nat) : Option (Ex × CS) → Option (Ex × CS)
  | some (.exit j, s) => bif Nat.beq j id then some (.normal, s) else some (.exit j, s)
  | r => r
noncomputable def stepC : Code → Tb → RecF → CS → Option (Ex × CS)
  | .skip => fun _ _ s => some (.normal, s)
  | .region _ ops draw => cRegion ops draw
  | .seq a b => fun _ rec s => mR (rec b) (rec a s)
  | .cond c x y => fun _ rec s => condC (rec x) (rec y) s (eT c s.T)
  | .block id c => fun _ rec s => blockC id (rec c s)
  | .loop c => fun _ rec s => mR (rec (.loop c)) (rec c s)
  | .scope c => fun _ rec s => rec c s
  | .exit id => fun _ _ s => some (.exit id, s)
  | .ret => fun _ _ s => some (.ret, s)
  | _ => fun _ _ _ => none
noncomputable def exec (tb : Tb) (f : Nat) : RecF := @Nat.rec (fun _ => RecF) (fun _ _ => none) (fun _ r c s => stepC c tb r s) f
end Go.Proofs.YtnafokinifbfhaaGreatDoor.Cx
