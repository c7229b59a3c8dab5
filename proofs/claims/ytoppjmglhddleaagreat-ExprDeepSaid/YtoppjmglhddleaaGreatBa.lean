/- DERIVED. THE EVALUATOR, THE READER, THE SCANNER: lemmas for Deep. -/
import Derived.Test.YtoppjmglhddleaaGreatProg
import Derived.Maps.AppendAt
import Derived.Laws.CopyRow
import Derived.Laws.Cells
import Derived.Laws.Rows
import Derived.Calls
import Derived.Orders
import Derived.Scope
import Derived.Laws.Append
import Derived.Laws.Sem
import Derived.RegionTactic
set_option linter.unusedVariables false
set_option linter.unusedSimpArgs false
namespace Go
def Code.l1 : Code → Code | .seq a _ => a | .cond _ a _ => a | .block _ a => a | .loop a => a | .scope a => a | c => c
def Code.r1 : Code → Code | .seq _ b => b | .cond _ _ b => b | c => c
def Func.code (f : Func) : Code := match f.body with | some c => c | none => .skip
def Operand.hid (φ : Int → Int) : Operand → Operand | .const (.int .i64 n) => .const (.int .i64 (if 200 < n then φ n else n)) | x => x
def Op.hid (φ : Int → Int) : Op → Op | .binOp o T x y t => .binOp o T (x.hid φ) (y.hid φ) t | o => o
def Code.hid (φ : Int → Int) : Code → Code
 | .region i ops d => .region i ⟨ops.toList.map fun o => { o with op := o.op.hid φ }⟩ d
 | .seq a b => .seq (a.hid φ) (b.hid φ) | .cond c a b => .cond c (a.hid φ) (b.hid φ) | .block i a => .block i (a.hid φ) | .loop a => .loop (a.hid φ) | .scope a => .scope (a.hid φ) | c => c
def Func.hid (φ : Int → Int) (f : Func) : Func := { f with body := some (f.code.hid φ) }
end Go
namespace Go.AI
theorem qn : (∀ [Decidable True], decide True = true) ∧ (∀ [Decidable False], decide False = false) ∧ ((!true) = false) ∧ ((!false) = true) ∧ ((false = true) = False) ∧ (∀ p : Prop, (False ∨ p) = p) ∧ (∀ p : Prop, (p ∨ False) = p) ∧ (∀ p : Prop, (True ∨ p) = True) ∧ (∀ p : Prop, (p ∨ True) = True) := ⟨decide_true _, decide_false _, rfl, rfl, Bool.false_eq_true, false_or, or_false, true_or, or_true⟩
theorem qm : ((¬ True) = False) ∧ ((¬ False) = True) := ⟨not_true_eq_false, not_false_eq_true⟩
structure Tok where
 k : Int
 f : Int
 t : Int
 deriving DecidableEq, Inhabited
structure Diag where
 c : Int
 f : Int
 t : Int
 deriving DecidableEq, Inhabited
inductive Node where
 | mk (k f t : Int) (kids : List Node)
instance : Inhabited Node := ⟨.mk 0 0 0 []⟩
def Node.k : Node → Int | .mk k _ _ _ => k
def Node.f : Node → Int | .mk _ f _ _ => f
def Node.t : Node → Int | .mk _ _ t _ => t
def Node.kids : Node → List Node | .mk _ _ _ l => l
structure Made where
 n : Node
 h : Int
 deriving Inhabited
structure Ent where
 from_ : Int
 to_ : Int
 named : Bool
 deriving Inhabited
inductive El where
 | int | bool | tok | diag | node | made | ent | str | u8
 deriving DecidableEq
@[reducible] def El.T : El → Type
 | .int => Int | .bool => Bool | .tok => Tok | .diag => Diag | .node => Node | .made => Made | .ent => Ent | .str => ByteArray | .u8 => Int
def El.dflt : (e : El) → e.T
 | .int => (0 : Int) | .bool => false | .tok => ⟨0, 0, 0⟩ | .diag => ⟨0, 0, 0⟩ | .node => .mk 0 0 0 [] | .made => ⟨.mk 0 0 0 [], 0⟩ | .ent => ⟨0, 0, false⟩ | .str => ByteArray.empty | .u8 => (0 : Int)
def El.sz : El → Nat
 | .int => 1 | .bool => 1 | .tok => 3 | .diag => 3 | .node => 4 | .made => 5 | .ent => 3 | .str => 1 | .u8 => 1
inductive AV where
 | undef
 | skip                                           -- what an operation leaves that was not wanted
 | int (n : Int)
 | bool (b : Bool)
 | ik (k : IntKind) (n : Int)                     -- a number of another kind
 | str (s : ByteArray)
 | rdr (i : Nat)                                  -- a place in the state's struct
 | lbox (k i : Nat)                               -- a place in a variable of the frame's own
 | cbox (a : AV)                                  -- a variable that is never written
 | sl (e : El) (xs : List e.T)                    -- a list that stays
 | nil                                            -- an empty slice without room
 | own (k ver : Nat) (e : El) (xs : List e.T)     -- a list that may be appended to
 | vw (k ver : Nat) (e : El) (xs : List e.T)      -- a piece of such a one
 | spt (e : El) (x : e.T) (o : Nat)               -- a place in an element that stays
 | vpt (k ver : Nat) (e : El) (x : e.T) (o : Nat)  -- a place in an element of a piece
 | opt (k ver : Nat) (e : El) (x : e.T) (i : Int) (o : Nat)   -- a place in the i-th element of an owned list
 | clos (f : Nat) (fst cap : List AV)
 | agg (l : List AV)
 | tup (l : List AV)
 | new (l : List AV)                              -- a struct that was made, handed back
def El.enc : (e : El) → e.T → List AV
 | .int, x => [.int x]
 | .bool, x => [.bool x]
 | .tok, x => [.int x.k, .int x.f, .int x.t]
 | .diag, x => [.int x.c, .int x.f, .int x.t]
 | .node, x => [.int (Node.k x), .int (Node.f x), .int (Node.t x), .sl .node (Node.kids x)]
 | .made, x => [.int (Node.k x.n), .int (Node.f x.n), .int (Node.t x.n), .sl .node (Node.kids x.n), .int x.h]
 | .ent, x => [.int x.from_, .int x.to_, .bool x.named]
 | .str, x => [.str x]
 | .u8, x => [.ik .u8 x]
def decKids : AV → Option (List Node)
 | .sl .node l => some l
 | .nil => some []
 | _ => none
def decInt : List AV → Option Int | [.int x] => some x | _ => none
def decBool : List AV → Option Bool | [.bool x] => some x | _ => none
def decTok : List AV → Option Tok | [.int k, .int f, .int t] => some ⟨k, f, t⟩ | _ => none
def decDiag : List AV → Option Diag | [.int k, .int f, .int t] => some ⟨k, f, t⟩ | _ => none
def decNode : List AV → Option Node | [.int k, .int f, .int t, x] => (match decKids x with | some l => some (.mk k f t l) | none => none) | _ => none
def decMade : List AV → Option Made | [.int k, .int f, .int t, x, .int h] => (match decKids x with | some l => some ⟨.mk k f t l, h⟩ | none => none) | _ => none
def decEnt : List AV → Option Ent | [.int k, .int f, .bool t] => some ⟨k, f, t⟩ | _ => none
def decStr : List AV → Option ByteArray | [.str x] => some x | _ => none
def decU8 : List AV → Option Int | [.ik .u8 x] => some x | _ => none
def El.dec : (e : El) → List AV → Option e.T
 | .int => decInt | .bool => decBool | .tok => decTok | .diag => decDiag | .node => decNode | .made => decMade | .ent => decEnt | .str => decStr | .u8 => decU8
def El.eqb : El → El → Bool
 | .int, .int => true | .bool, .bool => true | .tok, .tok => true | .diag, .diag => true | .node, .node => true | .made, .made => true | .ent, .ent => true | .str, .str => true | .u8, .u8 => true
 | _, _ => false
def isEl (E : Option El) (e : El) : Bool := match E with | some e' => El.eqb e' e | none => false
def El.cast : (e e' : El) → List e'.T → Option (List e.T)
 | .int, .int, l => some l
 | .bool, .bool, l => some l
 | .tok, .tok, l => some l
 | .diag, .diag, l => some l
 | .node, .node, l => some l
 | .made, .made, l => some l
 | .ent, .ent, l => some l
 | .str, .str, l => some l
 | .u8, .u8, l => some l
 | _, _, _ => none
structure PS where
 l : List Tok
 sig : List Int
 next : Int
 read : Int
 row : List Made
 opn : Int
 dc : Int
 df : Int
 dt : Int
 failed : Bool
structure QS where
 l : List Tok
 at_ : Int
 row : List Node
 high : List Int
 opn : Int
 dc : Int
 df : Int
 dt : Int
 failed : Bool
inductive STy where
 | unit | prog | ref
 deriving DecidableEq
@[reducible] def STy.T : STy → Type
 | .unit => Unit | .prog => PS | .ref => QS
def STy.keys : STy → List Nat
 | .unit => [] | .prog => [1004] | .ref => [1002, 1003]
def STy.enc : (τ : STy) → Nat → τ.T → List AV
 | .unit, _, _ => []
 | .prog, v, p => [.sl .tok p.l, .sl .int p.sig, .int p.next, .int p.read, .own 1004 v .made p.row, .int p.opn, .int p.dc, .int p.df, .int p.dt, .bool p.failed]
 | .ref, v, p => [.sl .tok p.l, .int p.at_, .own 1002 v .node p.row, .own 1003 v .int p.high, .int p.opn, .int p.dc, .int p.df, .int p.dt, .bool p.failed]
def getV (v : List (Nat × Nat)) (k : Nat) : Nat :=
 match v with
 | [] => 0
 | (i, a) :: r => match Nat.beq i k with | true => a | false => getV r k
def asSl (e : El) : AV → Option (List e.T)
 | .sl e' l => El.cast e e' l
 | .nil => some []
 | _ => none
def asOwn (v : List (Nat × Nat)) (fr : List Nat) (q : Nat) (e : El) : AV → Option (List e.T)
 | .own k w e' l => match Nat.beq w (getV v k), fr.contains k, Nat.beq k q || Nat.blt k 1000 with | true, false, true => El.cast e e' l | _, _, _ => none
 | .nil => some []
 | _ => none
def keyOf : AV → Option Nat
 | .own k .. => some k
 | _ => none
def keysApart (a b : AV) : Bool := match keyOf a, keyOf b with | some k, some k' => !Nat.beq k k' | _, _ => true
def decPS (v : List (Nat × Nat)) (fr : List Nat) : List AV → Option PS
 | [a0, a1, .int a2, .int a3, a4, .int a5, .int a6, .int a7, .int a8, .bool a9] =>
  match asSl .tok a0, asSl .int a1, asOwn v fr 1004 .made a4 with
  | some l, some sig, some row => some ⟨l, sig, a2, a3, row, a5, a6, a7, a8, a9⟩
  | _, _, _ => none
 | _ => none
def decQS (v : List (Nat × Nat)) (fr : List Nat) : List AV → Option QS
 | [a0, .int a1, a2, a3, .int a4, .int a5, .int a6, .int a7, .bool a8] =>
  match asSl .tok a0, asOwn v fr 1002 .node a2, asOwn v fr 1003 .int a3, keysApart a2 a3 with
  | some l, some row, some high, true => some ⟨l, a1, row, high, a4, a5, a6, a7, a8⟩
  | _, _, _, _ => none
 | _ => none
def decU : List AV → Option Unit
 | [] => some ()
 | _ => none
def STy.dec (v : List (Nat × Nat)) (fr : List Nat) : (τ : STy) → List AV → Option τ.T
 | .unit => decU
 | .prog => decPS v fr
 | .ref => decQS v fr
inductive Sh where
 | u | i | b | str
 | e (x : El)
 | s (x : El)
 | n (τ : STy)
 | t2 (x y : Sh)
 | t3 (x y z : Sh)
@[reducible] def Sh.T : Sh → Type
 | .u => Unit | .i => Int | .b => Bool | .str => ByteArray | .e x => x.T | .s x => List x.T | .n τ => τ.T
 | .t2 x y => x.T × y.T | .t3 x y z => x.T × y.T × z.T
def Sh.enc : (h : Sh) → h.T → AV
 | .u, _ => .undef | .i, x => .int x | .b, x => .bool x | .str, x => .str x | .e x, y => .agg (x.enc y) | .s x, l => .sl x l | .n τ, p => .new (τ.enc 0 p)
 | .t2 x y, p => .tup [x.enc p.1, y.enc p.2]
 | .t3 x y z, p => .tup [x.enc p.1, y.enc p.2.1, z.enc p.2.2]
def asInt : AV → Option Int | .int x => some x | _ => none
def asBoo : AV → Option Bool | .bool x => some x | _ => none
def asStr : AV → Option ByteArray | .str x => some x | _ => none
def asAgL : AV → Option (List AV) | .agg l => some l | _ => none
def asNew : AV → Option (List AV) | .new l => some l | _ => none
def asT2 : AV → Option (AV × AV) | .tup [a, c] => some (a, c) | _ => none
def asT3 : AV → Option (AV × AV × AV) | .tup [a, c, d] => some (a, c, d) | _ => none
def Sh.dec : (h : Sh) → AV → Option h.T
 | .u, _ => some ()
 | .i, a => asInt a
 | .b, a => asBoo a
 | .str, a => asStr a
 | .e x, a => match asAgL a with | some l => x.dec l | none => none
 | .s x, a => asSl x a
 | .n τ, a => match asNew a with | some l => τ.dec [] [] l | none => none
 | .t2 x y, p => match asT2 p with | some (a, c) => (match x.dec a, y.dec c with | some p, some q => some (p, q) | _, _ => none) | none => none
 | .t3 x y z, p => match asT3 p with | some (a, c, d) => (match x.dec a, y.dec c, z.dec d with | some p, some q, some r => some (p, q, r) | _, _, _ => none) | none => none
structure Ty where
 agg : Bool
 zero : List AV
 offs : List Nat := []
 szs : List Nat := []
 ftys : List Nat := []
 el : Option El := none
structure Mask where
 t : List Nat := []                      -- the temporaries that are kept
 own : List (Nat × Nat × El) := []       -- those that are lists, their keys, their kinds
 fz : List Nat := []                     -- those that are lists that stay from here on
 b : List (Nat × List (Nat × Nat × El)) := []    -- the variables that are kept; their cells that are lists
structure FnI where
 fn : Func
 masks : List (Nat × Mask)
def FnI.mask (fi : FnI) (i : Nat) : Mask := match fi.masks.find? fun x => Nat.beq x.1 i with | some x => x.2 | none => {}
inductive Cv where
 | ik (k : IntKind) | str | bytes
structure Tab where
 tid : El → Nat
 tys : List (Nat × Ty)
 shs : List (Nat × Sh)
 stys : List (Nat × STy)
 cvs : List (Nat × Cv) := []
 eqs : List (Nat × Bool) := []           -- what is compared as a whole: structs of three numbers; booleans
def findN {α : Type} (l : List (Nat × α)) (k : Nat) : Option α :=
 match l with
 | [] => none
 | (i, a) :: r => match Nat.beq i k with | true => some a | false => findN r k
def Tab.ty (t : Tab) (k : Nat) : Option Ty := findN t.tys k
def Tab.elOf (t : Tab) (k : Nat) : Option El := match t.ty k with | some ty => ty.el | none => none
def Tab.sh (t : Tab) (k : Nat) : Sh := match findN t.shs k with | some h => h | none => .u
def Tab.sty (t : Tab) (k : Nat) : STy := match findN t.stys k with | some h => h | none => .unit
structure St where
 t : List (Nat × AV)
 b : List (Nat × List AV)
 s : List AV
 v : List (Nat × Nat)
 c : Nat
 fr : List Nat                           -- the owned lists that stay as they are
def getT (t : List (Nat × AV)) (k : Nat) : AV :=
 match t with
 | [] => .undef
 | (i, a) :: r => match Nat.beq i k with | true => a | false => getT r k
def getB (t : List (Nat × List AV)) (k : Nat) : List AV :=
 match t with
 | [] => []
 | (i, a) :: r => match Nat.beq i k with | true => a | false => getB r k
def St.put (σ : St) (d : Option Nat) (a : AV) : St :=
 match d with
 | some d => { σ with t := (d, a) :: σ.t }
 | none => σ
def St.bump (σ : St) (k : Nat) : St := { σ with v := (k, σ.c + 1) :: σ.v, c := σ.c + 1 }
def St.cur (σ : St) (k ver : Nat) : Bool := Nat.beq ver (getV σ.v k)
def St.fresh (σ : St) (k : Nat) : St := { σ with v := (k, σ.c + 1) :: σ.v, c := σ.c + 1, fr := σ.fr.filter fun x => !Nat.beq x k }
def St.fro (σ : St) (k : Nat) : Bool := σ.fr.contains k
def ofConst : Value → AV
 | .int .i64 n => .int n
 | .int k n => .ik k n
 | .string s => .str s
 | .bool b => .bool b
 | .slice none 0 0 => .nil
 | .agg cs => .agg (cs.toList.map fun | .int .i64 n => .int n | .bool b => .bool b | .slice none 0 0 => .nil | _ => .undef)
 | _ => .undef
def getO (t : List (Nat × AV)) : Operand → AV
 | .tmp i => getT t i
 | .const v => ofConst v
 | .func f => .clos f [] []
 | .global _ => .undef
def AV.cells : AV → List AV
 | .agg l => l
 | a => [a]
def AV.one : AV → Bool
 | .int _ | .bool _ | .ik .. | .str _ | .rdr _ | .cbox _ | .sl .. | .nil | .clos .. | .spt .. => true
 | _ => false
def AV.fz1 : AV → Bool
 | .undef | .skip => true
 | a => a.one
def AV.fz : AV → Bool
 | .agg l => l.all AV.one
 | a => a.fz1
def AV.cell : AV → Bool
 | .own .. => true
 | a => a.one
def writeL (c : List AV) (i : Nat) (l : List AV) : List AV := c.take i ++ (l ++ c.drop (i + l.length))
def addPt : AV → Nat → Option AV
 | .rdr i, n => some (.rdr (i + n))
 | .lbox k i, n => some (.lbox k (i + n))
 | .cbox a, 0 => some (.cbox a)
 | .spt e x o, n => some (.spt e x (o + n))
 | .vpt k w e x o, n => some (.vpt k w e x (o + n))
 | .opt k w e x i o, n => some (.opt k w e x i (o + n))
 | _, _ => none
def readAt (ty : Ty) (c : List AV) (i : Nat) : Option AV :=
 match Nat.ble (i + ty.zero.length) c.length with
 | true => if ty.agg then some (.agg ((c.drop i).take ty.zero.length)) else some (c.getD i .undef)
 | false => none
def loadAV (σ : St) (ty : Ty) : AV → Option AV
 | .rdr i => readAt ty σ.s i
 | .lbox k i => readAt ty (getB σ.b k) i
 | .cbox a => if ty.agg then none else some a
 | .spt e x o => readAt ty (e.enc x) o
 | .vpt k w e x o => match σ.cur k w with | true => readAt ty (e.enc x) o | false => none
 | .opt k w e x _ o => match σ.cur k w with | true => readAt ty (e.enc x) o | false => none
 | _ => none
def setEl1 (k w : Nat) (e : El) (i : Nat) (x : e.T) : AV → AV
 | .own k' w' e' l =>
  match Nat.beq k' k, Nat.beq w' w with
  | true, true => match El.cast e' e [x] with | some [x] => .own k' w' e' (l.set i x) | _ => .undef
  | true, false => .undef
  | _, _ => .own k' w' e' l
 | .vw k' w' e' l => match Nat.beq k' k with | true => .undef | false => .vw k' w' e' l
 | .vpt k' w' e' y o => match Nat.beq k' k with | true => .undef | false => .vpt k' w' e' y o
 | .opt k' w' e' y j o => match Nat.beq k' k with | true => .undef | false => .opt k' w' e' y j o
 | a => a
def setEl (k w : Nat) (e : El) (i : Nat) (x : e.T) : AV → AV
 | .agg l => .agg (l.map (setEl1 k w e i x))
 | a => setEl1 k w e i x a
def storeAV (σ : St) (ty : Ty) (p x : AV) : Option St :=
 match Nat.beq x.cells.length ty.zero.length, x.cells.all AV.cell with
 | true, true =>
  match p with
  | .rdr i => match Nat.ble (i + ty.zero.length) σ.s.length with | true => some { σ with s := writeL σ.s i x.cells } | false => none
  | .lbox k i => match Nat.ble (i + ty.zero.length) (getB σ.b k).length with | true => some { σ with b := (k, writeL (getB σ.b k) i x.cells) :: σ.b } | false => none
  | .opt k w e y i o =>
   match σ.cur k w, σ.fro k, Nat.ble (o + ty.zero.length) (e.enc y).length, x.cells.all AV.one with
   | true, false, true, true =>
    match e.dec (writeL (e.enc y) o x.cells) with
    | some z => some { σ with t := σ.t.map (fun p => (p.1, setEl k w e i.toNat z p.2)), b := σ.b.map (fun p => (p.1, p.2.map (setEl1 k w e i.toNat z))), s := σ.s.map (setEl1 k w e i.toNat z) }
    | none => none
   | _, _, _, _ => none
  | _ => none
 | _, _ => none
def freeze1 (σ : St) : AV → Option (AV × St)
 | .own k ver e l => match σ.cur k ver, Nat.ble 1000 k with | true, false => some (.sl e l, { σ with fr := k :: σ.fr }) | _, _ => none
 | a => match a.fz1 with | true => some (a, σ) | false => none
def freezeC (σ : St) (a : AV) : Option (AV × St) := match a.cell with | true => freeze1 σ a | false => none
def freezeL : List AV → St → Option (List AV × St)
 | [], σ => some ([], σ)
 | a :: r, σ =>
  match freezeC σ a with
  | some (a', σ') => match freezeL r σ' with | some (r', σ'') => some (a' :: r', σ'') | none => none
  | none => none
def freeze (σ : St) : AV → Option (AV × St)
 | .agg l => match freezeL l σ with | some (l', σ') => some (.agg l', σ') | none => none
 | a => freeze1 σ a
def freezeAll : List AV → St → Option (List AV × St)
 | [], σ => some ([], σ)
 | a :: r, σ =>
  match freeze σ a with
  | some (a', σ') => match freezeAll r σ' with | some (r', σ'') => some (a' :: r', σ'') | none => none
  | none => none
def decAll (e : El) : List AV → Option (List e.T)
 | [] => some []
 | a :: r => match e.dec a.cells, decAll e r with | some x, some l => some (x :: l) | _, _ => none
def dense : List (Nat × Operand) → Nat → Bool
 | [], _ => true
 | (j, _) :: r, i => match Nat.beq i j with | true => dense r (i + 1) | false => false
def fillAll (offs szs : List Nat) : List (Nat × AV) → List AV → Option (List AV)
 | [], c => some c
 | (i, a) :: r, c =>
  match offs[i]?, szs[i]? with
  | some o, some n =>
   match Nat.ble (o + n) c.length, Nat.beq a.cells.length n, a.cells.all AV.cell with
   | true, true, true => fillAll offs szs r (writeL c o a.cells)
   | _, _, _ => none
  | _, _ => none
def maxRow : Nat := 4294967296
section
variable {R : Type} (tab : Tab) (call : (τ : STy) → Nat → List AV → τ.T → Option (AV × τ.T)) (τ : STy)
def idxK (E : Option El) (σ : St) (x : AV) (i : Int) (K : AV → Option R) : Option R :=
 match x with
 | .sl e l => match isEl E e with | true => if 0 ≤ i then if i < (l.length : Int) then K (.spt e (l.getD i.toNat e.dflt) 0) else none else none | false => none
 | .own k w e l => match isEl E e && σ.cur k w with | true => if 0 ≤ i then if i < (l.length : Int) then K (.opt k w e (l.getD i.toNat e.dflt) i 0) else none else none | false => none
 | .vw k w e l => match isEl E e && σ.cur k w with | true => if 0 ≤ i then if i < (l.length : Int) then K (.vpt k w e (l.getD i.toNat e.dflt) 0) else none else none | false => none
 | _ => none
def lenK (E : Option El) (σ : St) (x : AV) (K : AV → Option R) : Option R :=
 match E with
 | none => none
 | some _ =>
  match x with
  | .sl _ l => K (.int l.length)
  | .nil => K (.int 0)
  | .own k w _ l => match σ.cur k w with | true => K (.int l.length) | false => none
  | .vw k w _ l => match σ.cur k w with | true => K (.int l.length) | false => none
  | _ => none
def rows (σ : St) : AV → Option ((e : El) × List e.T)
 | .sl e l => some ⟨e, l⟩
 | .own k w e l => match σ.cur k w with | true => some ⟨e, l⟩ | false => none
 | .vw k w e l => match σ.cur k w with | true => some ⟨e, l⟩ | false => none
 | _ => none
def appendK (E : Option El) (σ : St) (d : Nat) (x y : AV) (K : St → Option R) : Option R :=
 match E with
 | none => none
 | some e0 =>
  match x with
  | .own k w e l =>
   match El.eqb e0 e && (σ.cur k w && !σ.fro k) with
   | true =>
    match y with
    | .nil => let σ' := σ.bump k; K (σ'.put (some d) (.own k σ'.c e l))
    | y =>
     match rows σ y with
     | some ⟨e', m⟩ =>
      match El.cast e e' m with
      | some m => if l.length + m.length < maxRow then (let σ' := σ.bump k; K (σ'.put (some d) (.own k σ'.c e (l ++ m)))) else none
      | none => none
     | none => none
   | false => none
  | .nil =>
   match y with
   | .nil => K (σ.put (some d) .nil)
   | y =>
    match rows σ y with
    | some ⟨e', m⟩ =>
     match El.eqb e0 e' with
     | true => if m.length < maxRow then (let σ' := σ.fresh d; K (σ'.put (some d) (.own d σ'.c e' m))) else none
     | false => none
    | none => none
  | _ => none
def sliceK (E : Option El) (σ : St) (x : AV) (lo hi : Option AV) (K : AV → Option R) : Option R :=
 match x with
 | .sl e l =>
  match isEl E e with
  | true =>
   match lo, hi with
   | none, some (.int h) => if 0 ≤ h then if h ≤ (l.length : Int) then K (.sl e (l.take h.toNat)) else none else none
   | some (.int a), none => if 0 ≤ a then if a ≤ (l.length : Int) then K (.sl e (l.drop a.toNat)) else none else none
   | some (.int a), some (.int h) => if 0 ≤ h then if h ≤ (l.length : Int) then if 0 ≤ a then if a ≤ h then K (.sl e ((l.take h.toNat).drop a.toNat)) else none else none else none else none
   | _, _ => none
  | false => none
 | .own k w e l =>
  match isEl E e && σ.cur k w with
  | true =>
   match lo, hi with
   | none, some (.int h) => if 0 ≤ h then if h ≤ (l.length : Int) then K (.own k w e (l.take h.toNat)) else none else none
   | some (.int a), none => if 0 ≤ a then if a ≤ (l.length : Int) then K (.vw k w e (l.drop a.toNat)) else none else none
   | some (.int a), some (.int h) => if 0 ≤ h then if h ≤ (l.length : Int) then if 0 ≤ a then if a ≤ h then K (.vw k w e ((l.take h.toNat).drop a.toNat)) else none else none else none else none
   | _, _ => none
  | false => none
 | _ => none
def binAV (op : BinOp) : AV → AV → Option AV
 | .int x, .int y =>
  match op with
  | .add => some (.int (IntKind.i64.wrap (x + y)))
  | .sub => some (.int (IntKind.i64.wrap (x - y)))
  | .eql => some (.bool (decide (x = y)))
  | .neq => some (.bool (decide (x ≠ y)))
  | .lss => some (.bool (decide (x < y)))
  | .leq => some (.bool (decide (x ≤ y)))
  | .gtr => some (.bool (decide (x > y)))
  | .geq => some (.bool (decide (x ≥ y)))
  | _ => none
 | _, _ => none
inductive GV where
 | sure (a : AV) | may (g : Bool) (a : AV) | no
def eqAV (op : BinOp) (b : Bool) : Option AV := match op with | .eql => some (.bool b) | .neq => some (.bool (!b)) | _ => none
def bt (s : ByteArray) (n : Int) : Int := ((s[n.toNat]?.getD 0).toNat : Int)
def mkI (k : IntKind) (n : Int) : AV := match k with | .i64 => .int n | k => .ik k n
def idxG (T : Nat) : AV → AV → GV
 | .str s, .int n => match findN tab.cvs T with | some .str => .may (decide (0 ≤ n) && decide (n < (s.size : Int))) (.ik .u8 (bt s n)) | _ => .no
 | _, _ => .no
def strOfL (l : List Int) : ByteArray := ⟨(l.map fun n => UInt8.ofNat n.toNat).toArray⟩
def cvAV (S D : Nat) : AV → Option AV
 | .int n => match findN tab.cvs S, findN tab.cvs D with | some (.ik _), some (.ik k) => some (mkI k (k.wrap n)) | _, _ => none
 | .ik _ n => match findN tab.cvs S, findN tab.cvs D with | some (.ik _), some (.ik k) => some (mkI k (k.wrap n)) | _, _ => none
 | .sl .u8 l => match findN tab.cvs S, findN tab.cvs D with | some .bytes, some .str => some (.str (strOfL l)) | _, _ => none
 | _ => none
def cutG (T : Nat) (x : AV) (lo hi : Option AV) : GV :=
 match x with
 | .str s =>
  match findN tab.cvs T with
  | some .str =>
   match lo, hi with
   | none, some (.int h) => .may (decide (0 ≤ h) && decide (h ≤ (s.size : Int))) (.str (s.extract 0 h.toNat))
   | some (.int a), none => .may (decide (0 ≤ a) && decide (a ≤ (s.size : Int))) (.str (s.extract a.toNat s.size))
   | some (.int a), some (.int h) => .may (decide (0 ≤ a) && (decide (a ≤ h) && decide (h ≤ (s.size : Int)))) (.str (s.extract a.toNat h.toNat))
   | _, _ => .no
  | _ => .no
 | _ => .no
def gK (o : GV) (K : AV → Option R) : Option R := match o with | .sure a => K a | .may g a => if g then K a else none | .no => none
def sliceT (T : Nat) (σ : St) (x : AV) (lo hi : Option AV) (K : AV → Option R) : Option R :=
 match cutG tab T x lo hi with
 | .may g a => gK (.may g a) K
 | _ => sliceK (tab.elOf T) σ x lo hi K
def cmpAV (op : BinOp) (x y : Int) : Option AV :=
 match op with
 | .eql => some (.bool (decide (x = y)))
 | .neq => some (.bool (decide (x ≠ y)))
 | .lss => some (.bool (decide (x < y)))
 | .leq => some (.bool (decide (x ≤ y)))
 | .gtr => some (.bool (decide (x > y)))
 | .geq => some (.bool (decide (x ≥ y)))
 | _ => none
def andI (k : IntKind) (x y : Int) : Int := k.wrap ((BitVec.ofInt k.bits x &&& BitVec.ofInt k.bits y).toNat : Int)
def orI (k : IntKind) (x y : Int) : Int := k.wrap ((BitVec.ofInt k.bits x ||| BitVec.ofInt k.bits y).toNat : Int)
def shlI (k : IntKind) (x y : Int) : Int := k.wrap (x * 2 ^ min y.toNat k.bits)
def shrI (k : IntKind) (x y : Int) : Int := x.fdiv (2 ^ min y.toNat k.bits)
def arI (op : BinOp) (k : IntKind) (x y : Int) : Option Int :=
 match op with
 | .add => some (k.wrap (x + y))
 | .sub => some (k.wrap (x - y))
 | .mul => some (k.wrap (x * y))
 | .and => some (andI k x y)
 | .or => some (orI k x y)
 | _ => none
def ikAV (op : BinOp) (k : IntKind) (x y : Int) : Option AV := match arI op k x y with | some z => some (.ik k z) | none => cmpAV op x y
def i64AV (op : BinOp) (x y : Int) : Option AV :=
 match op with
 | .mul => some (.int (IntKind.i64.wrap (x * y)))
 | .and => some (.int (andI .i64 x y))
 | .or => some (.int (orI .i64 x y))
 | op => binAV op (.int x) (.int y)
def strAV (op : BinOp) (x y : ByteArray) : Option AV :=
 match op with
 | .eql => some (.bool (x.toList == y.toList))
 | .neq => some (.bool (!(x.toList == y.toList)))
 | _ => none
def binT (op : BinOp) (T : Nat) : AV → AV → Option AV
 | .int x, .int y => i64AV op x y
 | .ik k x, .ik k' y => if k = k' then ikAV op k x y else none
 | .str x, .str y => strAV op x y
 | .bool x, .bool y => match findN tab.eqs T with | some false => eqAV op (x == y) | _ => none
 | .agg l, .agg m =>
  match findN tab.eqs T, decTok l, decTok m with
  | some true, some x, some y => eqAV op (decide (x = y))
  | _, _, _ => none
 | _, _ => none
def shG (op : BinOp) (x y : Int) : GV := match op with | .shl => .may (decide (0 ≤ y)) (.int (shlI .i64 x y)) | .shr => .may (decide (0 ≤ y)) (.int (shrI .i64 x y)) | _ => .no
def binP (op : BinOp) : AV → AV → GV
 | .int x, .int y => shG op x y
 | .int x, .ik _ y => shG op x y
 | .str x, .str y => match op with | .add => .may (decide (x.size + y.size < 1099511627776)) (.str (x ++ y)) | _ => .no
 | _, _ => .no
def binG (op : BinOp) (T : Nat) (x y : AV) : GV := match binP op x y with | .may g a => .may g a | _ => match binT tab op T x y with | some a => .sure a | none => .no
def gotK (σ : St) (d : Option Nat) (h : Sh) (x : h.T) (K : St → Option R) : Option R :=
 match h, d, x with
 | .n τ', some d, x => match (getB σ.b d), τ'.enc 0 x with | [], y :: l => K ({ σ with b := (d, y :: l) :: σ.b }.put (some d) (.lbox d 0)) | _, _ => none
 | h, d, x => K (σ.put d (h.enc x))
def shaped (h : Sh) {P : Type} (o : Option (AV × P)) : Option (h.T × P) :=
 o.bind fun (a, p) => (h.dec a).map fun x => (x, p)
def ownKeys (l : List AV) : List Nat := l.filterMap fun | .own k .. => some k | _ => none
def St.back (σ : St) (p : τ.T) : St :=
 { σ with s := τ.enc (σ.c + 1) p, v := ((τ.keys ++ ownKeys σ.s).map fun k => (k, σ.c + 1)) ++ σ.v, c := σ.c + 1, fr := σ.fr.filter fun k => !τ.keys.contains k }
def St.lent (σ : St) (τ' : STy) (k : Nat) (p : τ'.T) : St :=
 { σ with b := (k, τ'.enc (σ.c + 1) p) :: σ.b, v := ((τ'.keys ++ ownKeys (getB σ.b k)).map fun k => (k, σ.c + 1)) ++ σ.v, c := σ.c + 1, fr := σ.fr.filter fun k => !τ'.keys.contains k }
def AV.plain : AV → Bool
 | .undef | .skip | .int _ | .bool _ | .ik .. | .str _ | .sl .. | .nil => true
 | _ => false
def AV.plainA : AV → Bool
 | .agg l => l.all AV.plain
 | a => a.plain
def callK (σ : St) (o : Oper) (f : Nat) (fst args cap : List AV) (static : Bool) (K : St → Option R) : Option R :=
 match freezeAll args σ with
 | none =>
  -- a variable of the frame's own is lent as the callee's state
  match τ, args, static with
  | .unit, .lbox k 0 :: rest, true =>
   match freezeAll rest σ with
   | some (rest', σ1) =>
    match rest'.all AV.plainA, (tab.sty f).dec σ1.v σ1.fr (getB σ1.b k) with
    | true, some p =>
     (shaped (tab.sh o.type) (call (tab.sty f) f (.rdr 0 :: rest') p)).bind fun r =>
      gotK (σ1.lent (tab.sty f) k r.2) o.dst (tab.sh o.type) r.1 K
    | _, _ => none
   | none => none
  | _, _, _ => none
 | some (args', σ1) =>
  match (if static then tab.sty f else τ) with
  | .unit => (shaped (tab.sh o.type) (call .unit f (fst ++ (args' ++ cap)) ())).bind fun r => gotK σ1 o.dst (tab.sh o.type) r.1 K
  | τ' =>
   if τ' = τ then
    match τ.dec σ1.v σ1.fr σ1.s with
    | some p => (shaped (tab.sh o.type) (call τ f (fst ++ (args' ++ cap)) p)).bind fun r => gotK (St.back τ σ1 r.2) o.dst (tab.sh o.type) r.1 K
    | none => none
   else none
def optO (t : List (Nat × AV)) : Option Operand → Option AV
 | none => none
 | some x => some (getO t x)
def strLen (T : Nat) : AV → Option Int
 | .str s => match findN tab.cvs T with | some .str => some (s.size : Int) | _ => none
 | _ => none
def lenT (T : Nat) (σ : St) (x : AV) (K : AV → Option R) : Option R := match strLen tab T x with | some n => K (.int n) | none => lenK (tab.elOf T) σ x K
def stepBuiltin (o : Oper) (b : Builtin) (args : List Operand) (ts : List Nat) (σ : St) (K : St → Option R) : Option R :=
 match b with
 | .len => match args, ts with | [x], [T] => lenT tab T σ (getO σ.t x) fun a => K (σ.put o.dst a) | _, _ => none
 | .append => match args, ts, o.dst with | [x, y], [T, T'], some d => (match Nat.beq T T' with | true => appendK (tab.elOf T) σ d (getO σ.t x) (getO σ.t y) K | false => none) | _, _, _ => none
 | .max => match args with | [x, y] => (match getO σ.t x, getO σ.t y with | .int a, .int b => K (σ.put o.dst (.int (max a b))) | _, _ => none) | _ => none
 | .min => match args with | [x, y] => (match getO σ.t x, getO σ.t y with | .int a, .int b => K (σ.put o.dst (.int (min a b))) | _, _ => none) | _ => none
 | _ => none
def stepCall (o : Oper) (f : Operand) (args : List Operand) (σ : St) (K : St → Option R) : Option R :=
 match f with
 | .func f => callK tab call τ σ o f [] (args.map (getO σ.t)) [] true K
 | x =>
  match getO σ.t x with
  | .clos f fst cap => callK tab call τ σ o f fst (args.map (getO σ.t)) cap false K
  | _ => none
def stepOp (o : Oper) (σ : St) (K : St → Option R) : Option R :=
 match o.op with
 | .move x | .assign x => K (σ.put o.dst (getO σ.t x))
 | .pick c a b =>
  match getO σ.t c with
  | .bool x => if x then K (σ.put o.dst (getO σ.t a)) else K (σ.put o.dst (getO σ.t b))
  | _ => none
 | .alloc T =>
  match o.dst with
  | some d => match getB σ.b d, tab.ty T with | [], some ty => K ({ σ with b := (d, ty.zero) :: σ.b }.put (some d) (.lbox d 0)) | _, _ => none
  | none => none
 | .box T x =>
  match o.dst, tab.ty T with
  | some d, some ty =>
   match ty.agg with
   | true =>
    match getB σ.b d, Nat.beq (getO σ.t x).cells.length ty.zero.length, (getO σ.t x).cells.all AV.cell with
    | [], true, true => K ({ σ with b := (d, (getO σ.t x).cells) :: σ.b }.put (some d) (.lbox d 0))
    | _, _, _ => none
   | false => match (getO σ.t x).one with | true => K (σ.put (some d) (.cbox (getO σ.t x))) | false => none
  | _, _ => none
 | .build T parts =>
  match tab.ty T with
  | some ty => match ty.offs.isEmpty, fillAll ty.offs ty.szs (parts.toList.map fun p => (p.1, getO σ.t p.2)) ty.zero with | false, some c => K (σ.put o.dst (.agg c)) | _, _ => none
  | none => none
 | .buildSlice T n parts =>
  match n with
  | 0 => match tab.elOf T, parts.toList with | some _, [] => K (σ.put o.dst .nil) | _, _ => none
  | n =>
   match tab.elOf T, freezeAll (parts.toList.map fun p => getO σ.t p.2) σ, dense parts.toList 0 && (Nat.beq parts.toList.length n && Nat.ble n 4096) with
   | some e, some (l, σ1), true => match decAll e l with | some xs => K (σ1.put o.dst (.sl e xs)) | none => none
   | _, _, _ => none
 | .load T p => match tab.ty T with | some ty => (match loadAV σ ty (getO σ.t p) with | some a => K (σ.put o.dst a) | none => none) | none => none
 | .store T p x => match tab.ty T with | some ty => (match storeAV σ ty (getO σ.t p) (getO σ.t x) with | some σ' => K σ' | none => none) | none => none
 | .nilCheck x => match addPt (getO σ.t x) 0 with | some a => K (σ.put o.dst a) | none => none
 | .binOp op T x y _ => gK (binG tab op T (getO σ.t x) (getO σ.t y)) fun a => K (σ.put o.dst a)
 | .unOp .not _ x => match getO σ.t x with | .bool b => K (σ.put o.dst (.bool (!b))) | _ => none
 | .makeFunc (.func f) fst cap =>
  match (fst.toList.map (getO σ.t)).all AV.one, (cap.toList.map (getO σ.t)).all AV.one with
  | true, true => K (σ.put o.dst (.clos f (fst.toList.map (getO σ.t)) (cap.toList.map (getO σ.t))))
  | _, _ => none
 | .slice T x lo hi none => sliceT tab T σ (getO σ.t x) (optO σ.t lo) (optO σ.t hi) fun a => K (σ.put o.dst a)
 | .fieldAddr T x f =>
  match tab.ty T with
  | some ty => match ty.offs[f]? with | some n => (match addPt (getO σ.t x) n with | some a => K (σ.put o.dst a) | none => none) | none => none
  | none => none
 | .indexAddr T x i => match getO σ.t i with | .int n => idxK (tab.elOf T) σ (getO σ.t x) n fun a => K (σ.put o.dst a) | _ => none
 | .field T x f =>
  match tab.ty T, getO σ.t x, tab.ty o.type with
  | some ty, .agg l, some ty' =>
   match ty.offs[f]?, ty.ftys[f]? with
   | some n, some q => match Nat.beq q o.type, readAt ty' l n with | true, some a => K (σ.put o.dst a) | _, _ => none
   | _, _ => none
  | _, _, _ => none
 | .index T x i => gK (idxG tab T (getO σ.t x) (getO σ.t i)) fun a => K (σ.put o.dst a)
 | .convert S D x => match cvAV tab S D (getO σ.t x) with | some a => K (σ.put o.dst a) | none => none
 | .extract x i => match getO σ.t x with | .tup l => (match l[i]? with | some a => K (σ.put o.dst a) | none => none) | _ => none
 | .call cl =>
  match cl.callee with
  | .builtin b => stepBuiltin tab o b cl.args.toList cl.argTypes.toList σ K
  | .value f => stepCall tab call τ o f cl.args.toList σ K
  | .invoke .. => none
 | _ => none
def dstAt (all : List Oper) (j : Nat) : Option Nat :=
 match all with
 | [] => none
 | o :: r => match j with | 0 => o.dst | j + 1 => dstAt r j
def runOps (all : List Oper) : List Oper → St → (St → Option R) → Option R
 | [], σ, K => K σ
 | o :: rest, σ, K =>
  match o.guard with
  | none => stepOp tab call τ o σ fun σ' => runOps all rest σ' K
  | some (j, w) =>
   match dstAt all j with
   | some d =>
    match getT σ.t d with
    | .bool x =>
     if x then
      match w with
      | true => stepOp tab call τ o (σ.put (some d) (.bool true)) fun σ' => runOps all rest σ' K
      | false => runOps all rest ((σ.put (some d) (.bool true)).put o.dst .skip) K
     else
      match w with
      | false => stepOp tab call τ o (σ.put (some d) (.bool false)) fun σ' => runOps all rest σ' K
      | true => runOps all rest ((σ.put (some d) (.bool false)).put o.dst .skip) K
    | .skip => runOps all rest (σ.put o.dst .skip) K
    | _ => none
   | none => none
inductive Acc where
 | none_                      -- what it is handed, alone
 | plc                        -- a place in the state's struct, out of one
 | rdB (k : Nat) | rdF (i n : Nat) | rdK (k : Nat)
 | al (k : Nat)
 | wrB (k : Nat) | wrF (i n : Nat)
 | wrE (k : Nat)
 | frz
 | call
 | big
def accLst : AV → Acc
 | .own k .. => .rdK k
 | .vw k .. => .rdK k
 | _ => .none_
def accOf (σ : St) (o : Oper) : Acc :=
 match o.op with
 | .move _ | .assign _ | .pick .. | .build .. | .binOp .. | .unOp .. | .makeFunc .. | .field .. | .extract .. | .index .. | .convert .. => .none_
 | .nilCheck x => match getO σ.t x with | .rdr _ => .plc | _ => .none_
 | .fieldAddr _ x _ => match getO σ.t x with | .rdr _ => .plc | _ => .none_
 | .load T p =>
  match getO σ.t p with
  | .lbox k _ => .rdB k
  | .rdr i => match tab.ty T with | some ty => .rdF i ty.zero.length | none => .big
  | .cbox _ => .none_
  | .spt .. => .none_
  | .vpt k .. => .rdK k
  | .opt k .. => .rdK k
  | _ => .big
 | .store T p _ =>
  match getO σ.t p with
  | .lbox k _ => .wrB k
  | .rdr i => match tab.ty T with | some ty => .wrF i ty.zero.length | none => .big
  | .opt k .. => .wrE k
  | _ => .big
 | .alloc _ => match o.dst with | some d => .al d | none => .big
 | .box _ _ => match o.dst with | some d => .al d | none => .big
 | .buildSlice _ _ parts => match parts.toList.all fun p => (getO σ.t p.2).fz with | true => .none_ | false => .frz
 | .slice _ x _ _ _ => accLst (getO σ.t x)
 | .indexAddr _ x _ => accLst (getO σ.t x)
 | .call cl =>
  match cl.callee with
  | .builtin b =>
   match b with
   | .len => (match cl.args.toList with | [x] => accLst (getO σ.t x) | _ => .big)
   | .max => .none_
   | .min => .none_
   | _ => .big
  | .value f => (match f with | .func _ => (match cl.args.toList.all (fun x => (getO σ.t x).fz), tab.sh o.type with | true, .n _ => .big | true, _ => .call | false, _ => .big) | _ => .big)
  | .invoke .. => .big
 | _ => .big
def Acc.apart : Acc → Acc → Bool
 | .wrE _, .wrF _ _ => true
 | .wrE _, .plc => true
 | .wrE _, _ => false
 | _, .wrE _ => false
 | .none_, _ => true
 | _, .none_ => true
 | .plc, _ => true
 | _, .plc => true
 | .rdB _, .rdB _ => true
 | .rdB _, .rdF _ _ => true
 | .rdB _, .rdK _ => true
 | .rdF _ _, .rdB _ => true
 | .rdF _ _, .rdF _ _ => true
 | .rdF _ _, .rdK _ => true
 | .rdK _, .rdB _ => true
 | .rdK _, .rdF _ _ => true
 | .rdK _, .rdK _ => true
 | .rdB k, .al d => !Nat.beq k d
 | .al d, .rdB k => !Nat.beq k d
 | .rdF _ _, .al _ => true
 | .al _, .rdF _ _ => true
 | .rdK _, .al _ => true
 | .al _, .rdK _ => true
 | .al k, .al d => !Nat.beq k d
 | .rdB k, .wrB d => !Nat.beq k d
 | .wrB d, .rdB k => !Nat.beq k d
 | .rdB _, .wrF _ _ => true
 | .wrF _ _, .rdB _ => true
 | .rdF _ _, .wrB _ => true
 | .wrB _, .rdF _ _ => true
 | .rdF i n, .wrF j m => Nat.ble (i + n) j || Nat.ble (j + m) i
 | .wrF j m, .rdF i n => Nat.ble (i + n) j || Nat.ble (j + m) i
 | .rdK _, .wrB _ => true
 | .wrB _, .rdK _ => true
 | .rdK _, .wrF _ _ => true
 | .wrF _ _, .rdK _ => true
 | .wrB k, .wrB d => !Nat.beq k d
 | .wrB _, .wrF _ _ => true
 | .wrF _ _, .wrB _ => true
 | .wrF i n, .wrF j m => Nat.ble (i + n) j || Nat.ble (j + m) i
 | .al k, .wrB d => !Nat.beq k d
 | .wrB d, .al k => !Nat.beq k d
 | .al _, .wrF _ _ => true
 | .wrF _ _, .al _ => true
 | .frz, .rdB _ => true
 | .rdB _, .frz => true
 | .frz, .rdF _ _ => true
 | .rdF _ _, .frz => true
 | .frz, .rdK _ => true
 | .rdK _, .frz => true
 | .rdB _, .call => true
 | .call, .rdB _ => true
 | .al _, .call => true
 | .call, .al _ => true
 | _, _ => false
def tmpsOf (l : List Operand) : List Nat := l.filterMap fun | .tmp t => some t | _ => none
def looks (all : List Oper) (o : Oper) : List Nat :=
 (match o.guard with | some (j, _) => (dstAt all j).toList | none => []) ++ tmpsOf o.op.operands.toList
def parts2 (all : List Oper) (x y : Oper) : Bool :=
 match x.dst, y.dst with
 | some d, some e => !Nat.beq d e && (!(looks all y).contains d && !(looks all x).contains e)
 | some d, none => !(looks all y).contains d
 | none, some e => !(looks all x).contains e
 | none, none => true
def depMask (o : Oper) (prev : List Nat) : Nat :=
 o.after.toList.foldl (fun s e => match e.ground with | .textOnly _ | .gcOnly _ => s | _ => s ||| 2 ^ e.on ||| prev.getD e.on 0) 0
def depMasks : List Oper → List Nat → List Nat
 | [], acc => acc
 | o :: r, acc => depMasks r (acc ++ [depMask o acc])
def freeOf (all : List Oper) (o : Oper) (a : Acc) (m : Nat) : List (Oper × Acc) → Nat → Bool
 | [], _ => true
 | (x, b) :: r, i => (m.testBit i || (Acc.apart b a && parts2 all x o)) && freeOf all o a m r (i + 1)
def runD (all : List Oper) (masks : List Nat) : List Oper → List (Oper × Acc) → St → (St → Option R) → Option R
 | [], _, σ, K => K σ
 | o :: rest, acc, σ, K =>
  match o.guard with
  | none =>
   match freeOf all o (accOf tab σ o) (masks.getD acc.length 0) acc 0 with
   | true => stepOp tab call τ o σ fun σ' => runD all masks rest (acc ++ [(o, accOf tab σ o)]) σ' K
   | false => none
  | some (j, w) =>
   match dstAt all j with
   | some d =>
    match getT σ.t d with
    | .bool x =>
     if x then
      match w with
      | true =>
       match freeOf all o (accOf tab σ o) (masks.getD acc.length 0) acc 0 with
       | true => stepOp tab call τ o (σ.put (some d) (.bool true)) fun σ' => runD all masks rest (acc ++ [(o, accOf tab σ o)]) σ' K
       | false => none
      | false =>
       match freeOf all o .none_ (masks.getD acc.length 0) acc 0 with
       | true => runD all masks rest (acc ++ [(o, .none_)]) ((σ.put (some d) (.bool true)).put o.dst .skip) K
       | false => none
     else
      match w with
      | false =>
       match freeOf all o (accOf tab σ o) (masks.getD acc.length 0) acc 0 with
       | true => stepOp tab call τ o (σ.put (some d) (.bool false)) fun σ' => runD all masks rest (acc ++ [(o, accOf tab σ o)]) σ' K
       | false => none
      | true =>
       match freeOf all o .none_ (masks.getD acc.length 0) acc 0 with
       | true => runD all masks rest (acc ++ [(o, .none_)]) ((σ.put (some d) (.bool false)).put o.dst .skip) K
       | false => none
    | .skip =>
     match freeOf all o .none_ (masks.getD acc.length 0) acc 0 with
     | true => runD all masks rest (acc ++ [(o, .none_)]) (σ.put o.dst .skip) K
     | false => none
    | _ => none
   | none => none
inductive Ex where
 | normal | exit (id : Nat) | ret
def retag1 (σ : St) (bs bad : List Nat) : AV → AV
 | .own k w e l => match bad.contains k, σ.cur k w, σ.fro k with | false, true, false => .own k 0 e l | false, true, true => .sl e l | _, _, _ => .undef
 | .vw k w e l => match bad.contains k, σ.cur k w, σ.fro k with | false, true, false => .vw k 0 e l | false, true, true => .sl e l | _, _, _ => .undef
 | .vpt k w e x o => match bad.contains k, σ.cur k w, σ.fro k with | false, true, false => .vpt k 0 e x o | false, true, true => .spt e x o | _, _, _ => .undef
 | .opt k w e x i o => match bad.contains k, σ.cur k w, σ.fro k with | false, true, false => .opt k 0 e x i o | false, true, true => .spt e x o | _, _, _ => .undef
 | .lbox k i => match bs.contains k with | true => .lbox k i | false => .undef
 | a => a
def retag (σ : St) (bs bad : List Nat) : AV → AV
 | .agg l => .agg (l.map (retag1 σ bs bad))
 | a => retag1 σ bs bad a
def ownify (own : List (Nat × Nat × El)) (i : Nat) : AV → AV
 | .nil => match own.find? fun x => Nat.beq x.1 i with | some (_, k, e) => .own k 0 e [] | none => .nil
 | a => a
def badKeys (τ : STy) (σ : St) : List Nat :=
 ((ownKeys σ.s).filter fun k => !τ.keys.contains k) ++ (τ.keys.filter fun k => !(ownKeys σ.s).contains k)
def leave (τ : STy) (σ : St) (fz : List Nat) (i : Nat) : AV → AV
 | .own k w e l =>
  match fz.contains i, τ.keys.contains k && !(ownKeys σ.s).contains k, σ.cur k w with
  | true, true, true => .sl e l
  | _, _, _ => .own k w e l
 | a => a
def Mask.apply (τ : STy) (m : Mask) (σ : St) : St :=
 { t := m.t.map fun i => (i, ownify m.own i (retag σ (m.b.map (·.1)) (badKeys τ σ) (leave τ σ m.fz i (getT σ.t i)))), b := m.b.map fun x => (x.1, (getB σ.b x.1).zipIdx.map fun (a, i) => ownify x.2 i (retag1 σ [] (badKeys τ σ) a)), s := match τ.dec σ.v σ.fr σ.s with | some p => τ.enc 0 p | none => [], v := [], c := 0, fr := [] }
def loopN (m : St → St) (body : St → (Ex → St → Option R) → Option R) (K : Ex → St → Option R) : Nat → St → Option R
 | 0, _ => none
 | n + 1, σ => body σ fun ex σ' =>
  match ex with
  | .normal => loopN m body K n (m σ')
  | e => K e σ'
def exec (masks : Nat → Mask) (lim : Nat) : Code → Nat → St → (Ex → St → Option R) → Option R
 | .skip, _, σ, K => K .normal σ
 | .region _ ops draw, _, σ, K =>
  match draw with
  | false => runOps tab call τ ops.toList ops.toList σ (K .normal)
  | true => runD tab call τ ops.toList (depMasks ops.toList []) ops.toList [] σ (K .normal)
 | .seq a b, bid, σ, K => exec masks lim a bid σ fun ex σ' => match ex with | .normal => exec masks lim b bid σ' K | e => K e σ'
 | .cond c a b, bid, σ, K => match getO σ.t c with | .bool x => if x then exec masks lim a bid σ K else exec masks lim b bid σ K | _ => none
 | .block id a, _, σ, K => exec masks lim a id σ fun ex σ' => match ex with | .exit i => (match Nat.beq i id with | true => K .normal σ' | false => K (.exit i) σ') | e => K e σ'
 | .loop a, bid, σ, K => loopN ((masks bid).apply τ) (fun σ' K' => exec masks lim a bid σ' K') K lim ((masks bid).apply τ σ)
 | .exit id, _, σ, K => K (.exit id) σ
 | .scope a, bid, σ, K => exec masks lim a bid σ K
 | .label _, _, σ, K => K .normal σ
 | .ret, _, σ, K => K .ret σ
 | _, _, _, _ => none
def Kseq (masks : Nat → Mask) (lim : Nat) (b : Code) (bid : Nat) (K : Ex → St → Option R) : Ex → St → Option R :=
 fun ex σ' => match ex with | .normal => exec tab call τ masks lim b bid σ' K | e => K e σ'
def Kblk (id : Nat) (K : Ex → St → Option R) : Ex → St → Option R :=
 fun ex σ' => match ex with | .exit i => (match Nat.beq i id with | true => K .normal σ' | false => K (.exit i) σ') | e => K e σ'
def Klp (masks : Nat → Mask) (lim : Nat) (a : Code) (bid n : Nat) (K : Ex → St → Option R) : Ex → St → Option R :=
 fun ex σ' => match ex with | .normal => loopN ((masks bid).apply τ) (fun σ' K' => exec tab call τ masks lim a bid σ' K') K n ((masks bid).apply τ σ') | e => K e σ'
def lpN (masks : Nat → Mask) (lim : Nat) (a : Code) (bid n : Nat) (K : Ex → St → Option R) (σ : St) : Option R :=
 loopN ((masks bid).apply τ) (fun σ' K' => exec tab call τ masks lim a bid σ' K') K n σ
def cX (h : Sh) (τ : STy) (f : Nat) (args : List AV) (p : τ.T) (K : h.T → τ.T → Option R) : Option R :=
 (shaped h (call τ f args p)).bind fun r => K r.1 r.2
def resAV (σ : St) : ResultVar → Option AV
 | .tmp t => some (getT σ.t t)
 | .cell t T => match tab.ty T with | some ty => loadAV σ ty (getT σ.t t) | none => none
def resAll (σ : St) : List ResultVar → Option (List AV)
 | [] => some []
 | r :: rest => match resAV tab σ r, resAll σ rest with | some a, some l => some (a :: l) | _, _ => none
def outs (σ : St) : List AV → Option (AV × St)
 | [] => some (.undef, σ)
 | [.lbox k 0] => match freezeAll (getB σ.b k) σ with | some (l, σ') => some (.new l, σ') | none => none
 | [a] => freeze σ a
 | l => match freezeAll l σ with | some (l', σ') => some (.tup l', σ') | none => none
def fin (fi : FnI) : Ex → St → Option (AV × τ.T)
 | .exit _, _ => none
 | _, σ =>
  match resAll tab σ fi.fn.results.toList with
  | some l =>
   match outs σ l with
   | some (a, σ') => match τ.dec σ'.v σ'.fr σ'.s with | some p => some (a, p) | none => none
   | none => none
  | none => none
def start (args : List AV) (s : List AV) : St :=
 { t := args.zipIdx.map fun (a, i) => (i, a), b := [], s, v := [], c := 0, fr := [] }
def evalBody (lim : Nat) (fi : FnI) (args : List AV) (p : τ.T) : Option (AV × τ.T) :=
 exec tab call τ fi.mask lim fi.fn.code 0 (start args (τ.enc 0 p)) (fin tab τ fi)
end
abbrev Ovr := (call : (τ : STy) → Nat → List AV → τ.T → Option (AV × τ.T)) → (lim : Nat) → (τ : STy) → List AV → τ.T → Option (AV × τ.T)
def evalF (tab : Tab) (fns : List (Nat × FnI)) (ovr : Nat → Option Ovr) : Nat → (τ : STy) → Nat → List AV → τ.T → Option (AV × τ.T)
 | 0, _, _, _, _ => none
 | n + 1, τ, f, args, p =>
  match ovr f with
  | some g => g (evalF tab fns ovr n) n τ args p
  | none =>
   match findN fns f with
   | some fi => evalBody tab (evalF tab fns ovr n) τ n fi args p
   | none => none
end Go.AI
namespace Go.AI
theorem Addr.add_at (b o n : Nat) : (⟨b, o, none⟩ : Addr).add n = ⟨b, o + n, none⟩ := by
 unfold Addr.add; split <;> simp_all
inductive FRel (w : World) (S : Nat → Nat → Prop) (g : Nat) : AV → Value → Prop
 | undef (v : Value) : FRel w S g .undef v
 | skip : FRel w S g .skip Go.undef
 | int (n : Int) : FRel w S g (.int n) (.int .i64 n)
 | bool (b : Bool) : FRel w S g (.bool b) (.bool b)
 | ik (k : IntKind) (n : Int) : FRel w S g (.ik k n) (.int k n)
 | str (s : ByteArray) : FRel w S g (.str s) (.string s)
 | rdr (i : Nat) : FRel w S g (.rdr i) (.pointer (some ⟨g, i, none⟩))
 | cbox (a : AV) (v : Value) (b : Nat) (hs : S b 0) (hc : w.cell? ⟨b, 0, none⟩ = some v) (ho : a.one = true) (h : FRel w S g a v) :
   FRel w S g (.cbox a) (.pointer (some ⟨b, 0, none⟩))
 | nil (a : Option Addr) : FRel w S g .nil (.slice a 0 0)
 | sl0 (e : El) (a : Option Addr) (c : Nat) : FRel w S g (.sl e []) (.slice a 0 c)
 | sl (e : El) (xs : List e.T) (b off c : Nat) (V : Nat → Nat → Value) (hc : xs.length ≤ c) (hn : 0 < xs.length)
   (hV : ∀ i j, i < xs.length → j < e.sz → FRel w S g ((e.enc (xs.getD i e.dflt)).getD j .undef) (V i j))
   (hm : ∀ i j, i < xs.length → j < e.sz → S b (off + i * e.sz + j) ∧ w.cell? ⟨b, off + i * e.sz + j, none⟩ = some (V i j)) :
   FRel w S g (.sl e xs) (.slice (some ⟨b, off, none⟩) xs.length c)
 | spt (e : El) (x : e.T) (o b off : Nat) (V : Nat → Value)
   (hV : ∀ j, j < e.sz → FRel w S g ((e.enc x).getD j .undef) (V j))
   (hm : ∀ j, j < e.sz → S b (off + j) ∧ w.cell? ⟨b, off + j, none⟩ = some (V j)) :
   FRel w S g (.spt e x o) (.pointer (some ⟨b, off + o, none⟩))
 | clos (f : Nat) (fst cap : List AV) (vf vc : List Value) (h1 : fst.length = vf.length) (h2 : cap.length = vc.length)
   (o1 : fst.all AV.one = true) (o2 : cap.all AV.one = true)
   (hf : ∀ i, i < fst.length → FRel w S g (fst.getD i .undef) (vf.getD i Go.undef))
   (hc : ∀ i, i < cap.length → FRel w S g (cap.getD i .undef) (vc.getD i Go.undef)) :
   FRel w S g (.clos f fst cap) (.func (.func f) vf.toArray vc.toArray)
 | agg (l : List AV) (vs : List Value) (hl : l.length = vs.length) (ho : l.all AV.one = true)
   (h : ∀ i, i < l.length → FRel w S g (l.getD i .undef) (vs.getD i Go.undef)) : FRel w S g (.agg l) (.agg vs.toArray)
 | tup (l : List AV) (vs : List Value) (hl : l.length = vs.length)
   (h : ∀ i, i < l.length → FRel w S g (l.getD i .undef) (vs.getD i Go.undef)) : FRel w S g (.tup l) (.tuple vs.toArray)
theorem FRel.stay {w w' : World} {S S' : Nat → Nat → Prop} {g : Nat} (hw : ∀ b o x, S b o → w.cell? ⟨b, o, none⟩ = some x → w'.cell? ⟨b, o, none⟩ = some x)
  (hS : ∀ b o, S b o → S' b o) {a : AV} {v : Value} (h : FRel w S g a v) : FRel w' S' g a v := by
 induction h with
 | undef v => exact .undef v
 | skip => exact .skip
 | int n => exact .int n
 | bool b => exact .bool b
 | ik k n => exact .ik k n
 | str s => exact .str s
 | rdr i => exact .rdr i
 | cbox a v b hs hc ho _ ih => exact .cbox a v b (hS _ _ hs) (hw _ _ _ hs hc) ho ih
 | nil a => exact .nil a
 | sl0 e a c => exact .sl0 e a c
 | sl e xs b off c V hc hn _ hm ih => exact .sl e xs b off c V hc hn ih fun i j hi hj => ⟨hS _ _ (hm i j hi hj).1, hw _ _ _ (hm i j hi hj).1 (hm i j hi hj).2⟩
 | spt e x o b off V _ hm ih => exact .spt e x o b off V ih fun j hj => ⟨hS _ _ (hm j hj).1, hw _ _ _ (hm j hj).1 (hm j hj).2⟩
 | clos f fst cap vf vc h1 h2 o1 o2 _ _ ih1 ih2 => exact .clos f fst cap vf vc h1 h2 o1 o2 ih1 ih2
 | agg l vs hl ho _ ih => exact .agg l vs hl ho ih
 | tup l vs hl _ ih => exact .tup l vs hl ih
theorem FRel.oneCell {w : World} {S : Nat → Nat → Prop} {g : Nat} {a : AV} {v : Value} (h : FRel w S g a v) (ho : a.one = true) : v.oneCell' = true := by
 cases h <;> first | rfl | simp [AV.one] at ho
theorem FRel.cellsOne {w : World} {S : Nat → Nat → Prop} {g : Nat} {a : AV} {v : Value} (h : FRel w S g a v) (ho : a.one = true) : v.cells = #[v] := by
 cases h <;> first | rfl | simp [AV.one] at ho
def CR (w : World) (S : Nat → Nat → Prop) (g : Nat) (l : List AV) (vs : List Value) : Prop :=
 l.length = vs.length ∧ ∀ i, i < l.length → FRel w S g (l.getD i .undef) (vs.getD i Go.undef)
def encL (e : El) (l : List e.T) : List AV := l.flatMap e.enc
theorem El.enc_length (e : El) (x : e.T) : (e.enc x).length = e.sz := by cases e <;> rfl
theorem El.enc_one (e : El) (x : e.T) : (e.enc x).all AV.one = true := by cases e <;> rfl
theorem El.sz_pos (e : El) : 0 < e.sz := by cases e <;> decide
theorem encL_length (e : El) (l : List e.T) : (encL e l).length = l.length * e.sz := by
 induction l with
 | nil => simp [encL]
 | cons x l ih =>
  have : encL e (x :: l) = e.enc x ++ encL e l := by simp [encL]
  rw [this, List.length_append, ih, El.enc_length, List.length_cons, Nat.add_mul]; omega
theorem encL_append (e : El) (l m : List e.T) : encL e (l ++ m) = encL e l ++ encL e m := by simp [encL]
theorem encL_getD (e : El) (l : List e.T) (i j : Nat) (hi : i < l.length) (hj : j < e.sz) : (encL e l).getD (i * e.sz + j) .undef = (e.enc (l.getD i e.dflt)).getD j .undef := by
 induction l generalizing i with
 | nil => simp at hi
 | cons x l ih =>
  have hx : encL e (x :: l) = e.enc x ++ encL e l := by simp [encL]
  have hlen := El.enc_length e x
  rw [hx]
  cases i with
  | zero =>
   simp only [Nat.zero_mul, Nat.zero_add, List.getD_cons_zero]
   rw [List.getD_eq_getElem?_getD, List.getD_eq_getElem?_getD, List.getElem?_append_left (by omega)]
  | succ i =>
   simp only [List.getD_cons_succ]
   rw [← ih i (by simpa using hi)]
   rw [List.getD_eq_getElem?_getD, List.getD_eq_getElem?_getD, List.getElem?_append_right (by rw [hlen, Nat.add_mul]; omega)]
   congr 2
   rw [hlen, Nat.add_mul]; omega
theorem CR.stay {w w' : World} {S S' : Nat → Nat → Prop} {g : Nat} (hw : ∀ b o x, S b o → w.cell? ⟨b, o, none⟩ = some x → w'.cell? ⟨b, o, none⟩ = some x)
  (hS : ∀ b o, S b o → S' b o) {l : List AV} {vs : List Value} (h : CR w S g l vs) : CR w' S' g l vs := ⟨h.1, fun i hi => (h.2 i hi).stay hw hS⟩
theorem getD_append_left {α : Type} (l m : List α) (d : α) (i : Nat) (h : i < l.length) : (l ++ m).getD i d = l.getD i d := by
 rw [List.getD_eq_getElem?_getD, List.getD_eq_getElem?_getD, List.getElem?_append_left h]
theorem getD_append_right {α : Type} (l m : List α) (d : α) (i : Nat) (h : l.length ≤ i) : (l ++ m).getD i d = m.getD (i - l.length) d := by
 rw [List.getD_eq_getElem?_getD, List.getD_eq_getElem?_getD, List.getElem?_append_right h]
theorem getD_take {α : Type} (l : List α) (d : α) (n i : Nat) (h : i < n) : (l.take n).getD i d = l.getD i d := by
 rw [List.getD_eq_getElem?_getD, List.getD_eq_getElem?_getD, List.getElem?_take_of_lt h]
theorem getD_drop {α : Type} (l : List α) (d : α) (n i : Nat) : (l.drop n).getD i d = l.getD (n + i) d := by
 rw [List.getD_eq_getElem?_getD, List.getD_eq_getElem?_getD, List.getElem?_drop]
theorem getD_of_get? {α : Type} {l : List α} {d x : α} {i : Nat} (h : l[i]? = some x) : l.getD i d = x := by rw [List.getD_eq_getElem?_getD, h]; rfl
theorem get?_of_lt {α : Type} {l : List α} (d : α) {i : Nat} (h : i < l.length) : l[i]? = some (l.getD i d) := by
 rw [List.getD_eq_getElem?_getD, List.getElem?_eq_getElem h]; rfl
theorem CR.append {w : World} {S : Nat → Nat → Prop} {g : Nat} {l m : List AV} {vs us : List Value} (h : CR w S g l vs) (k : CR w S g m us) : CR w S g (l ++ m) (vs ++ us) := by
 refine ⟨by simp [h.1, k.1], fun i hi => ?_⟩
 by_cases hl : i < l.length
 ·rw [getD_append_left _ _ _ _ hl, getD_append_left _ _ _ _ (by rw [← h.1]; exact hl)]; exact h.2 i hl
 ·rw [getD_append_right _ _ _ _ (by omega), getD_append_right _ _ _ _ (by rw [← h.1]; omega), ← h.1]
  exact k.2 _ (by simp at hi; omega)
theorem CR.nil (w : World) (S : Nat → Nat → Prop) (g : Nat) : CR w S g [] [] := ⟨rfl, fun i hi => by simp at hi⟩
theorem CR.take {w : World} {S : Nat → Nat → Prop} {g : Nat} {l : List AV} {vs : List Value} (h : CR w S g l vs) (n : Nat) : CR w S g (l.take n) (vs.take n) := by
 refine ⟨by simp [h.1], fun i hi => ?_⟩
 have : i < n ∧ i < l.length := by simp at hi; omega
 rw [getD_take _ _ _ _ this.1, getD_take _ _ _ _ this.1]; exact h.2 i this.2
theorem CR.drop {w : World} {S : Nat → Nat → Prop} {g : Nat} {l : List AV} {vs : List Value} (h : CR w S g l vs) (n : Nat) : CR w S g (l.drop n) (vs.drop n) := by
 refine ⟨by simp [h.1], fun i hi => ?_⟩
 rw [getD_drop, getD_drop]; exact h.2 _ (by simp at hi; omega)
theorem encL_take (e : El) (l : List e.T) (n : Nat) : encL e (l.take n) = (encL e l).take (n * e.sz) := by
 induction l generalizing n with
 | nil => simp [encL]
 | cons x l ih =>
  cases n with
  | zero => simp [encL]
  | succ n =>
   have hx : ∀ l, encL e (x :: l) = e.enc x ++ encL e l := fun l => by simp [encL]
   rw [List.take_succ_cons, hx, hx, ih, Nat.add_mul, Nat.one_mul, List.take_append, List.take_of_length_le (l := e.enc x) (by rw [El.enc_length]; omega), El.enc_length]
   congr 2; omega
theorem encL_drop (e : El) (l : List e.T) (n : Nat) : encL e (l.drop n) = (encL e l).drop (n * e.sz) := by
 induction l generalizing n with
 | nil => simp [encL]
 | cons x l ih =>
  cases n with
  | zero => simp
  | succ n =>
   have hx : encL e (x :: l) = e.enc x ++ encL e l := by simp [encL]
   rw [List.drop_succ_cons, hx, ih, Nat.add_mul, Nat.one_mul, List.drop_append, List.drop_of_length_le (l := e.enc x) (by rw [El.enc_length]; omega), El.enc_length, List.nil_append]
   congr 1; omega
structure Cx where
 w : World
 S : Nat → Nat → Prop      -- the cells that stay
 g : Nat                   -- the state's struct
 κ : Nat → Option Nat      -- the owned lists' blocks
 β : Nat → Nat             -- the variables' blocks
def CellsAt (w : World) (b off : Nat) (vs : List Value) : Prop := ∀ j x, vs[j]? = some x → w.cell? ⟨b, off + j, none⟩ = some x
def Blk (w : World) (b : Nat) (vs : List Value) (T : TypeId) : Prop := w.heap[b]? = some (.cells vs.toArray T (0, 0))
theorem Blk.lt {w : World} {b : Nat} {vs : List Value} {T : TypeId} (h : Blk w b vs T) : b < w.heap.size := (Array.getElem?_eq_some_iff.1 h).1
theorem Blk.cells {w : World} {b : Nat} {vs : List Value} {T : TypeId} (h : Blk w b vs T) : CellsAt w b 0 vs := by
 intro j x hx
 rw [cell_of_row w b (0 + j) vs.toArray T (0, 0) h, Nat.zero_add]
 simpa using hx
theorem CellsAt.drop {w : World} {b off : Nat} {vs : List Value} (h : CellsAt w b off vs) (n : Nat) : CellsAt w b (off + n) (vs.drop n) := by
 intro j x hx
 rw [List.getElem?_drop] at hx
 rw [Nat.add_assoc]; exact h _ x hx
theorem CellsAt.take {w : World} {b off : Nat} {vs : List Value} (h : CellsAt w b off vs) (n : Nat) : CellsAt w b off (vs.take n) := by
 intro j x hx
 rw [List.getElem?_take] at hx
 split at hx
 ·exact h j x hx
 ·cases hx
section
variable (tid : El → Nat)
def OwnR (c : Cx) (k : Nat) (e : El) (l : List e.T) (v : Value) : Prop :=
 (l = [] ∧ ∃ a, v = .slice a 0 0) ∨
 ∃ b vs, c.κ k = some b ∧ v.ownBlock = some b ∧ c.w.ownsRow 0 (tid e) e.sz v l.length vs ∧ CR c.w c.S c.g (encL e l) vs
def ViewR (c : Cx) (k : Nat) (e : El) (l : List e.T) (v : Value) : Prop :=
 (l = [] ∧ ∃ a m, v = .slice a 0 m) ∨
 ∃ b off m vs, c.κ k = some b ∧ v = .slice (some ⟨b, off, none⟩) l.length m ∧ l.length ≤ m ∧ CellsAt c.w b off vs ∧ CR c.w c.S c.g (encL e l) vs
def PtR (c : Cx) (k : Nat) (e : El) (x : e.T) (o : Nat) (v : Value) : Prop :=
 ∃ b off vs, c.κ k = some b ∧ v = .pointer (some ⟨b, off + o, none⟩) ∧ CellsAt c.w b off vs ∧ CR c.w c.S c.g (e.enc x) vs
def OptR (c : Cx) (k : Nat) (e : El) (x : e.T) (i : Int) (o : Nat) (v : Value) : Prop :=
 ∃ b us T, c.κ k = some b ∧ v = .pointer (some ⟨b, i.toNat * e.sz + o, none⟩) ∧ Blk c.w b us T ∧ i.toNat * e.sz + e.sz ≤ us.length ∧ CR c.w c.S c.g (e.enc x) ((us.drop (i.toNat * e.sz)).take e.sz)
def A1 (c : Cx) (σ : St) : AV → Value → Prop
 | .lbox k i, v => v = .pointer (some ⟨c.β k, i, none⟩) ∧ getB σ.b k ≠ []
 | .own k ver e l, v => (∃ a n m, v = .slice a n m) ∧ ver ≤ σ.c ∧ (ver = getV σ.v k → OwnR tid c k e l v)
 | .vw k ver e l, v => ver ≤ σ.c ∧ (ver = getV σ.v k → ViewR c k e l v)
 | .vpt k ver e x o, v => ∃ ad, v = .pointer (some ad) ∧ ver ≤ σ.c ∧ (ver = getV σ.v k → PtR c k e x o v)
 | .opt k ver e x i o, v => ∃ ad, v = .pointer (some ad) ∧ ver ≤ σ.c ∧ (ver = getV σ.v k → OptR c k e x i o v)
 | a, v => FRel c.w c.S c.g a v
def AR (c : Cx) (σ : St) : AV → Value → Prop
 | .agg l, v => ∃ vs : List Value, v = .agg vs.toArray ∧ l.length = vs.length ∧ ∀ i, i < l.length → A1 tid c σ (l.getD i .undef) (vs.getD i Go.undef)
 | a, v => A1 tid c σ a v
theorem A1.of_F {c : Cx} {σ : St} {a : AV} {v : Value} (h : FRel c.w c.S c.g a v) : A1 tid c σ a v := by
 cases h <;> first
  | exact .undef _ | exact .skip | exact .int _ | exact .bool _ | exact .ik _ _ | exact .str _ | exact .rdr _ | exact .nil _ | exact .sl0 _ _ _
  | exact .cbox _ _ _ ‹_› ‹_› ‹_› ‹_› | exact .sl _ _ _ _ _ _ ‹_› ‹_› ‹_› ‹_› | exact .spt _ _ _ _ _ _ ‹_› ‹_›
  | exact .clos _ _ _ _ _ ‹_› ‹_› ‹_› ‹_› ‹_› ‹_› | exact .agg _ _ ‹_› ‹_› ‹_› | exact .tup _ _ ‹_› ‹_›
theorem A1.to_F {c : Cx} {σ : St} {a : AV} {v : Value} (h : A1 tid c σ a v) (ho : a.fz1 = true) : FRel c.w c.S c.g a v := by
 cases a <;> first | exact h | simp [AV.fz1, AV.one] at ho
theorem AV.fz1_of_one {a : AV} (h : a.one = true) : a.fz1 = true := by cases a <;> first | rfl | simp [AV.one] at h
theorem AV.cell_of_one {a : AV} (h : a.one = true) : a.cell = true := by cases a <;> first | rfl | simp [AV.one] at h
theorem AR.of_A1 {c : Cx} {σ : St} {a : AV} {v : Value} (h : A1 tid c σ a v) (hn : ∀ l, a ≠ .agg l) : AR tid c σ a v := by
 cases a <;> first | exact h | exact absurd rfl (hn _)
theorem AR.to_A1 {c : Cx} {σ : St} {a : AV} {v : Value} (h : AR tid c σ a v) (hn : ∀ l, a ≠ .agg l) : A1 tid c σ a v := by
 cases a <;> first | exact h | exact absurd rfl (hn _)
theorem AR.of_F {c : Cx} {σ : St} {a : AV} {v : Value} (h : FRel c.w c.S c.g a v) : AR tid c σ a v := by
 cases h with
 | agg l vs hl ho h => exact ⟨vs, rfl, hl, fun i hi => A1.of_F tid (h i hi)⟩
 | _ => exact AR.of_A1 tid (A1.of_F tid (by constructor <;> assumption)) (by intro l h; cases h)
theorem one_of_all {l : List AV} {p : AV → Bool} (h : l.all p = true) (i : Nat) (hi : i < l.length) : p (l.getD i .undef) = true := by
 rw [List.all_eq_true] at h
 rw [List.getD_eq_getElem?_getD, List.getElem?_eq_getElem hi]
 exact h _ (List.getElem_mem hi)
theorem AR.to_F {c : Cx} {σ : St} {a : AV} {v : Value} (h : AR tid c σ a v) (ho : a.fz = true) : FRel c.w c.S c.g a v := by
 cases a with
 | agg l =>
  obtain ⟨vs, rfl, hl, h⟩ := h
  exact .agg l vs hl ho fun i hi => (h i hi).to_F tid (AV.fz1_of_one (one_of_all ho i hi))
 | _ => exact (h.to_A1 tid (by intro l h; cases h)).to_F tid ho
theorem A1.oneCell {c : Cx} {σ : St} {x : AV} {v : Value} (h : A1 tid c σ x v) (hx : x.cell = true) : v.oneCell' = true ∧ v.cells = #[v] := by
 cases x with
 | own k ver e l => obtain ⟨⟨a, n, m, rfl⟩, _⟩ := h; exact ⟨rfl, rfl⟩
 | _ => first
  | (simp [AV.cell, AV.one] at hx; done)
  | (have hf := A1.to_F tid h (AV.fz1_of_one hx); exact ⟨hf.oneCell hx, hf.cellsOne hx⟩)
theorem own_slice {c : Cx} {k : Nat} {e : El} {l : List e.T} {v : Value} (h : OwnR tid c k e l v) : ∃ a n m, v = .slice a n m := by
 rcases h with ⟨_, a, rfl⟩ | ⟨b, vs, _, hb, _, _⟩
 ·exact ⟨_, _, _, rfl⟩
 ·cases v <;> first | exact ⟨_, _, _, rfl⟩ | simp [Value.ownBlock] at hb
structure Keep (w0 : World) (F : Nat → Prop) (w : World) : Prop where
 os : w.os = w0.os
 tape : w.tape = w0.tape
 output : w.output = w0.output
 size : w0.heap.size ≤ w.heap.size
 block : ∀ b, b < w0.heap.size → ¬ F b → w.heap[b]? = w0.heap[b]?
theorem Keep.refl (w : World) (F : Nat → Prop) : Keep w F w := ⟨rfl, rfl, rfl, Nat.le_refl _, fun _ _ _ => rfl⟩
structure Base where
 w0 : World
 F0 : Nat → Prop
 S0 : Nat → Nat → Prop
 g0 : Nat
def Base.mine (B : Base) (b : Nat) : Prop := B.F0 b ∨ B.w0.heap.size ≤ b
def RowR (c : Cx) (σ : St) (b : Nat) (l : List AV) : Prop :=
 ∃ vs T, Blk c.w b vs T ∧ l.length = vs.length ∧ ∀ i, i < l.length → A1 tid c σ (l.getD i .undef) (vs.getD i Go.undef)
structure Rel (B : Base) (N : Nat) (c : Cx) (σ : St) (a : Act) (w : World) : Prop where
 hw : c.w = w
 ds : a.defers = [] ∧ c.g = B.g0
 n : a.tmps.size = N
 t : ∀ i, AR tid c σ (getT σ.t i) (a.tmps.getD i Go.undef)
 b : ∀ k, getB σ.b k ≠ [] → RowR tid c σ (c.β k) (getB σ.b k)
 s : σ.s ≠ [] → RowR tid c σ c.g σ.s
 ver : ∀ k, getV σ.v k ≤ σ.c
 fz : ∀ k b, k ∈ σ.fr → c.κ k = some b → ∀ o, c.S b o
 own : ∀ k b, k ∉ σ.fr → c.κ k = some b → B.mine b ∧ b < w.heap.size ∧ (∀ o, ¬ c.S b o) ∧ (σ.s ≠ [] → b ≠ c.g) ∧ ∀ j, getB σ.b j ≠ [] → b ≠ c.β j
 inj : ∀ k k' b, k ∉ σ.fr → k' ∉ σ.fr → c.κ k = some b → c.κ k' = some b → k = k'
 box : ∀ k, getB σ.b k ≠ [] → B.w0.heap.size ≤ c.β k ∧ (∀ o, ¬ c.S (c.β k) o) ∧ (σ.s ≠ [] → c.β k ≠ c.g) ∧ ∀ j, getB σ.b j ≠ [] → c.β j = c.β k → j = k
 gg : σ.s ≠ [] → B.mine c.g ∧ ∀ o, ¬ c.S c.g o
 old : ∀ b o, c.S b o → B.S0 b o ∨ B.mine b
 grow : ∀ b o, B.S0 b o → c.S b o
 stsz : ∀ b o, c.S b o → b < w.heap.size
 keep : Keep B.w0 B.F0 w
end
end Go.AI
namespace Go.AI
def descAgg : TypeDesc → Bool
 | .struct _ | .array _ _ => true
 | _ => false
structure TyOK (P : Program) (tid : El → Nat) (T : Nat) (ty : Ty) : Prop where
 info : ∃ i z, P.info? T = some i ∧ i.zero = some z ∧ i.size = ty.zero.length ∧ (∀ w S g, CR w S g ty.zero z.cells.toList) ∧ True
 agg : ∃ d, P.underlying T = some d ∧ descAgg d = ty.agg
 pos : 0 < ty.zero.length
 one : ty.agg = false → ty.zero.length = 1
 pl : ty.offs ≠ [] → ∃ fs, P.underlying T = some (.struct fs) ∧ fs.toList.mapM (fun f => (P.info? f.type).map fun i => (f.offset, i.size)) = some (ty.offs.zip ty.szs) ∧ fs.toList.map (·.type) = ty.ftys ∧ ty.offs.length = ty.szs.length ∧ ∀ m ∈ ty.szs, 0 < m
 el : ∀ e, ty.el = some e → P.underlying T = some (.slice (tid e)) ∧ ∃ i z, P.info? (tid e) = some i ∧ i.zero = some z ∧ i.size = e.sz ∧ z.cells.size = e.sz ∧ 0 < i.bytes ∧ i.bytes ≤ 32768
section
variable (tid : El → Nat)
structure Step (c : Cx) (σ : St) (c' : Cx) (σ' : St) : Prop where
 g : c'.g = c.g
 cells : ∀ b o x, c.S b o → c.w.cell? ⟨b, o, none⟩ = some x → c'.w.cell? ⟨b, o, none⟩ = some x
 S : ∀ b o, c.S b o → c'.S b o
 cc : σ.c ≤ σ'.c
 box : ∀ k, getB σ.b k ≠ [] → getB σ'.b k ≠ [] ∧ c'.β k = c.β k
 key : ∀ k, (getV σ'.v k = getV σ.v k ∧ c'.κ k = c.κ k ∧ ∀ b, c.κ k = some b → c'.w.heap[b]? = c.w.heap[b]?) ∨ σ.c < getV σ'.v k
variable {tid} {c c' : Cx} {σ σ' : St}
theorem FRel.step (h : Step c σ c' σ') {a : AV} {v : Value} (k : FRel c.w c.S c.g a v) : FRel c'.w c'.S c'.g a v := by
 rw [h.g]; exact k.stay h.cells h.S
theorem CR.step (h : Step c σ c' σ') {l : List AV} {vs : List Value} (k : CR c.w c.S c.g l vs) : CR c'.w c'.S c'.g l vs := by
 rw [h.g]; exact k.stay h.cells h.S
theorem CellsAt.same {w w' : World} {b off : Nat} {vs : List Value} (h : CellsAt w b off vs) (hb : w'.heap[b]? = w.heap[b]?) : CellsAt w' b off vs :=
 fun j x hx => (World.cell?_of_block (w := w) (a := ⟨b, off + j, none⟩) hb).trans (h j x hx)
theorem ownsRow_same {w w' : World} {e : TypeId} {size n : Nat} {v : Value} {xs : List Value} (h : w.ownsRow 0 e size v n xs) (hb : ∀ b, v.ownBlock = some b → w'.heap[b]? = w.heap[b]?) : w'.ownsRow 0 e size v n xs := by
 refine ⟨h.1, ?_⟩
 rcases h.2 with h2 | ⟨g, cap, cur, rfl, hg, hh, r⟩
 ·exact .inl h2
 ·exact .inr ⟨g, cap, cur, rfl, hg, by rw [hb g rfl]; exact hh, r⟩
theorem OwnR.step (h : Step c σ c' σ') {k : Nat} {e : El} {l : List e.T} {v : Value} (hk : c'.κ k = c.κ k ∧ ∀ b, c.κ k = some b → c'.w.heap[b]? = c.w.heap[b]?) (r : OwnR tid c k e l v) : OwnR tid c' k e l v := by
 rcases r with r | ⟨b, vs, h1, h2, h3, h4⟩
 ·exact .inl r
 ·exact .inr ⟨b, vs, by rw [hk.1]; exact h1, h2, ownsRow_same h3 (fun b' hb' => by rw [h2] at hb'; cases hb'; exact hk.2 b h1), h4.step h⟩
theorem ViewR.step (h : Step c σ c' σ') {k : Nat} {e : El} {l : List e.T} {v : Value} (hk : c'.κ k = c.κ k ∧ ∀ b, c.κ k = some b → c'.w.heap[b]? = c.w.heap[b]?) (r : ViewR c k e l v) : ViewR c' k e l v := by
 rcases r with r | ⟨b, off, m, vs, h1, h2, h3, h4, h5⟩
 ·exact .inl r
 ·exact .inr ⟨b, off, m, vs, by rw [hk.1]; exact h1, h2, h3, h4.same (hk.2 b h1), h5.step h⟩
theorem PtR.step (h : Step c σ c' σ') {k : Nat} {e : El} {x : e.T} {o : Nat} {v : Value} (hk : c'.κ k = c.κ k ∧ ∀ b, c.κ k = some b → c'.w.heap[b]? = c.w.heap[b]?) (r : PtR c k e x o v) : PtR c' k e x o v := by
 obtain ⟨b, off, vs, h1, h2, h3, h4⟩ := r
 exact ⟨b, off, vs, by rw [hk.1]; exact h1, h2, h3.same (hk.2 b h1), h4.step h⟩
theorem OptR.step (h : Step c σ c' σ') {k : Nat} {e : El} {x : e.T} {i : Int} {o : Nat} {v : Value} (hk : c'.κ k = c.κ k ∧ ∀ b, c.κ k = some b → c'.w.heap[b]? = c.w.heap[b]?) (r : OptR c k e x i o v) : OptR c' k e x i o v := by
 obtain ⟨b, us, T, h1, h2, h3, h4, h5⟩ := r
 exact ⟨b, us, T, by rw [hk.1]; exact h1, h2, by unfold Blk; rw [hk.2 b h1]; exact h3, h4, h5.step h⟩
theorem ver_step (h : Step c σ c' σ') {k ver : Nat} {A B : Prop} (hAB : (c'.κ k = c.κ k ∧ ∀ b, c.κ k = some b → c'.w.heap[b]? = c.w.heap[b]?) → A → B) (r : ver ≤ σ.c ∧ (ver = getV σ.v k → A)) :
  ver ≤ σ'.c ∧ (ver = getV σ'.v k → B) := by
 refine ⟨Nat.le_trans r.1 h.cc, fun e => ?_⟩
 rcases h.key k with ⟨h1, h2⟩ | h1
 ·exact hAB h2 (r.2 (by rw [e, h1]))
 ·omega
theorem A1.step (h : Step c σ c' σ') {a : AV} {v : Value} (r : A1 tid c σ a v) : A1 tid c' σ' a v := by
 cases a with
 | lbox k i => exact ⟨by rw [(h.box k r.2).2]; exact r.1, (h.box k r.2).1⟩
 | own k ver e l => exact ⟨r.1, ver_step h (fun hk => OwnR.step h hk) r.2⟩
 | vw k ver e l => exact ver_step h (fun hk => ViewR.step h hk) r
 | vpt k ver e x o => obtain ⟨ad, r1, r2⟩ := r; exact ⟨ad, r1, ver_step h (fun hk => PtR.step h hk) r2⟩
 | opt k ver e x i o => obtain ⟨ad, r1, r2⟩ := r; exact ⟨ad, r1, ver_step h (fun hk => OptR.step h hk) r2⟩
 | _ => exact FRel.step h r
theorem AR.step (h : Step c σ c' σ') {a : AV} {v : Value} (r : AR tid c σ a v) : AR tid c' σ' a v := by
 cases a with
 | agg l => obtain ⟨vs, h1, h2, h3⟩ := r; exact ⟨vs, h1, h2, fun i hi => (h3 i hi).step h⟩
 | _ => exact AR.of_A1 tid (A1.step h (AR.to_A1 tid r (by intro l h; cases h))) (by intro l h; cases h)
theorem RowR.step (h : Step c σ c' σ') {b : Nat} {l : List AV} (hb : c'.w.heap[b]? = c.w.heap[b]?) (r : RowR tid c σ b l) : RowR tid c' σ' b l := by
 obtain ⟨vs, T, h1, h2, h3⟩ := r
 exact ⟨vs, T, by unfold Blk; rw [hb]; exact h1, h2, fun i hi => (h3 i hi).step h⟩
theorem Step.same (hb : σ'.b = σ.b) (hv : σ'.v = σ.v) (hc : σ'.c = σ.c) : Step c σ c σ' :=
 ⟨rfl, fun _ _ _ _ h => h, fun _ _ h => h, by rw [hc]; exact Nat.le_refl _, fun k h => ⟨by rw [hb]; exact h, rfl⟩, fun k => .inl ⟨by rw [hv], rfl, fun _ _ => rfl⟩⟩
theorem put_b (σ : St) (d : Option Nat) (a : AV) : (σ.put d a).b = σ.b := by cases d <;> rfl
theorem put_s (σ : St) (d : Option Nat) (a : AV) : (σ.put d a).s = σ.s := by cases d <;> rfl
theorem put_v (σ : St) (d : Option Nat) (a : AV) : (σ.put d a).v = σ.v := by cases d <;> rfl
theorem put_c (σ : St) (d : Option Nat) (a : AV) : (σ.put d a).c = σ.c := by cases d <;> rfl
theorem put_fr (σ : St) (d : Option Nat) (a : AV) : (σ.put d a).fr = σ.fr := by cases d <;> rfl
theorem beq_false {i k : Nat} (h : ¬ i = k) : Nat.beq i k = false := by
 cases hb : Nat.beq i k
 ·rfl
 ·exact absurd (Nat.eq_of_beq_eq_true hb) h
theorem getT_cons (i k : Nat) (a : AV) (t : List (Nat × AV)) : getT ((i, a) :: t) k = if i = k then a else getT t k := by
 show (match Nat.beq i k with | true => a | false => getT t k) = _
 by_cases h : i = k
 ·subst h; simp
 ·have : Nat.beq i k = false := beq_false h
  rw [this, if_neg h]
theorem getB_cons (i k : Nat) (a : List AV) (t : List (Nat × List AV)) : getB ((i, a) :: t) k = if i = k then a else getB t k := by
 show (match Nat.beq i k with | true => a | false => getB t k) = _
 by_cases h : i = k
 ·subst h; simp
 ·have : Nat.beq i k = false := beq_false h
  rw [this, if_neg h]
theorem getV_cons (i k : Nat) (a : Nat) (t : List (Nat × Nat)) : getV ((i, a) :: t) k = if i = k then a else getV t k := by
 show (match Nat.beq i k with | true => a | false => getV t k) = _
 by_cases h : i = k
 ·subst h; simp
 ·have : Nat.beq i k = false := beq_false h
  rw [this, if_neg h]
theorem tmps_put (a : Act) (d : Option Nat) (v : Value) (i : Nat) (hd : ∀ x, d = some x → x < a.tmps.size) : (a.put d v).tmps.getD i Go.undef = if d = some i then v else a.tmps.getD i Go.undef := by
 cases d with
 | none => simp [Act.put]
 | some d =>
  have := hd d rfl
  simp only [Act.put, Option.some.injEq]
  by_cases h : d = i
  ·subst h; simp [Array.getD, this]
  ·simp only [Array.getD, Array.size_setIfInBounds, h, if_false]
   split
   ·exact Array.getElem_setIfInBounds_ne _ h
   ·rfl
theorem getT_put (σ : St) (d : Option Nat) (a : AV) (i : Nat) : getT (σ.put d a).t i = if d = some i then a else getT σ.t i := by
 cases d with
 | none => simp [St.put]
 | some d => simp [St.put, getT_cons]
variable {B : Base} {N : Nat} {a : Act} {w : World}
theorem Rel.put (h : Rel tid B N c σ a w) {d : Option Nat} (hd : ∀ x, d = some x → x < N) {x : AV} {v : Value} (hx : AR tid c σ x v) : Rel tid B N c (σ.put d x) (a.put d v) w := by
 have st : Step c σ c (σ.put d x) := .same (put_b ..) (put_v ..) (put_c ..)
 refine { hw := h.hw, ds := ?_, n := ?_, t := ?_, b := ?_, s := ?_, ver := ?_, fz := ?_, own := ?_, inj := ?_, box := ?_, gg := ?_, old := h.old, grow := h.grow, stsz := h.stsz, keep := h.keep }
 ·cases d <;> simpa [Act.put] using h.ds
 ·cases d <;> simpa [Act.put] using h.n
 ·intro i
  rw [getT_put, tmps_put a d v i (by rw [h.n]; exact hd)]
  split
  ·exact hx.step st
  ·exact (h.t i).step st
 ·rw [put_b]; exact fun k hk => (h.b k hk).step st rfl
 ·rw [put_s]; exact fun hk => (h.s hk).step st rfl
 ·rw [put_v, put_c]; exact h.ver
 ·rw [put_fr]; exact h.fz
 ·rw [put_fr, put_b, put_s]; exact h.own
 ·rw [put_fr]; exact h.inj
 ·rw [put_b, put_s]; exact h.box
 ·rw [put_s]; exact h.gg
theorem A1.noAgg {x : AV} {v : Value} (h : A1 tid c σ x v) {l : List AV} (hx : x = .agg l) : FRel c.w c.S c.g (.agg l) v := by subst hx; exact h
theorem AR.of_A1' {x : AV} {v : Value} (h : A1 tid c σ x v) : AR tid c σ x v := by
 cases x with
 | agg l => exact AR.of_F tid h
 | _ => exact h
theorem ofConst_one (v : Value) (hn : ∀ cs, v ≠ .agg cs) : FRel c.w c.S c.g (ofConst v) v := by
 unfold ofConst
 split <;> first | exact .int _ | exact .bool _ | exact .ik _ _ | exact .str _ | exact .nil _ | exact absurd rfl (hn _) | exact .undef _
theorem AR_const (v : Value) : AR tid c σ (ofConst v) v := by
 by_cases hn : ∀ cs, v ≠ .agg cs
 ·exact AR.of_F tid (ofConst_one v hn)
 ·obtain ⟨cs, rfl⟩ : ∃ cs, v = .agg cs := by
   cases v with
   | agg cs => exact ⟨cs, rfl⟩
   | _ => exact absurd (fun _ h => by cases h) hn
  refine ⟨cs.toList, by simp, by simp, fun i hi => A1.of_F tid ?_⟩
  simp only [List.length_map] at hi
  rw [List.getD_eq_getElem?_getD, List.getElem?_map, List.getD_eq_getElem?_getD, List.getElem?_eq_getElem hi]
  simp only [Option.map_some, Option.getD_some]
  split <;> rename_i hq <;> first | (rw [hq]; exact .int _) | (rw [hq]; exact .bool _) | (rw [hq]; exact .nil _) | exact .undef _
theorem Rel.getO (h : Rel tid B N c σ a w) (x : Operand) : AR tid c σ (getO σ.t x) (a.eval x) := by
 cases x with
 | tmp i => exact h.t i
 | const v => exact AR_const v
 | func f => exact AR.of_F tid (.clos f [] [] [] [] rfl rfl rfl rfl (fun i hi => by simp at hi) (fun i hi => by simp at hi))
 | global g => exact AR.of_F tid (.undef _)
theorem AR.cells {x : AV} {v : Value} (h : AR tid c σ x v) (hc : x.cells.all AV.cell = true) :
  x.cells.length = v.cells.toList.length ∧ (∀ i, i < x.cells.length → A1 tid c σ (x.cells.getD i .undef) (v.cells.toList.getD i Go.undef)) ∧ ∀ u ∈ v.cells.toList, u.oneCell' = true := by
 cases x with
 | agg l =>
  obtain ⟨vs, rfl, hl, h⟩ := h
  have hc' : l.all AV.cell = true := hc
  refine ⟨by simpa [AV.cells, Value.cells] using hl, fun i hi => by simpa [AV.cells, Value.cells] using h i hi, fun u hu => ?_⟩
  simp only [Value.cells, List.mem_iff_getElem?] at hu
  obtain ⟨i, hi⟩ := hu
  have hi' : i < vs.length := (List.getElem?_eq_some_iff.1 hi).1
  have hu := h i (by omega)
  rw [getD_of_get? hi] at hu
  exact (hu.oneCell tid (one_of_all hc' i (by omega))).1
 | _ =>
  have hx := (h.to_A1 tid (by intro l h; cases h)).oneCell tid (by simpa [AV.cells] using hc)
  refine ⟨by simp [AV.cells, hx.2], fun i hi => ?_, fun u hu => ?_⟩
  ·simp [AV.cells] at hi
   subst hi
   simpa [AV.cells, hx.2] using h.to_A1 tid (by intro l h; cases h)
  ·rw [hx.2] at hu; simp at hu; subst hu; exact hx.1
section
variable {P : Program} {T : Nat} {ty : Ty} (hT : TyOK P tid T ty)
include hT
theorem run_isAgg : (isAgg T).run P w = .ok ty.agg w := by
 obtain ⟨d, h1, h2⟩ := hT.agg
 rw [← h2]
 simp only [isAgg, Sem.run_bind, run_underlying h1, Result.andThen_ok]
 cases d <;> rfl
theorem run_sizeOf : (sizeOf T).run P w = .ok ty.zero.length w := by
 obtain ⟨i, z, h1, h2, h3, _⟩ := hT.info
 simp [sizeOf, typeInfo, h1, h3]
theorem readAt_ok {l : List AV} {vs : List Value} {b off o : Nat} {x : AV} (hw : c.w = w) (hl : l.length = vs.length) (hc : CellsAt w b off vs)
  (hA : ∀ i, i < l.length → A1 tid c σ (l.getD i .undef) (vs.getD i Go.undef)) (hr : readAt ty l o = some x) :
  ∃ v, (loadVar T ⟨b, off + o, none⟩).run P w = .ok v w ∧ AR tid c σ x v := by
 unfold readAt at hr
 split at hr
 ·rename_i hb
  have hb := Nat.le_of_ble_eq_true hb
  cases hg : ty.agg
  ·rw [hg] at hr
   simp only [Bool.false_eq_true, if_false, Option.some.injEq] at hr
   subst hr
   have h1 := hT.one hg
   have ho : o < l.length := by omega
   have hcell := hc o _ (get?_of_lt Go.undef (by omega))
   refine ⟨vs.getD o Go.undef, ?_, AR.of_A1' (hA o ho)⟩
   simp only [loadVar, Sem.run_bind, run_isAgg hT, Result.andThen_ok, hg, Bool.false_eq_true, if_false, run_load, hcell]
  ·rw [hg] at hr
   simp only [if_true, Option.some.injEq] at hr
   subst hr
   have hcs := run_loadCells_list (P := P) (w := w) ⟨b, off + o, none⟩ ((vs.drop o).take ty.zero.length) (fun j v hv => by
    rw [Addr.add_at, Nat.add_assoc]
    refine hc (o + j) v ?_
    rw [List.getElem?_take] at hv
    split at hv
    ·rwa [List.getElem?_drop] at hv
    ·cases hv)
   have hlen : ((vs.drop o).take ty.zero.length).length = ty.zero.length := by simp; omega
   rw [hlen] at hcs
   refine ⟨.agg ((vs.drop o).take ty.zero.length).toArray, ?_, ⟨_, rfl, by simp [hl], fun i hi => ?_⟩⟩
   ·simp only [loadVar, Sem.run_bind, run_isAgg hT, Result.andThen_ok, hg, if_true, run_sizeOf hT, hcs, Sem.run_pure]
   ·have hi : i < ty.zero.length ∧ o + i < l.length := by simp at hi; omega
    rw [getD_take _ _ _ _ hi.1, getD_take _ _ _ _ hi.1, getD_drop, getD_drop]
    exact hA _ hi.2
 ·cases hr
end
theorem cur_eq {k ver : Nat} (h : σ.cur k ver = true) : ver = getV σ.v k := Nat.eq_of_beq_eq_true h
theorem load_ok {P : Program} {T : Nat} {ty : Ty} (hT : TyOK P tid T ty) (h : Rel tid B N c σ a w) {p x : AV} {pv : Value} (hp : AR tid c σ p pv) (hl : loadAV σ ty p = some x) :
  ∃ ad v, pv = .pointer (some ad) ∧ (loadVar T ad).run P w = .ok v w ∧ AR tid c σ x v := by
 have hw := h.hw
 cases p with
 | rdr i =>
  cases hp.to_A1 tid (by intro l h; cases h) with
  | rdr =>
   have hs : σ.s ≠ [] := by
    intro e
    simp only [loadAV, readAt, e] at hl
    have := hT.pos
    split at hl
    ·rename_i hb; have hb := Nat.le_of_ble_eq_true hb; simp only [List.length_nil] at hb; omega
    ·cases hl
   obtain ⟨vs, T', h1, h2, h3⟩ := h.s hs
   rw [hw] at h1
   obtain ⟨v, h4, h5⟩ := readAt_ok hT hw h2 h1.cells h3 hl
   exact ⟨_, v, rfl, by simpa using h4, h5⟩
 | lbox k i =>
  obtain ⟨rfl, hk⟩ := hp.to_A1 tid (by intro l h; cases h)
  obtain ⟨vs, T', h1, h2, h3⟩ := h.b k hk
  rw [hw] at h1
  obtain ⟨v, h4, h5⟩ := readAt_ok hT hw h2 h1.cells h3 hl
  exact ⟨_, v, rfl, by simpa using h4, h5⟩
 | cbox y =>
  have hp := hp.to_A1 tid (by intro l h; cases h)
  cases hp with
  | cbox _ v b hs hc ho hF =>
   rw [hw] at hc
   cases hg : ty.agg
   ·simp only [loadAV, hg, Bool.false_eq_true, if_false, Option.some.injEq] at hl
    subst hl
    exact ⟨_, v, rfl, by simp only [loadVar, Sem.run_bind, run_isAgg hT, Result.andThen_ok, hg, Bool.false_eq_true, if_false, run_load, hc], AR.of_F tid hF⟩
   ·simp [loadAV, hg] at hl
 | spt e y o =>
  have hp := hp.to_A1 tid (by intro l h; cases h)
  cases hp with
  | spt _ _ _ b off V hV hm =>
   rw [hw] at hm
   have hlen := El.enc_length e y
   obtain ⟨v, h4, h5⟩ := readAt_ok (P := P) (tid := tid) (c := c) (σ := σ) (vs := (List.range e.sz).map V) hT hw (by simp [hlen]) (b := b) (off := off) (fun j x hx => by
     rw [List.getElem?_map] at hx
     obtain ⟨j', hj', rfl⟩ := Option.map_eq_some_iff.1 hx
     have hj2 := List.getElem?_eq_some_iff.1 hj'
     obtain ⟨hj3, hj4⟩ := hj2
     simp at hj3 hj4
     subst hj4
     exact (hm j hj3).2) (fun i hi => A1.of_F tid (by
      rw [List.getD_eq_getElem?_getD (l := (List.range e.sz).map V), List.getElem?_map, List.getElem?_range (by omega)]
      exact hV i (by omega))) hl
   exact ⟨_, v, rfl, h4, h5⟩
 | vpt k ver e y o =>
  have hp := hp.to_A1 tid (by intro l h; cases h)
  simp only [loadAV] at hl
  split at hl
  ·rename_i hcur
   obtain ⟨_, _, hp⟩ := hp
   obtain ⟨b, off, vs, h1, rfl, h3, h4⟩ := hp.2 (cur_eq hcur)
   rw [hw] at h3
   obtain ⟨v, h5, h6⟩ := readAt_ok (tid := tid) (c := c) (σ := σ) hT hw h4.1 h3 (fun i hi => A1.of_F tid (h4.2 i hi)) hl
   exact ⟨_, v, rfl, h5, h6⟩
  ·cases hl
 | opt k ver e y i o =>
  have hp := hp.to_A1 tid (by intro l h; cases h)
  simp only [loadAV] at hl
  split at hl
  ·rename_i hcur
   obtain ⟨_, _, hp⟩ := hp
   obtain ⟨b, us, T', h1, rfl, h2, h3', h4⟩ := hp.2 (cur_eq hcur)
   have h3 := ((Blk.cells h2).drop (i.toNat * e.sz)).take e.sz
   rw [hw, Nat.zero_add] at h3
   obtain ⟨v, h5, h6⟩ := readAt_ok (tid := tid) (c := c) (σ := σ) hT hw h4.1 h3 (fun i hi => A1.of_F tid (h4.2 i hi)) hl
   exact ⟨_, v, rfl, h5, h6⟩
  ·cases hl
 | _ => simp [loadAV] at hl
theorem writeL_length {l m : List AV} {i : Nat} (h : i + m.length ≤ l.length) : (writeL l i m).length = l.length := by
 simp [writeL]; omega
theorem writeL_getD {α : Type} (l m : List α) (d : α) (i j : Nat) (h : i + m.length ≤ l.length) :
  (l.take i ++ (m ++ l.drop (i + m.length))).getD j d = if i ≤ j ∧ j < i + m.length then m.getD (j - i) d else l.getD j d := by
 by_cases h1 : j < i
 ·rw [getD_append_left _ _ _ _ (by simp; omega), getD_take _ _ _ _ h1, if_neg (by omega)]
 ·rw [getD_append_right _ _ _ _ (by simp; omega)]
  have : (l.take i).length = i := by simp; omega
  rw [this]
  by_cases h2 : j < i + m.length
  ·rw [getD_append_left _ _ _ _ (by omega), if_pos ⟨by omega, h2⟩]
  ·rw [getD_append_right _ _ _ _ (by omega), getD_drop, if_neg (by omega)]
   congr 1; omega
theorem run_storeVar {P : Program} {T : Nat} {ty : Ty} (hT : TyOK P tid T ty) {w : World} {b o : Nat} {vs us : List Value} {T' : TypeId} {v : Value} (hb : Blk w b vs T') (hv : v.cells.toList = us) (hl : us.length = ty.zero.length)
  (ho : o + us.length ≤ vs.length) (h1 : ∀ u ∈ us, u.oneCell' = true) :
  (storeVar T ⟨b, o, none⟩ v).run P w = .ok () (w.setRow b (vs.take o ++ (us ++ vs.drop (o + us.length))).toArray) := by
 have hsz : v.cells.size = ty.zero.length := by rw [← hl, ← hv]; simp
 have hr := run_storeCells_at (P := P) b o T' us 0 vs.toArray w hb (by simpa using ho) h1
 simp only [Nat.add_zero, List.append_assoc] at hr
 subst hv
 simp only [storeVar, Sem.run_bind, run_sizeOf hT, Result.andThen_ok, hsz, ne_eq, not_true, if_false, Sem.run_pure]
 simpa using hr
theorem setRow_blk {w : World} {b : Nat} {vs us : List Value} {T : TypeId} (h : Blk w b vs T) : Blk (w.setRow b us.toArray) b us T := setRow_heap w b _ _ T _ h
theorem AR.pieces {x : AV} {v : Value} (h : AR tid c σ x v) (hc : x.cells.all AV.cell = true) :
  ∃ us, v.cells.toList = us ∧ x.cells.length = us.length ∧ (∀ i, i < x.cells.length → A1 tid c σ (x.cells.getD i .undef) (us.getD i Go.undef)) ∧ ∀ u ∈ us, u.oneCell' = true :=
 ⟨_, rfl, (h.cells hc).1, (h.cells hc).2.1, (h.cells hc).2.2⟩
theorem cells_other {w : World} {b o x : Nat} {vs : List Value} (hne : b ≠ x) : (w.setRow x vs.toArray).cell? ⟨b, o, none⟩ = w.cell? ⟨b, o, none⟩ :=
 World.cell?_of_block (w := w) (a := ⟨b, o, none⟩) (setRow_other w x b _ hne)
theorem Step.write {b : Nat} {vs : List Value} (hw : c.w = w) (hS : ∀ o, ¬ c.S b o) (hκ : ∀ k, c.κ k = some b → σ.c < getV σ'.v k) (hv : ∀ k, getV σ'.v k = getV σ.v k ∨ σ.c < getV σ'.v k) (hc : σ.c ≤ σ'.c)
  (hB : ∀ k, getB σ.b k ≠ [] → getB σ'.b k ≠ []) : Step c σ { c with w := w.setRow b vs.toArray } σ' := by
 refine ⟨rfl, fun b' o x hs hx => ?_, fun _ _ h => h, hc, fun k hk => ⟨hB k hk, rfl⟩, fun k => ?_⟩
 ·rw [hw] at hx
  rw [show ({ c with w := w.setRow b vs.toArray } : Cx).w = w.setRow b vs.toArray from rfl, cells_other (fun e => hS o (by rw [← e]; exact hs))]
  exact hx
 ·rcases hv k with h1 | h1
  ·by_cases hb : c.κ k = some b
   ·exact .inr (hκ k hb)
   ·exact .inl ⟨h1, rfl, fun b' hb' => by
     rw [hw]; exact setRow_other w b b' _ (fun e => hb (by rw [← e]; exact hb'))⟩
  ·exact .inr h1
theorem Keep.write {w0 w : World} {F : Nat → Prop} {b : Nat} {vs : Array Value} (h : Keep w0 F w) (hb : F b ∨ w0.heap.size ≤ b) : Keep w0 F (w.setRow b vs) :=
 ⟨h.os, h.tape, h.output, by rw [setRow_size]; exact h.size, fun b' h1 h2 => by
  rw [setRow_other w b b' vs (fun e => by subst e; rcases hb with hb | hb; exact h2 hb; omega)]; exact h.block b' h1 h2⟩
theorem RowR.write {b o : Nat} {l m : List AV} {us : List Value} (r : RowR tid c σ b l) (hw : c.w = w) (hm : m.length = us.length) (ho : o + m.length ≤ l.length) (hA : ∀ i, i < m.length → A1 tid c σ (m.getD i .undef) (us.getD i Go.undef)) :
  ∃ vs T, Blk w b vs T ∧ o + us.length ≤ vs.length ∧ ∀ (c' : Cx) (σ' : St), ((∀ x v, A1 tid c σ x v → A1 tid c' σ' x v) → c'.w = w.setRow b (vs.take o ++ (us ++ vs.drop (o + us.length))).toArray → RowR tid c' σ' b (writeL l o m)) := by
 obtain ⟨vs, T, h1, h2, h3⟩ := r
 rw [hw] at h1
 refine ⟨vs, T, h1, by omega, fun c' σ' hs hw' => ⟨_, T, by rw [hw']; exact setRow_blk h1, ?_, fun i hi => ?_⟩⟩
 ·rw [writeL_length ho]; simp; omega
 ·rw [writeL_length ho] at hi
  unfold writeL
  rw [writeL_getD l m _ o i ho, writeL_getD vs us _ o i (by omega), ← hm]
  split
  ·exact hs _ _ (hA _ (by omega))
  ·exact hs _ _ (h3 i hi)
theorem store_ok {P : Program} {T : Nat} {ty : Ty} (hT : TyOK P tid T ty) (h : Rel tid B N c σ a w) {p x : AV} {pv v : Value} (hp : AR tid c σ p pv) (hx : AR tid c σ x v) (hn : ∀ k w e y i o, p ≠ .opt k w e y i o) (hl : storeAV σ ty p x = some σ') :
  ∃ ad w' c', pv = .pointer (some ad) ∧ (storeVar T ad v).run P w = .ok () w' ∧ Rel tid B N c' σ' a w' := by
 have hw := h.hw
 unfold storeAV at hl
 split at hl
 rotate_left
 ·cases hl
 rename_i hlen hcell
 have hlen := Nat.eq_of_beq_eq_true hlen
 obtain ⟨us, hu, hul, hA, h1⟩ := hx.pieces hcell
 cases p with
 | rdr i =>
  have hp := hp.to_A1 tid (by intro l h; cases h)
  cases hp with
  | rdr =>
  simp only at hl
  split at hl
  rotate_left
  ·cases hl
  rename_i hb
  have hb := Nat.le_of_ble_eq_true hb
  simp only [Option.some.injEq] at hl
  have hs : σ.s ≠ [] := by intro e; rw [e] at hb; have := hT.pos; simp only [List.length_nil] at hb; omega
  obtain ⟨vs, T', h2, h3, h4⟩ := (h.s hs).write (o := i) hw hul (by omega) hA
  have hst := run_storeVar (P := P) hT h2 hu (by omega) h3 h1
  have hgg := h.gg hs
  have hs' : σ'.s ≠ [] := by subst hl; intro e; have := congrArg List.length e; rw [show ({ σ with s := writeL σ.s i x.cells } : St).s = writeL σ.s i x.cells from rfl, writeL_length (by omega)] at this; exact hs (List.eq_nil_of_length_eq_zero this)
  have st : Step c σ { c with w := w.setRow c.g (vs.take i ++ (us ++ vs.drop (i + us.length))).toArray } σ' := by
   subst hl
   refine .write hw hgg.2 (fun k hk => ?_) (fun k => .inl rfl) (Nat.le_refl _) (fun k h => h)
   by_cases hf : k ∈ σ.fr
   ·exact absurd (h.fz k _ hf hk 0) (hgg.2 0)
   ·exact absurd rfl ((h.own k _ hf hk).2.2.2.1 hs)
  refine ⟨_, _, { c with w := w.setRow c.g (vs.take i ++ (us ++ vs.drop (i + us.length))).toArray }, rfl, hst, { hw := rfl, ds := h.ds, n := h.n, t := fun k => ?_, b := fun k hk => ?_, s := fun _ => ?_, ver := ?_, fz := ?_, own := ?_, inj := ?_, box := ?_, gg := ?_, old := h.old, grow := h.grow, stsz := ?_, keep := h.keep.write hgg.1 }⟩
  ·have := (h.t k).step st; subst hl; exact this
  ·have hk0 : getB σ.b k ≠ [] := by subst hl; exact hk
   have := (h.b k hk0).step st (by
    rw [hw]; exact setRow_other w c.g _ _ ((h.box k hk0).2.2.1 hs))
   subst hl; exact this
  ·have := h4 _ σ' (fun _ _ r => r.step st) rfl
   subst hl; exact this
  ·subst hl; exact h.ver
  ·subst hl; exact h.fz
  ·subst hl
   intro k b hk hb
   have := h.own k b hk hb
   exact ⟨this.1, by rw [setRow_size]; exact this.2.1, this.2.2.1, fun _ => this.2.2.2.1 hs, this.2.2.2.2⟩
  ·subst hl; exact h.inj
  ·subst hl
   intro k hk
   have := h.box k hk
   exact ⟨this.1, this.2.1, fun _ => this.2.2.1 hs, this.2.2.2⟩
  ·intro _; exact hgg
  ·intro b o hs; rw [setRow_size]; exact h.stsz b o hs
 | lbox k i =>
  obtain ⟨rfl, hk⟩ := hp.to_A1 tid (by intro l h; cases h)
  simp only at hl
  split at hl
  rotate_left
  ·cases hl
  rename_i hb
  have hb := Nat.le_of_ble_eq_true hb
  simp only [Option.some.injEq] at hl
  obtain ⟨vs, T', h2, h3, h4⟩ := (h.b k hk).write (o := i) hw hul (by omega) hA
  have hst := run_storeVar (P := P) hT h2 hu (by omega) h3 h1
  have hbx := h.box k hk
  have hgb : ∀ j, getB σ'.b j = if k = j then writeL (getB σ.b k) i x.cells else getB σ.b j := by subst hl; intro j; exact getB_cons ..
  have hne : ∀ j, getB σ'.b j ≠ [] ↔ getB σ.b j ≠ [] := by
   intro j
   rw [hgb]
   split
   ·rename_i e; subst e
    refine ⟨fun _ => hk, fun _ e => ?_⟩
    have := congrArg List.length e
    rw [writeL_length (by omega)] at this
    exact hk (List.eq_nil_of_length_eq_zero this)
   ·exact Iff.rfl
  have st : Step c σ { c with w := w.setRow (c.β k) (vs.take i ++ (us ++ vs.drop (i + us.length))).toArray } σ' := by
   refine .write hw hbx.2.1 (fun k' hk' => ?_) (fun k => .inl (by subst hl; rfl)) (by subst hl; exact Nat.le_refl _) (fun j hj => (hne j).2 hj)
   by_cases hf : k' ∈ σ.fr
   ·exact absurd (h.fz k' _ hf hk' 0) (hbx.2.1 0)
   ·exact absurd rfl ((h.own k' _ hf hk').2.2.2.2 k hk)
  refine ⟨_, _, { c with w := w.setRow (c.β k) (vs.take i ++ (us ++ vs.drop (i + us.length))).toArray }, rfl, hst, { hw := rfl, ds := h.ds, n := h.n, t := fun k => ?_, b := fun j hj => ?_, s := fun hs => ?_, ver := ?_, fz := ?_, own := ?_, inj := ?_, box := ?_, gg := ?_, old := h.old, grow := h.grow, stsz := ?_, keep := h.keep.write (.inr hbx.1) }⟩
  ·have := (h.t k).step st; subst hl; exact this
  ·have hj0 := (hne j).1 hj
   by_cases hjk : k = j
   ·subst hjk
    have := h4 _ σ' (fun _ _ r => r.step st) rfl
    rw [hgb, if_pos rfl]; exact this
   ·have := (h.b j hj0).step st (by
     rw [hw]; exact setRow_other w (c.β k) _ _ (fun e => hjk (hbx.2.2.2 j hj0 e).symm))
    rw [hgb, if_neg hjk]; exact this
  ·have hs0 : σ.s ≠ [] := by subst hl; exact hs
   have := (h.s hs0).step st (by rw [hw]; exact setRow_other w (c.β k) _ _ (Ne.symm (hbx.2.2.1 hs0)))
   subst hl; exact this
  ·subst hl; exact h.ver
  ·subst hl; exact h.fz
  ·intro k' b hk' hb'
   have := h.own k' b (by subst hl; exact hk') hb'
   exact ⟨this.1, by rw [setRow_size]; exact this.2.1, this.2.2.1, fun hs => this.2.2.2.1 (by subst hl; exact hs), fun j hj => this.2.2.2.2 j ((hne j).1 hj)⟩
  ·subst hl; exact h.inj
  ·intro j hj
   have := h.box j ((hne j).1 hj)
   exact ⟨this.1, this.2.1, fun hs => this.2.2.1 (by subst hl; exact hs), fun i hi => this.2.2.2 i ((hne i).1 hi)⟩
  ·intro hs; exact h.gg (by subst hl; exact hs)
  ·intro b o hs; rw [setRow_size]; exact h.stsz b o hs
 | opt k w e y i o => exact absurd rfl (hn _ _ _ _ _ _)
 | _ => simp at hl
def Cx.new (c : Cx) (w : World) (o : Obj) (st : Bool) : Cx := { c with w := w.alloc o, S := fun b x => c.S b x ∨ (st = true ∧ b = w.heap.size) }
theorem Rel.new_step (h : Rel tid B N c σ a w) (o : Obj) (st : Bool) : Step c σ (c.new w o st) σ := by
 have hw := h.hw
 refine ⟨rfl, fun b x v hs hx => ?_, fun _ _ h => .inl h, Nat.le_refl _, fun k hk => ⟨hk, rfl⟩, fun k => ?_⟩
 ·rw [hw] at hx
  exact (World.cell?_of_block (w := w) (a := ⟨b, x, none⟩) (heap_alloc_old w o b (h.stsz b x hs))).trans hx
 ·by_cases hf : k ∈ σ.fr
  ·refine .inl ⟨rfl, rfl, fun b hb => ?_⟩
   rw [hw]; exact heap_alloc_old w o b (h.stsz b 0 (h.fz k b hf hb 0))
  ·refine .inl ⟨rfl, rfl, fun b hb => ?_⟩
   rw [hw]; exact heap_alloc_old w o b (h.own k b hf hb).2.1
theorem RowR.lt {b : Nat} {l : List AV} (r : RowR tid c σ b l) : b < c.w.heap.size := by
 obtain ⟨vs, T, h1, _⟩ := r; exact h1.lt
theorem Keep.alloc {w0 w : World} {F : Nat → Prop} (h : Keep w0 F w) (o : Obj) : Keep w0 F (w.alloc o) :=
 ⟨h.os, h.tape, h.output, by have := h.size; simp; omega, fun b h1 h2 => by
  rw [heap_alloc_old w o b (by have := h.size; omega)]; exact h.block b h1 h2⟩
theorem Rel.new (h : Rel tid B N c σ a w) (o : Obj) (st : Bool) : Rel tid B N (c.new w o st) σ a (w.alloc o) := by
 have hw := h.hw
 have hs := h.new_step o st
 have hlt : ∀ b, b < w.heap.size → b ≠ w.heap.size := fun b hb => by omega
 refine { hw := rfl, ds := h.ds, n := h.n, t := fun k => (h.t k).step hs, b := fun k hk => ?_, s := fun hk => ?_, ver := h.ver, fz := fun k b h1 h2 x => .inl (h.fz k b h1 h2 x), own := fun k b h1 h2 => ?_, inj := h.inj, box := fun k hk => ?_, gg := fun hk => ?_, old := fun b x hx => ?_, grow := fun b x hx => .inl (h.grow b x hx), stsz := fun b x hx => ?_, keep := h.keep.alloc o }
 ·have r := h.b k hk
  exact r.step hs (by rw [hw]; exact heap_alloc_old w o _ (by have := r.lt; rw [hw] at this; exact this))
 ·have r := h.s hk
  exact r.step hs (by rw [hw]; exact heap_alloc_old w o _ (by have := r.lt; rw [hw] at this; exact this))
 ·have r := h.own k b h1 h2
  refine ⟨r.1, by have := r.2.1; simp; omega, fun x hx => ?_, r.2.2.2⟩
  rcases hx with hx | ⟨_, hx⟩
  ·exact r.2.2.1 x hx
  ·exact hlt b r.2.1 hx
 ·have r := h.box k hk
  refine ⟨r.1, fun x hx => ?_, r.2.2⟩
  rcases hx with hx | ⟨_, hx⟩
  ·exact r.2.1 x hx
  ·exact hlt _ (by have := (h.b k hk).lt; rw [hw] at this; exact this) hx
 ·have r := h.gg hk
  refine ⟨r.1, fun x hx => ?_⟩
  rcases hx with hx | ⟨_, hx⟩
  ·exact r.2 x hx
  ·exact hlt _ (by have := (h.s hk).lt; rw [hw] at this; exact this) hx
 ·rcases hx with hx | ⟨_, hx⟩
  ·exact h.old b x hx
  ·exact .inr (.inr (by have := h.keep.size; omega))
 ·rcases hx with hx | ⟨_, hx⟩
  ·have := h.stsz b x hx; simp; omega
  ·simp; omega
theorem Rel.box' (h : Rel tid B N c σ a w) {d nb : Nat} {l : List AV} (hd : getB σ.b d = []) (hl : l ≠ []) (hm : B.w0.heap.size ≤ nb) (hS : ∀ o, ¬ c.S nb o) (hg : σ.s ≠ [] → nb ≠ c.g) (hb : ∀ j, getB σ.b j ≠ [] → nb ≠ c.β j)
  (hκ : ∀ k, k ∉ σ.fr → c.κ k ≠ some nb) (r : RowR tid c σ nb l) :
  Rel tid B N { c with β := fun k => if k = d then nb else c.β k } { σ with b := (d, l) :: σ.b } a w := by
 have hβ : ∀ k, getB σ.b k ≠ [] → (if k = d then nb else c.β k) = c.β k := fun k hk => by rw [if_neg]; intro e; subst e; exact hk hd
 have hgb : ∀ k, getB ((d, l) :: σ.b) k = if d = k then l else getB σ.b k := fun k => getB_cons ..
 have hs : Step c σ { c with β := fun k => if k = d then nb else c.β k } { σ with b := (d, l) :: σ.b } :=
  ⟨rfl, fun _ _ _ _ h => h, fun _ _ h => h, Nat.le_refl _, fun k hk => ⟨by rw [hgb]; split; exact hl; exact hk, hβ k hk⟩, fun k => .inl ⟨rfl, rfl, fun _ _ => rfl⟩⟩
 refine { hw := h.hw, ds := h.ds, n := h.n, t := fun k => (h.t k).step hs, b := fun k hk => ?_, s := fun hk => (h.s hk).step hs rfl, ver := h.ver, fz := h.fz, own := fun k b h1 h2 => ?_, inj := h.inj, box := fun k hk => ?_, gg := h.gg, old := h.old, grow := h.grow, stsz := h.stsz, keep := h.keep }
 ·rw [hgb] at hk ⊢
  by_cases e : d = k
  ·subst e; simp only [if_true]; exact r.step hs rfl
  ·simp only [if_neg e] at hk ⊢
   simp only [if_neg (Ne.symm e)]
   exact (h.b k hk).step hs rfl
 ·have r' := h.own k b h1 h2
  refine ⟨r'.1, r'.2.1, r'.2.2.1, r'.2.2.2.1, fun j hj => ?_⟩
  rw [hgb] at hj
  by_cases e : d = j
  ·subst e; simp only [if_true]; intro e; subst e; exact hκ k h1 h2
  ·simp only [if_neg e] at hj; simp only [if_neg (Ne.symm e)]; exact r'.2.2.2.2 j hj
 ·rw [hgb] at hk
  by_cases e : d = k
  ·subst e
   simp only [if_true]
   refine ⟨hm, hS, hg, fun j hj e => ?_⟩
   rw [hgb] at hj
   by_cases e' : d = j
   ·exact e'.symm
   ·simp only [if_neg e'] at hj
    rw [if_neg (Ne.symm e')] at e
    exact absurd e.symm (hb j hj)
  ·simp only [if_neg e] at hk
   simp only [if_neg (Ne.symm e)]
   have r' := h.box k hk
   refine ⟨r'.1, r'.2.1, r'.2.2.1, fun j hj e2 => ?_⟩
   rw [hgb] at hj
   by_cases e' : d = j
   ·subst e'; simp only [if_true] at e2; exact absurd e2 (hb k hk)
   ·simp only [if_neg e'] at hj
    rw [if_neg (Ne.symm e')] at e2
    exact r'.2.2.2 j hj e2
theorem Rel.newBox (h : Rel tid B N c σ a w) {d : Nat} (hd : d < N) {l : List AV} {vs : List Value} {T : TypeId} (hb : getB σ.b d = []) (hl : l ≠ []) (hlen : l.length = vs.length)
  (hA : ∀ i, i < l.length → A1 tid c σ (l.getD i .undef) (vs.getD i Go.undef)) :
  ∃ c', Rel tid B N c' ({ σ with b := (d, l) :: σ.b }.put (some d) (.lbox d 0)) (a.put (some d) (.pointer (some ⟨w.heap.size, 0, none⟩))) (w.alloc (.cells vs.toArray T)) := by
 have hw := h.hw
 have h1 := h.new (.cells vs.toArray T) false
 have hs := h.new_step (.cells vs.toArray T) false
 have hS : ∀ o, ¬ (c.new w (.cells vs.toArray T) false).S w.heap.size o := by
  intro o hx
  rcases hx with hx | ⟨hx, _⟩
  ·have := h.stsz _ _ hx; omega
  ·cases hx
 have h2 := h1.box' (d := d) (nb := w.heap.size) (l := l) hb hl h.keep.size hS
  (fun hne e => by have := (h.s hne).lt; rw [hw] at this; exact absurd e (by show w.heap.size ≠ c.g; omega))
  (fun j hj e => by have := (h.b j hj).lt; rw [hw] at this; exact absurd e (by show w.heap.size ≠ c.β j; omega))
  (fun k hk e => by have := (h.own k _ hk e).2.1; omega)
  ⟨vs, T, heap_alloc_new w _, hlen, fun i hi => (hA i hi).step hs⟩
 refine ⟨_, h2.put (fun x hx => by cases hx; exact hd) (AR.of_A1' ?_)⟩
 refine ⟨by simp, ?_⟩
 show getB ((d, l) :: σ.b) d ≠ []
 rw [getB_cons, if_pos rfl]; exact hl
theorem Rel.newStay (h : Rel tid B N c σ a w) (vs : List Value) (T : TypeId) :
  Rel tid B N (c.new w (.cells vs.toArray T) true) σ a (w.alloc (.cells vs.toArray T)) ∧ (∀ o, (c.new w (.cells vs.toArray T) true).S w.heap.size o) ∧ CellsAt (w.alloc (.cells vs.toArray T)) w.heap.size 0 vs :=
 ⟨h.new _ _, fun o => .inr ⟨rfl, rfl⟩, Blk.cells (T := T) (heap_alloc_new w _)⟩
theorem CR.elem {w : World} {S : Nat → Nat → Prop} {g : Nat} {e : El} {l : List e.T} {vs : List Value} (h : CR w S g (encL e l) vs) (i : Nat) (hi : i < l.length) : CR w S g (e.enc (l.getD i e.dflt)) ((vs.drop (i * e.sz)).take e.sz) := by
 have hlen := encL_length e l
 have h1 := h.1
 have hle : i * e.sz + e.sz ≤ l.length * e.sz := by rw [← Nat.succ_mul]; exact Nat.mul_le_mul_right _ hi
 refine ⟨by rw [El.enc_length]; simp; omega, fun j hj => ?_⟩
 rw [El.enc_length] at hj
 rw [getD_take _ _ _ _ hj, getD_drop, ← encL_getD e l i j hi hj]
 exact h.2 _ (by omega)
def SlR (w : World) (S : Nat → Nat → Prop) (g : Nat) (e : El) (l : List e.T) (v : Value) : Prop :=
 ∃ ad m, v = .slice ad l.length m ∧ l.length ≤ m ∧ (l = [] ∨ ∃ b off vs, ad = some ⟨b, off, none⟩ ∧ CellsAt w b off vs ∧ CR w S g (encL e l) vs ∧ ∀ j, j < vs.length → S b (off + j))
theorem mul_lt {i j n k : Nat} (hi : i < n) (hj : j < k) : i * k + j < n * k := by
 have : i * k + k ≤ n * k := by rw [← Nat.succ_mul]; exact Nat.mul_le_mul_right _ hi
 omega
theorem FRel.toSl {w : World} {S : Nat → Nat → Prop} {g : Nat} {e : El} {l : List e.T} {v : Value} (h : FRel w S g (.sl e l) v) : SlR w S g e l v := by
 cases h with
 | sl0 e a c => exact ⟨a, c, rfl, Nat.zero_le _, .inl rfl⟩
 | sl e xs b off c V hc hn hV hm =>
  have hp := e.sz_pos
  have hx : ∀ j, j < l.length * e.sz → j / e.sz < l.length ∧ j % e.sz < e.sz := fun j hj => ⟨(Nat.div_lt_iff_lt_mul hp).2 hj, Nat.mod_lt _ hp⟩
  have hj : ∀ j, j / e.sz * e.sz + j % e.sz = j := fun j => by have := Nat.div_add_mod j e.sz; rw [Nat.mul_comm]; omega
  refine ⟨_, c, rfl, hc, .inr ⟨b, off, (List.range (l.length * e.sz)).map fun j => V (j / e.sz) (j % e.sz), rfl, fun j x hx' => ?_, ⟨by rw [encL_length]; simp, fun j hj' => ?_⟩, fun j hj' => ?_⟩⟩
  ·rw [List.getElem?_map] at hx'
   obtain ⟨j', h1, rfl⟩ := Option.map_eq_some_iff.1 hx'
   obtain ⟨h2, h3⟩ := List.getElem?_eq_some_iff.1 h1
   simp at h2 h3
   subst h3
   have := (hm (j / e.sz) (j % e.sz) (hx j h2).1 (hx j h2).2).2
   rw [Nat.add_assoc, hj] at this
   exact this
  ·rw [encL_length] at hj'
   have h4 := hV _ _ (hx j hj').1 (hx j hj').2
   rw [← encL_getD e l _ _ (hx j hj').1 (hx j hj').2, hj] at h4
   rw [List.getD_eq_getElem?_getD (l := List.map _ _), List.getElem?_map, List.getElem?_range hj']
   exact h4
  ·simp at hj'
   have := (hm (j / e.sz) (j % e.sz) (hx j hj').1 (hx j hj').2).1
   rw [Nat.add_assoc, hj] at this
   exact this
theorem FRel.ofSl {w : World} {S : Nat → Nat → Prop} {g : Nat} {e : El} {l : List e.T} {v : Value} (h : SlR w S g e l v) : FRel w S g (.sl e l) v := by
 obtain ⟨ad, m, rfl, hm, h⟩ := h
 rcases h with rfl | ⟨b, off, vs, rfl, h1, h2, h3⟩
 ·exact .sl0 e ad m
 ·by_cases hn : l = []
  ·subst hn; exact .sl0 e _ m
  ·have hlen := h2.1
   rw [encL_length] at hlen
   refine .sl e l b off m (fun i j => vs.getD (i * e.sz + j) Go.undef) hm (List.length_pos_iff.2 hn) (fun i j hi hj => ?_) fun i j hi hj => ⟨?_, ?_⟩
   ·rw [← encL_getD e l i j hi hj]
    exact h2.2 _ (by rw [encL_length]; exact mul_lt hi hj)
   ·rw [Nat.add_assoc]; exact h3 _ (by rw [← hlen]; exact mul_lt hi hj)
   ·rw [Nat.add_assoc]; exact h1 _ _ (get?_of_lt _ (by rw [← hlen]; exact mul_lt hi hj))
theorem OwnR.cells {k : Nat} {e : El} {l : List e.T} {v : Value} (h : OwnR tid c k e l v) :
  (l = [] ∧ ∃ a, v = .slice a 0 0) ∨ ∃ b m vs, c.κ k = some b ∧ v = .slice (some ⟨b, 0, none⟩) l.length m ∧ l.length ≤ m ∧ CellsAt c.w b 0 vs ∧ CR c.w c.S c.g (encL e l) vs := by
 rcases h with h | ⟨b, vs, h1, h2, h3, h4⟩
 ·exact .inl h
 ·refine .inr ?_
  have hc := h3.cells h2
  rcases h3.2 with ⟨rfl, _⟩ | ⟨g, cap, cur, rfl, _, hh, hn, _⟩
  ·simp [Value.ownBlock] at h2
  ·simp only [Value.ownBlock, Option.some.injEq] at h2
   subst h2
   exact ⟨g, cap, vs, h1, rfl, hn, fun j x hx => by have := hc j x hx; rwa [Addr.add_at] at this, h4⟩
theorem addPt_ok {p q : AV} {pv : Value} {n : Nat} (hp : AR tid c σ p pv) (h : addPt p n = some q) : ∃ ad, pv = .pointer (some ad) ∧ AR tid c σ q (.pointer (some (ad.add n))) := by
 cases p with
 | rdr i =>
  have hp := hp.to_A1 tid (by intro l h; cases h)
  cases hp
  simp only [addPt, Option.some.injEq] at h; subst h
  exact ⟨_, rfl, by rw [Addr.add_at]; exact AR.of_F tid (.rdr _)⟩
 | lbox k i =>
  obtain ⟨rfl, hk⟩ := hp.to_A1 tid (by intro l h; cases h)
  simp only [addPt, Option.some.injEq] at h; subst h
  exact ⟨_, rfl, by rw [Addr.add_at]; exact ⟨rfl, hk⟩⟩
 | cbox y =>
  cases n with
  | zero =>
   simp only [addPt, Option.some.injEq] at h; subst h
   have hp' := hp.to_A1 tid (by intro l h; cases h)
   cases hp' with
   | cbox _ v b hs hc ho hF => exact ⟨_, rfl, by rw [Addr.add_at]; exact hp⟩
  | succ n => simp [addPt] at h
 | spt e x o =>
  simp only [addPt, Option.some.injEq] at h; subst h
  have hp' := hp.to_A1 tid (by intro l h; cases h)
  cases hp' with
  | spt _ _ _ b off V hV hm => exact ⟨_, rfl, by rw [Addr.add_at, Nat.add_assoc]; exact AR.of_F tid (.spt e x (o + n) b off V hV hm)⟩
 | vpt k ver e x o =>
  simp only [addPt, Option.some.injEq] at h; subst h
  obtain ⟨ad, h1, h2, h3⟩ := hp.to_A1 tid (by intro l h; cases h)
  exact ⟨ad, h1, _, rfl, h2, fun hv => by
   obtain ⟨b, off, vs, h4, h5, h6⟩ := h3 hv
   rw [h1] at h5
   simp only [Value.pointer.injEq, Option.some.injEq] at h5
   subst h5
   exact ⟨b, off, vs, h4, by rw [Addr.add_at, Nat.add_assoc], h6⟩⟩
 | opt k ver e x i o =>
  simp only [addPt, Option.some.injEq] at h; subst h
  obtain ⟨ad, h1, h2, h3⟩ := hp.to_A1 tid (by intro l h; cases h)
  exact ⟨ad, h1, _, rfl, h2, fun hv => by
   obtain ⟨b, us, T, h4, h5, h6⟩ := h3 hv
   rw [h1] at h5
   simp only [Value.pointer.injEq, Option.some.injEq] at h5
   subst h5
   exact ⟨b, us, T, h4, by rw [Addr.add_at, Nat.add_assoc], h6⟩⟩
 | _ => simp [addPt] at h
theorem El.eqb_eq {e e' : El} (h : El.eqb e e' = true) : e = e' := by cases e <;> cases e' <;> first | rfl | cases h
structure ElOK (P : Program) (tid : El → Nat) (T : Nat) (e : El) : Prop where
 und : P.underlying T = some (.slice (tid e))
 info : ∃ i z, P.info? (tid e) = some i ∧ i.zero = some z ∧ i.size = e.sz ∧ z.cells.size = e.sz ∧ 0 < i.bytes ∧ i.bytes ≤ 32768
theorem run_indexAt {P : Program} {T : Nat} {e : El} (hE : ElOK P tid T e) {ad : Addr} {n m : Nat} {i : Int} (h0 : 0 ≤ i) (h1 : i < n) (w : World) :
  (Instr.indexAt T (.slice (some ad) n m) (.int .i64 i)).run P w = .ok (.pointer (some (ad.add (i.toNat * e.sz)))) w := by
 obtain ⟨ii, z, h2, h3, h4, _⟩ := hE.info
 simp [Instr.indexAt, asIntOf, run_underlying hE.und, h0, h1, sizeOf, typeInfo, h2, h4]
theorem idx_ok {P : Program} {T : Nat} {E : Option El} (hE : ∀ e, E = some e → ElOK P tid T e) (h : Rel tid B N c σ a w) {x : AV} {v : Value} {i : Int} (hx : AR tid c σ x v) {R : Type} {K : AV → Option R} {r : R} (hK : idxK E σ x i K = some r) :
  ∃ y ad, K y = some r ∧ (Instr.indexAt T v (.int .i64 i)).run P w = .ok (.pointer (some ad)) w ∧ AR tid c σ y (.pointer (some ad)) := by
 have isEl_eq : ∀ {e : El}, isEl E e = true → ElOK P tid T e := by
  intro e he
  unfold isEl at he
  split at he
  ·have := El.eqb_eq he; subst this; exact hE _ rfl
  ·cases he
 cases x with
 | sl e l =>
  simp only [idxK] at hK
  split at hK
  rotate_left
  ·cases hK
  rename_i he
  split at hK
  rotate_left
  ·cases hK
  rename_i h0
  split at hK
  rotate_left
  ·cases hK
  rename_i h1
  have hF : FRel c.w c.S c.g (.sl e l) v := hx.to_A1 tid (by intro l h; cases h)
  obtain ⟨ad, m, rfl, hm, hs⟩ := hF.toSl
  have hi : i.toNat < l.length := by omega
  rcases hs with rfl | ⟨b, off, vs, rfl, h2, h3, h4⟩
  ·simp at hi
  ·refine ⟨_, _, hK, run_indexAt (isEl_eq he) h0 h1 w, ?_⟩
   rw [Addr.add_at]
   have h5 := h3.elem i.toNat hi
   have h6 := (h2.drop (i.toNat * e.sz)).take e.sz
   have hlen := h5.1
   rw [El.enc_length] at hlen
   have hvl := h3.1
   rw [encL_length] at hvl
   refine AR.of_F tid (.spt e _ 0 b (off + i.toNat * e.sz) (fun j => ((vs.drop (i.toNat * e.sz)).take e.sz).getD j Go.undef) (fun j hj => h5.2 j (by rw [El.enc_length]; exact hj)) fun j hj => ⟨?_, ?_⟩)
   ·rw [Nat.add_assoc]; exact h4 _ (by rw [← hvl]; exact mul_lt hi hj)
   ·exact h6 j _ (get?_of_lt _ (by omega))
 | own k ver e l =>
  simp only [idxK] at hK
  split at hK
  rotate_left
  ·cases hK
  rename_i he
  simp only [Bool.and_eq_true] at he
  split at hK
  rotate_left
  ·cases hK
  rename_i h0
  split at hK
  rotate_left
  ·cases hK
  rename_i h1
  obtain ⟨_, hv, hO⟩ := hx.to_A1 tid (by intro l h; cases h)
  have hi : i.toNat < l.length := by omega
  rcases hO (cur_eq he.2) with ⟨rfl, _⟩ | ⟨b, vs, h2, h3, h4, h5⟩
  ·simp at hi
  ·rcases h4.2 with ⟨rfl, _⟩ | ⟨g, cap, cur, rfl, _, hh, hn, hcm, hcs, ht⟩
   ·simp [Value.ownBlock] at h3
   ·simp only [Value.ownBlock, Option.some.injEq] at h3
    subst h3
    have hle : i.toNat * e.sz + e.sz ≤ l.length * e.sz := by rw [← Nat.succ_mul]; exact Nat.mul_le_mul_right _ hi
    have hle2 : l.length * e.sz ≤ cap * e.sz := Nat.mul_le_mul_right _ hn
    refine ⟨_, _, hK, run_indexAt (isEl_eq he.1) h0 h1 w, ?_⟩
    rw [Addr.add_at, Nat.zero_add]
    refine ⟨_, rfl, hv, fun _ => ⟨g, cur.toList, tid e, h2, rfl, by unfold Blk; rw [Array.toArray_toList]; exact hh, by rw [Array.length_toList, hcs]; omega, ?_⟩⟩
    have h6 := h5.elem i.toNat hi
    rw [← ht, List.drop_take, List.take_take, Nat.min_eq_left (by omega)] at h6
    exact h6
 | vw k ver e l =>
  simp only [idxK] at hK
  split at hK
  rotate_left
  ·cases hK
  rename_i he
  simp only [Bool.and_eq_true] at he
  split at hK
  rotate_left
  ·cases hK
  rename_i h0
  split at hK
  rotate_left
  ·cases hK
  rename_i h1
  obtain ⟨hv, hO⟩ := hx.to_A1 tid (by intro l h; cases h)
  have hi : i.toNat < l.length := by omega
  rcases hO (cur_eq he.2) with ⟨rfl, _⟩ | ⟨b, off, m, vs, h2, rfl, hm, h3, h4⟩
  ·simp at hi
  ·refine ⟨_, _, hK, run_indexAt (isEl_eq he.1) h0 h1 w, ?_⟩
   rw [Addr.add_at]
   exact ⟨_, rfl, hv, fun _ => ⟨b, off + i.toNat * e.sz, (vs.drop (i.toNat * e.sz)).take e.sz, h2, rfl, (h3.drop _).take _, h4.elem i.toNat hi⟩⟩
 | _ => simp [idxK] at hK
theorem lst_len (h : Rel tid B N c σ a w) {x : AV} {v : Value} (hx : AR tid c σ x v) {e : El} {l : List e.T} (hr : rows σ x = some ⟨e, l⟩) : ∃ ad m, v = .slice ad l.length m := by
 unfold rows at hr
 split at hr
 ·simp only [Option.some.injEq] at hr
  cases hr
  have hF : FRel c.w c.S c.g (.sl _ _) v := hx.to_A1 tid (by intro l h; cases h)
  obtain ⟨ad, m, rfl, _⟩ := hF.toSl
  exact ⟨ad, m, rfl⟩
 ·split at hr
  ·rename_i he
   simp only [Option.some.injEq] at hr
   cases hr
   obtain ⟨_, hv, hO⟩ := hx.to_A1 tid (by intro l h; cases h)
   rcases (hO (cur_eq he)).cells with ⟨rfl, ad, rfl⟩ | ⟨b, m, vs, h2, rfl, _⟩
   ·exact ⟨ad, 0, rfl⟩
   ·exact ⟨_, m, rfl⟩
  ·cases hr
 ·split at hr
  ·rename_i he
   simp only [Option.some.injEq] at hr
   cases hr
   obtain ⟨hv, hO⟩ := hx.to_A1 tid (by intro l h; cases h)
   rcases hO (cur_eq he) with ⟨rfl, ad, m, rfl⟩ | ⟨b, off, m, vs, h2, rfl, _⟩
   ·exact ⟨ad, m, rfl⟩
   ·exact ⟨_, m, rfl⟩
  ·cases hr
 ·cases hr
theorem run_len {P : Program} {T ty : Nat} {e : El} (hE : ElOK P tid T e) {ad : Option Addr} {n m : Nat} (w : World) : (Builtin.len_ #[T] ty #[.slice ad n m]).run P w = .ok (.int .i64 n) w := by
 simp [Builtin.len_, run_underlying hE.und, goInt]
theorem len_ok {P : Program} {T ty : Nat} {E : Option El} (hE : ∀ e, E = some e → ElOK P tid T e) (h : Rel tid B N c σ a w) {x : AV} {v : Value} (hx : AR tid c σ x v) {R : Type} {K : AV → Option R} {r : R} (hK : lenK E σ x K = some r) :
  ∃ n : Int, K (.int n) = some r ∧ (Builtin.len_ #[T] ty #[v]).run P w = .ok (.int .i64 n) w := by
 unfold lenK at hK
 split at hK
 ·cases hK
 ·rename_i e0
  have hE := hE e0 rfl
  cases x with
  | sl e l =>
   obtain ⟨ad, m, rfl⟩ := lst_len h hx (e := e) (l := l) rfl
   exact ⟨_, hK, run_len hE w⟩
  | nil =>
   have hF : FRel c.w c.S c.g .nil v := hx.to_A1 tid (by intro l h; cases h)
   cases hF
   exact ⟨_, hK, run_len hE w⟩
  | own k ver e l =>
   simp only at hK
   split at hK
   ·rename_i he
    obtain ⟨ad, m, rfl⟩ := lst_len h hx (e := e) (l := l) (by simp [rows, he])
    exact ⟨_, hK, run_len hE w⟩
   ·cases hK
  | vw k ver e l =>
   simp only at hK
   split at hK
   ·rename_i he
    obtain ⟨ad, m, rfl⟩ := lst_len h hx (e := e) (l := l) (by simp [rows, he])
    exact ⟨_, hK, run_len hE w⟩
   ·cases hK
  | _ => simp at hK
def loOf : Option AV → Int | some (.int a) => a | _ => 0
def hiOf (n : Nat) : Option AV → Int | some (.int a) => a | _ => n
def BoundR (c : Cx) : Option AV → Option Value → Prop
 | none, none => True
 | some (.int n), some v => v = .int .i64 n
 | _, _ => False
theorem run_slice {P : Program} {T : Nat} {e : El} (hE : ElOK P tid T e) {ad : Option Addr} {n m : Nat} {lo hi : Option AV} {vl vh : Option Value} (h1 : BoundR c lo vl) (h2 : BoundR c hi vh)
  (h0 : 0 ≤ loOf lo) (h3 : loOf lo ≤ hiOf n hi) (h4 : hiOf n hi ≤ m) (w : World) :
  (Instr.sliceAt T (.slice ad n m) vl vh none).run P w = .ok (.slice (if m = (loOf lo).toNat then ad else ad.map (·.add ((loOf lo).toNat * e.sz))) ((hiOf n hi).toNat - (loOf lo).toNat) (m - (loOf lo).toNat)) w := by
 obtain ⟨ii, z, h5, h6, h7, _⟩ := hE.info
 cases lo with
 | none =>
  cases vl with
  | some v => simp [BoundR] at h1
  | none =>
   cases hi with
   | none =>
    cases vh with
    | some v => simp [BoundR] at h2
    | none => simp [Instr.sliceAt, Instr.slice, Instr.sliceBounds, run_underlying hE.und, sizeOf, typeInfo, h5, h7, loOf, hiOf]
   | some y =>
    cases vh with
    | none => cases y <;> simp [BoundR] at h2
    | some v =>
     cases y <;> simp only [BoundR] at h2
     rename_i q
     subst h2
     simp only [hiOf] at h3 h4 ⊢
     simp only [loOf] at h0 h3 ⊢
     simp [Instr.sliceAt, Instr.slice, Instr.sliceBounds, Instr.sliceBound, asIntOf, run_underlying hE.und, sizeOf, typeInfo, h5, h7, h3, h4]
 | some x =>
  cases vl with
  | none => cases x <;> simp [BoundR] at h1
  | some v =>
   cases x <;> simp only [BoundR] at h1
   rename_i p
   subst h1
   simp only [loOf] at h0 h3 ⊢
   cases hi with
   | none =>
    cases vh with
    | some v => simp [BoundR] at h2
    | none =>
     simp only [hiOf] at h3 h4 ⊢
     simp [Instr.sliceAt, Instr.slice, Instr.sliceBounds, Instr.sliceBound, asIntOf, run_underlying hE.und, sizeOf, typeInfo, h5, h7, h0, h3]
     by_cases hmp : m = p.toNat <;> simp [hmp]
   | some y =>
    cases vh with
    | none => cases y <;> simp [BoundR] at h2
    | some v =>
     cases y <;> simp only [BoundR] at h2
     rename_i q
     subst h2
     simp only [hiOf] at h3 h4 ⊢
     obtain ⟨q, rfl⟩ := Int.eq_ofNat_of_zero_le (show 0 ≤ q by omega)
     have h8 : q ≤ m := by omega
     have h9 : p ≤ (q : Int) := h3
     simp [Instr.sliceAt, Instr.slice, Instr.sliceBounds, Instr.sliceBound, asIntOf, run_underlying hE.und, sizeOf, typeInfo, h5, h7, h0, h8, h4, h9]
     by_cases hmp : m = p.toNat <;> simp [hmp]
theorem piece_len {α : Type} (l : List α) (p q : Nat) (h : q ≤ l.length) : ((l.take q).drop p).length = q - p := by simp; omega
theorem slice_ok {P : Program} {T : Nat} {E : Option El} (hE : ∀ e, E = some e → ElOK P tid T e) (h : Rel tid B N c σ a w) {x : AV} {v : Value} {lo hi : Option AV} {vl vh : Option Value} (hx : AR tid c σ x v) (h1 : BoundR c lo vl) (h2 : BoundR c hi vh) {R : Type} {K : AV → Option R} {r : R} (hK : sliceK E σ x lo hi K = some r) :
  ∃ y u, K y = some r ∧ (Instr.sliceAt T v vl vh none).run P w = .ok u w ∧ AR tid c σ y u := by
 have isEl_eq : ∀ {e : El}, isEl E e = true → ElOK P tid T e := by
  intro e he
  unfold isEl at he
  split at he
  ·have := El.eqb_eq he; subst this; exact hE _ rfl
  ·cases he
 -- what is to be shown of a piece
 have stay : ∀ (e : El) (l : List e.T) (v : Value) (q p : Int), isEl E e = true → AR tid c σ (.sl e l) v → loOf lo = p → hiOf l.length hi = q → 0 ≤ p → p ≤ q → q ≤ l.length →
   ∃ u, (Instr.sliceAt T v vl vh none).run P w = .ok u w ∧ AR tid c σ (.sl e ((l.take q.toNat).drop p.toNat)) u := by
  intro e l v q p he hx hp hq h3 h4 h5
  have hF : FRel c.w c.S c.g (.sl e l) v := hx.to_A1 tid (by intro l h; cases h)
  obtain ⟨ad, m, rfl, hm, hs⟩ := hF.toSl
  have hr := run_slice (isEl_eq he) (ad := ad) (n := l.length) (m := m) h1 h2 (by omega) (by omega) (by omega) w
  rw [hp, hq] at hr
  refine ⟨_, hr, AR.of_F tid (.ofSl ⟨_, m - p.toNat, by rw [piece_len _ _ _ (by omega)], by rw [piece_len _ _ _ (by omega)]; omega, ?_⟩)⟩
  rcases hs with rfl | ⟨b, off, vs, rfl, h6, h7, h8⟩
  ·simp
  ·by_cases hmp : m = p.toNat
   ·refine .inl (List.eq_nil_of_length_eq_zero ?_)
    rw [piece_len _ _ _ (by omega)]; omega
   ·refine .inr ⟨b, off + p.toNat * e.sz, (vs.take (q.toNat * e.sz)).drop (p.toNat * e.sz), by rw [if_neg hmp]; simp [Addr.add_at], (h6.take _).drop _, ?_, fun j hj => ?_⟩
    ·rw [encL_drop, encL_take]; exact (h7.take _).drop _
    ·simp at hj
     rw [Nat.add_assoc]; exact h8 _ (by omega)
 have view : ∀ (k ver : Nat) (e : El) (l : List e.T) (v : Value) (q p : Int), (isEl E e && σ.cur k ver) = true → AR tid c σ (.own k ver e l) v → loOf lo = p → hiOf l.length hi = q → 0 ≤ p → p ≤ q → q ≤ l.length →
   ∃ u, (Instr.sliceAt T v vl vh none).run P w = .ok u w ∧ AR tid c σ (.vw k ver e ((l.take q.toNat).drop p.toNat)) u := by
  intro k ver e l v q p he hx hp hq h3 h4 h5
  simp only [Bool.and_eq_true] at he
  obtain ⟨_, hv, hO⟩ := hx.to_A1 tid (by intro l h; cases h)
  have hlen := piece_len l p.toNat q.toNat (by omega)
  rcases (hO (cur_eq he.2)).cells with ⟨rfl, ad, rfl⟩ | ⟨b, m, vs, h6, rfl, hm, h7, h8⟩
  ·have hq0 : hiOf 0 hi = q := hq
   have h50 : q ≤ 0 := h5
   have hr := run_slice (isEl_eq he.1) (ad := ad) (n := 0) (m := 0) h1 h2 (by omega) (by omega) (by omega) w
   exact ⟨_, hr, hv, fun _ => .inl ⟨by simp, _, _, by
    have e1 : (loOf lo).toNat = 0 := by omega
    have e2 : (hiOf 0 hi).toNat = 0 := by omega
    rw [e1, e2]⟩⟩
  ·have hr := run_slice (isEl_eq he.1) (ad := some ⟨b, 0, none⟩) (n := l.length) (m := m) h1 h2 (by omega) (by omega) (by omega) w
   rw [hp, hq] at hr
   refine ⟨_, hr, hv, fun _ => ?_⟩
   by_cases hmp : m = p.toNat
   ·exact .inl ⟨List.eq_nil_of_length_eq_zero (by rw [hlen]; omega), _, _, by rw [show q.toNat - p.toNat = 0 by omega]⟩
   ·refine .inr ⟨b, 0 + p.toNat * e.sz, m - p.toNat, (vs.take (q.toNat * e.sz)).drop (p.toNat * e.sz), h6, by rw [hlen, if_neg hmp]; simp [Addr.add_at], by omega, (h7.take _).drop _, ?_⟩
    rw [encL_drop, encL_take]; exact (h8.take _).drop _
 cases x with
 | sl e l =>
  simp only [sliceK] at hK
  split at hK
  rotate_left
  ·cases hK
  rename_i he
  split at hK
  ·split at hK
   rotate_left
   ·cases hK
   split at hK
   rotate_left
   ·cases hK
   obtain ⟨u, h3, h4⟩ := stay e l v _ 0 he hx rfl rfl (by omega) ‹_› ‹_›
   exact ⟨_, u, hK, h3, by simpa [hiOf] using h4⟩
  ·split at hK
   rotate_left
   ·cases hK
   split at hK
   rotate_left
   ·cases hK
   obtain ⟨u, h3, h4⟩ := stay e l v l.length _ he hx rfl rfl ‹_› ‹_› (by omega)
   exact ⟨_, u, hK, h3, by simpa [loOf] using h4⟩
  ·split at hK
   rotate_left
   ·cases hK
   split at hK
   rotate_left
   ·cases hK
   split at hK
   rotate_left
   ·cases hK
   split at hK
   rotate_left
   ·cases hK
   obtain ⟨u, h3, h4⟩ := stay e l v _ _ he hx rfl rfl ‹_› ‹_› ‹_›
   exact ⟨_, u, hK, h3, by simpa [loOf, hiOf] using h4⟩
  ·cases hK
 | own k ver e l =>
  simp only [sliceK] at hK
  split at hK
  rotate_left
  ·cases hK
  rename_i he
  split at hK
  ·rename_i q
   split at hK
   rotate_left
   ·cases hK
   rename_i h3
   split at hK
   rotate_left
   ·cases hK
   rename_i h4
   simp only [Bool.and_eq_true] at he
   obtain ⟨_, hv, hO⟩ := hx.to_A1 tid (by intro l h; cases h)
   have hO := hO (cur_eq he.2)
   rcases hO with ⟨rfl, ad, rfl⟩ | ⟨b, vs, h6, h7, h8, h9⟩
   ·have hr := run_slice (isEl_eq he.1) (ad := ad) (n := 0) (m := 0) h1 h2 (by simp [loOf]) (by simp [loOf, hiOf]; omega) (by simp [hiOf]; simpa using h4) w
    have hq : q = 0 := by simp at h4; omega
    subst hq
    simp only [loOf, hiOf] at hr
    exact ⟨_, _, hK, by simpa using hr, ⟨_, _, _, rfl⟩, hv, fun _ => .inl ⟨by simp, _, rfl⟩⟩
   ·rcases h8.2 with ⟨rfl, _⟩ | ⟨g, cap, cur, rfl, hg, hh, hn, hcm, hcs, ht⟩
    ·simp [Value.ownBlock] at h7
    ·have hr := run_slice (isEl_eq he.1) (ad := some ⟨g, 0, none⟩) (n := l.length) (m := cap) h1 h2 (by simp [loOf]) (by simpa [loOf, hiOf] using h3) (by simp only [hiOf]; omega) w
     simp only [loOf, hiOf, Int.toNat_zero, Nat.sub_zero, Nat.zero_mul] at hr
     have hlt : (l.take q.toNat).length = q.toNat := by simp; omega
     refine ⟨_, _, hK, hr, ⟨_, _, _, rfl⟩, hv, fun _ => .inr ⟨b, vs.take (q.toNat * e.sz), h6, ?_, ⟨?_, .inr ⟨g, cap, cur, ?_, hg, hh, by rw [hlt]; omega, hcm, hcs, ?_⟩⟩, ?_⟩⟩
     ·rw [← h7]; split <;> simp [Value.ownBlock, Addr.add_at]
     ·rw [hlt, List.length_take, h8.1]
      exact Nat.min_eq_left (Nat.mul_le_mul_right _ (by omega))
     ·rw [hlt]; split <;> simp [Addr.add_at]
     ·rw [hlt, ← ht, List.take_take, Nat.min_eq_left (Nat.mul_le_mul_right _ (by omega))]
     ·rw [encL_take]; exact h9.take _
  ·split at hK
   rotate_left
   ·cases hK
   split at hK
   rotate_left
   ·cases hK
   obtain ⟨u, h3, h4⟩ := view k ver e l v l.length _ he hx rfl rfl ‹_› ‹_› (by omega)
   exact ⟨_, u, hK, h3, by simpa [loOf] using h4⟩
  ·split at hK
   rotate_left
   ·cases hK
   split at hK
   rotate_left
   ·cases hK
   split at hK
   rotate_left
   ·cases hK
   split at hK
   rotate_left
   ·cases hK
   obtain ⟨u, h3, h4⟩ := view k ver e l v _ _ he hx rfl rfl ‹_› ‹_› ‹_›
   exact ⟨_, u, hK, h3, by simpa [loOf, hiOf] using h4⟩
  ·cases hK
 | _ => simp [sliceK] at hK
end
end Go.AI
