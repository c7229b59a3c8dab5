/- DERIVED. THE EVALUATOR, THE READER, THE SCANNER: lemmas for Lossless. -/
import Derived.Test.YtoppjmglhddleaaProg
import Derived.Maps.AppendAt
import Derived.Laws.CopyRow
import Derived.Laws.Cells
import Derived.Laws.Rows
import Derived.Calls
import Derived.Orders
import Derived.Scope
set_option linter.unusedVariables false
set_option linter.unusedSimpArgs false
namespace Go
def Code.l1 : Code → Code | .seq a _ => a | .cond _ a _ => a | .block _ a => a | .loop a => a | .scope a => a | c => c
def Code.r1 : Code → Code | .seq _ b => b | .cond _ _ b => b | c => c
def Func.code (f : Func) : Code := match f.body with | some c => c | none => .skip
def Operand.hid (φ : Int → Int) : Operand → Operand | .const (.int .i64 n) => .const (.int .i64 (if 200 < n then φ n else n)) | x => x
def Op.hid (φ : Int → Int) : Op → Op | .binOp o T x y t => .binOp o T (x.hid φ) (y.hid φ) t | o => o
def Code.hid (φ : Int → Int) : Code → Code
 | .region i ops d => .region i ⟨ops.toList.map fun o => { o with op := o.op.hid φ }⟩ d
 | .seq a b => .seq (a.hid φ) (b.hid φ) | .cond c a b => .cond c (a.hid φ) (b.hid φ) | .block i a => .block i (a.hid φ) | .loop a => .loop (a.hid φ) | .scope a => .scope (a.hid φ) | c => c
def Func.hid (φ : Int → Int) (f : Func) : Func := { f with body := some (f.code.hid φ) }
end Go
namespace Go.AI
theorem qn : (∀ [Decidable True], decide True = true) ∧ (∀ [Decidable False], decide False = false) ∧ ((!true) = false) ∧ ((!false) = true) ∧ ((false = true) = False) ∧ (∀ p : Prop, (False ∨ p) = p) ∧ (∀ p : Prop, (p ∨ False) = p) ∧ (∀ p : Prop, (True ∨ p) = True) ∧ (∀ p : Prop, (p ∨ True) = True) := ⟨decide_true _, decide_false _, rfl, rfl, Bool.false_eq_true, false_or, or_false, true_or, or_true⟩
theorem qm : ((¬ True) = False) ∧ ((¬ False) = True) := ⟨not_true_eq_false, not_false_eq_true⟩
structure Tok where
 k : Int
 f : Int
 t : Int
 deriving DecidableEq, Inhabited
structure Diag where
 c : Int
 f : Int
 t : Int
 deriving DecidableEq, Inhabited
inductive Node where
 | mk (k f t : Int) (kids : List Node)
instance : Inhabited Node := ⟨.mk 0 0 0 []⟩
def Node.k : Node → Int | .mk k _ _ _ => k
def Node.f : Node → Int | .mk _ f _ _ => f
def Node.t : Node → Int | .mk _ _ t _ => t
def Node.kids : Node → List Node | .mk _ _ _ l => l
structure Made where
 n : Node
 h : Int
 deriving Inhabited
structure Ent where
 from_ : Int
 to_ : Int
 named : Bool
 deriving Inhabited
inductive El where
 | int | bool | tok | diag | node | made | ent | str | u8
 deriving DecidableEq
@[reducible] def El.T : El → Type
 | .int => Int | .bool => Bool | .tok => Tok | .diag => Diag | .node => Node | .made => Made | .ent => Ent | .str => ByteArray | .u8 => Int
def El.dflt : (e : El) → e.T
 | .int => (0 : Int) | .bool => false | .tok => ⟨0, 0, 0⟩ | .diag => ⟨0, 0, 0⟩ | .node => .mk 0 0 0 [] | .made => ⟨.mk 0 0 0 [], 0⟩ | .ent => ⟨0, 0, false⟩ | .str => ByteArray.empty | .u8 => (0 : Int)
def El.sz : El → Nat
 | .int => 1 | .bool => 1 | .tok => 3 | .diag => 3 | .node => 4 | .made => 5 | .ent => 3 | .str => 1 | .u8 => 1
inductive AV where
 | undef
 | skip                                           -- what an operation leaves that was not wanted
 | int (n : Int)
 | bool (b : Bool)
 | ik (k : IntKind) (n : Int)                     -- a number of another kind
 | str (s : ByteArray)
 | rdr (i : Nat)                                  -- a place in the state's struct
 | lbox (k i : Nat)                               -- a place in a variable of the frame's own
 | cbox (a : AV)                                  -- a variable that is never written
 | sl (e : El) (xs : List e.T)                    -- a list that stays
 | nil                                            -- an empty slice without room
 | own (k ver : Nat) (e : El) (xs : List e.T)     -- a list that may be appended to
 | vw (k ver : Nat) (e : El) (xs : List e.T)      -- a piece of such a one
 | spt (e : El) (x : e.T) (o : Nat)               -- a place in an element that stays
 | vpt (k ver : Nat) (e : El) (x : e.T) (o : Nat)  -- a place in an element of a piece
 | opt (k ver : Nat) (e : El) (x : e.T) (i : Int) (o : Nat)   -- a place in the i-th element of an owned list
 | clos (f : Nat) (fst cap : List AV)
 | agg (l : List AV)
 | tup (l : List AV)
 | new (l : List AV)                              -- a struct that was made, handed back
def El.enc : (e : El) → e.T → List AV
 | .int, x => [.int x]
 | .bool, x => [.bool x]
 | .tok, x => [.int x.k, .int x.f, .int x.t]
 | .diag, x => [.int x.c, .int x.f, .int x.t]
 | .node, x => [.int (Node.k x), .int (Node.f x), .int (Node.t x), .sl .node (Node.kids x)]
 | .made, x => [.int (Node.k x.n), .int (Node.f x.n), .int (Node.t x.n), .sl .node (Node.kids x.n), .int x.h]
 | .ent, x => [.int x.from_, .int x.to_, .bool x.named]
 | .str, x => [.str x]
 | .u8, x => [.ik .u8 x]
def decKids : AV → Option (List Node)
 | .sl .node l => some l
 | .nil => some []
 | _ => none
def decInt : List AV → Option Int | [.int x] => some x | _ => none
def decBool : List AV → Option Bool | [.bool x] => some x | _ => none
def decTok : List AV → Option Tok | [.int k, .int f, .int t] => some ⟨k, f, t⟩ | _ => none
def decDiag : List AV → Option Diag | [.int k, .int f, .int t] => some ⟨k, f, t⟩ | _ => none
def decNode : List AV → Option Node | [.int k, .int f, .int t, x] => (match decKids x with | some l => some (.mk k f t l) | none => none) | _ => none
def decMade : List AV → Option Made | [.int k, .int f, .int t, x, .int h] => (match decKids x with | some l => some ⟨.mk k f t l, h⟩ | none => none) | _ => none
def decEnt : List AV → Option Ent | [.int k, .int f, .bool t] => some ⟨k, f, t⟩ | _ => none
def decStr : List AV → Option ByteArray | [.str x] => some x | _ => none
def decU8 : List AV → Option Int | [.ik .u8 x] => some x | _ => none
def El.dec : (e : El) → List AV → Option e.T
 | .int => decInt | .bool => decBool | .tok => decTok | .diag => decDiag | .node => decNode | .made => decMade | .ent => decEnt | .str => decStr | .u8 => decU8
def El.eqb : El → El → Bool
 | .int, .int => true | .bool, .bool => true | .tok, .tok => true | .diag, .diag => true | .node, .node => true | .made, .made => true | .ent, .ent => true | .str, .str => true | .u8, .u8 => true
 | _, _ => false
def isEl (E : Option El) (e : El) : Bool := match E with | some e' => El.eqb e' e | none => false
def El.cast : (e e' : El) → List e'.T → Option (List e.T)
 | .int, .int, l => some l
 | .bool, .bool, l => some l
 | .tok, .tok, l => some l
 | .diag, .diag, l => some l
 | .node, .node, l => some l
 | .made, .made, l => some l
 | .ent, .ent, l => some l
 | .str, .str, l => some l
 | .u8, .u8, l => some l
 | _, _, _ => none
structure PS where
 l : List Tok
 sig : List Int
 next : Int
 read : Int
 row : List Made
 opn : Int
 dc : Int
 df : Int
 dt : Int
 failed : Bool
structure QS where
 l : List Tok
 at_ : Int
 row : List Node
 high : List Int
 opn : Int
 dc : Int
 df : Int
 dt : Int
 failed : Bool
inductive STy where
 | unit | prog | ref
 deriving DecidableEq
@[reducible] def STy.T : STy → Type
 | .unit => Unit | .prog => PS | .ref => QS
def STy.keys : STy → List Nat
 | .unit => [] | .prog => [1004] | .ref => [1002, 1003]
def STy.enc : (τ : STy) → Nat → τ.T → List AV
 | .unit, _, _ => []
 | .prog, v, p => [.sl .tok p.l, .sl .int p.sig, .int p.next, .int p.read, .own 1004 v .made p.row, .int p.opn, .int p.dc, .int p.df, .int p.dt, .bool p.failed]
 | .ref, v, p => [.sl .tok p.l, .int p.at_, .own 1002 v .node p.row, .own 1003 v .int p.high, .int p.opn, .int p.dc, .int p.df, .int p.dt, .bool p.failed]
def getV (v : List (Nat × Nat)) (k : Nat) : Nat :=
 match v with
 | [] => 0
 | (i, a) :: r => match Nat.beq i k with | true => a | false => getV r k
def asSl (e : El) : AV → Option (List e.T)
 | .sl e' l => El.cast e e' l
 | .nil => some []
 | _ => none
def asOwn (v : List (Nat × Nat)) (fr : List Nat) (q : Nat) (e : El) : AV → Option (List e.T)
 | .own k w e' l => match Nat.beq w (getV v k), fr.contains k, Nat.beq k q || Nat.blt k 1000 with | true, false, true => El.cast e e' l | _, _, _ => none
 | .nil => some []
 | _ => none
def keyOf : AV → Option Nat
 | .own k .. => some k
 | _ => none
def keysApart (a b : AV) : Bool := match keyOf a, keyOf b with | some k, some k' => !Nat.beq k k' | _, _ => true
def decPS (v : List (Nat × Nat)) (fr : List Nat) : List AV → Option PS
 | [a0, a1, .int a2, .int a3, a4, .int a5, .int a6, .int a7, .int a8, .bool a9] =>
  match asSl .tok a0, asSl .int a1, asOwn v fr 1004 .made a4 with
  | some l, some sig, some row => some ⟨l, sig, a2, a3, row, a5, a6, a7, a8, a9⟩
  | _, _, _ => none
 | _ => none
def decQS (v : List (Nat × Nat)) (fr : List Nat) : List AV → Option QS
 | [a0, .int a1, a2, a3, .int a4, .int a5, .int a6, .int a7, .bool a8] =>
  match asSl .tok a0, asOwn v fr 1002 .node a2, asOwn v fr 1003 .int a3, keysApart a2 a3 with
  | some l, some row, some high, true => some ⟨l, a1, row, high, a4, a5, a6, a7, a8⟩
  | _, _, _, _ => none
 | _ => none
def decU : List AV → Option Unit
 | [] => some ()
 | _ => none
def STy.dec (v : List (Nat × Nat)) (fr : List Nat) : (τ : STy) → List AV → Option τ.T
 | .unit => decU
 | .prog => decPS v fr
 | .ref => decQS v fr
inductive Sh where
 | u | i | b | str
 | e (x : El)
 | s (x : El)
 | n (τ : STy)
 | t2 (x y : Sh)
 | t3 (x y z : Sh)
@[reducible] def Sh.T : Sh → Type
 | .u => Unit | .i => Int | .b => Bool | .str => ByteArray | .e x => x.T | .s x => List x.T | .n τ => τ.T
 | .t2 x y => x.T × y.T | .t3 x y z => x.T × y.T × z.T
def Sh.enc : (h : Sh) → h.T → AV
 | .u, _ => .undef | .i, x => .int x | .b, x => .bool x | .str, x => .str x | .e x, y => .agg (x.enc y) | .s x, l => .sl x l | .n τ, p => .new (τ.enc 0 p)
 | .t2 x y, p => .tup [x.enc p.1, y.enc p.2]
 | .t3 x y z, p => .tup [x.enc p.1, y.enc p.2.1, z.enc p.2.2]
def asInt : AV → Option Int | .int x => some x | _ => none
def asBoo : AV → Option Bool | .bool x => some x | _ => none
def asStr : AV → Option ByteArray | .str x => some x | _ => none
def asAgL : AV → Option (List AV) | .agg l => some l | _ => none
def asNew : AV → Option (List AV) | .new l => some l | _ => none
def asT2 : AV → Option (AV × AV) | .tup [a, c] => some (a, c) | _ => none
def asT3 : AV → Option (AV × AV × AV) | .tup [a, c, d] => some (a, c, d) | _ => none
def Sh.dec : (h : Sh) → AV → Option h.T
 | .u, _ => some ()
 | .i, a => asInt a
 | .b, a => asBoo a
 | .str, a => asStr a
 | .e x, a => match asAgL a with | some l => x.dec l | none => none
 | .s x, a => asSl x a
 | .n τ, a => match asNew a with | some l => τ.dec [] [] l | none => none
 | .t2 x y, p => match asT2 p with | some (a, c) => (match x.dec a, y.dec c with | some p, some q => some (p, q) | _, _ => none) | none => none
 | .t3 x y z, p => match asT3 p with | some (a, c, d) => (match x.dec a, y.dec c, z.dec d with | some p, some q, some r => some (p, q, r) | _, _, _ => none) | none => none
structure Ty where
 agg : Bool
 zero : List AV
 offs : List Nat := []
 szs : List Nat := []
 ftys : List Nat := []
 el : Option El := none
structure Mask where
 t : List Nat := []                      -- the temporaries that are kept
 own : List (Nat × Nat × El) := []       -- those that are lists, their keys, their kinds
 fz : List Nat := []                     -- those that are lists that stay from here on
 b : List (Nat × List (Nat × Nat × El)) := []    -- the variables that are kept; their cells that are lists
structure FnI where
 fn : Func
 masks : List (Nat × Mask)
def FnI.mask (fi : FnI) (i : Nat) : Mask := match fi.masks.find? fun x => Nat.beq x.1 i with | some x => x.2 | none => {}
inductive Cv where
 | ik (k : IntKind) | str | bytes
structure Tab where
 tid : El → Nat
 tys : List (Nat × Ty)
 shs : List (Nat × Sh)
 stys : List (Nat × STy)
 cvs : List (Nat × Cv) := []
 eqs : List (Nat × Bool) := []           -- what is compared as a whole: structs of three numbers; booleans
def findN {α : Type} (l : List (Nat × α)) (k : Nat) : Option α :=
 match l with
 | [] => none
 | (i, a) :: r => match Nat.beq i k with | true => some a | false => findN r k
def Tab.ty (t : Tab) (k : Nat) : Option Ty := findN t.tys k
def Tab.elOf (t : Tab) (k : Nat) : Option El := match t.ty k with | some ty => ty.el | none => none
def Tab.sh (t : Tab) (k : Nat) : Sh := match findN t.shs k with | some h => h | none => .u
def Tab.sty (t : Tab) (k : Nat) : STy := match findN t.stys k with | some h => h | none => .unit
structure St where
 t : List (Nat × AV)
 b : List (Nat × List AV)
 s : List AV
 v : List (Nat × Nat)
 c : Nat
 fr : List Nat                           -- the owned lists that stay as they are
def getT (t : List (Nat × AV)) (k : Nat) : AV :=
 match t with
 | [] => .undef
 | (i, a) :: r => match Nat.beq i k with | true => a | false => getT r k
def getB (t : List (Nat × List AV)) (k : Nat) : List AV :=
 match t with
 | [] => []
 | (i, a) :: r => match Nat.beq i k with | true => a | false => getB r k
def St.put (σ : St) (d : Option Nat) (a : AV) : St :=
 match d with
 | some d => { σ with t := (d, a) :: σ.t }
 | none => σ
def St.bump (σ : St) (k : Nat) : St := { σ with v := (k, σ.c + 1) :: σ.v, c := σ.c + 1 }
def St.cur (σ : St) (k ver : Nat) : Bool := Nat.beq ver (getV σ.v k)
def St.fresh (σ : St) (k : Nat) : St := { σ with v := (k, σ.c + 1) :: σ.v, c := σ.c + 1, fr := σ.fr.filter fun x => !Nat.beq x k }
def St.fro (σ : St) (k : Nat) : Bool := σ.fr.contains k
def ofConst : Value → AV
 | .int .i64 n => .int n
 | .int k n => .ik k n
 | .string s => .str s
 | .bool b => .bool b
 | .slice none 0 0 => .nil
 | .agg cs => .agg (cs.toList.map fun | .int .i64 n => .int n | .bool b => .bool b | .slice none 0 0 => .nil | _ => .undef)
 | _ => .undef
def getO (t : List (Nat × AV)) : Operand → AV
 | .tmp i => getT t i
 | .const v => ofConst v
 | .func f => .clos f [] []
 | .global _ => .undef
def AV.cells : AV → List AV
 | .agg l => l
 | a => [a]
def AV.one : AV → Bool
 | .int _ | .bool _ | .ik .. | .str _ | .rdr _ | .cbox _ | .sl .. | .nil | .clos .. | .spt .. => true
 | _ => false
def AV.fz1 : AV → Bool
 | .undef | .skip => true
 | a => a.one
def AV.fz : AV → Bool
 | .agg l => l.all AV.one
 | a => a.fz1
def AV.cell : AV → Bool
 | .own .. => true
 | a => a.one
def writeL (c : List AV) (i : Nat) (l : List AV) : List AV := c.take i ++ (l ++ c.drop (i + l.length))
def addPt : AV → Nat → Option AV
 | .rdr i, n => some (.rdr (i + n))
 | .lbox k i, n => some (.lbox k (i + n))
 | .cbox a, 0 => some (.cbox a)
 | .spt e x o, n => some (.spt e x (o + n))
 | .vpt k w e x o, n => some (.vpt k w e x (o + n))
 | .opt k w e x i o, n => some (.opt k w e x i (o + n))
 | _, _ => none
def readAt (ty : Ty) (c : List AV) (i : Nat) : Option AV :=
 match Nat.ble (i + ty.zero.length) c.length with
 | true => if ty.agg then some (.agg ((c.drop i).take ty.zero.length)) else some (c.getD i .undef)
 | false => none
def loadAV (σ : St) (ty : Ty) : AV → Option AV
 | .rdr i => readAt ty σ.s i
 | .lbox k i => readAt ty (getB σ.b k) i
 | .cbox a => if ty.agg then none else some a
 | .spt e x o => readAt ty (e.enc x) o
 | .vpt k w e x o => match σ.cur k w with | true => readAt ty (e.enc x) o | false => none
 | .opt k w e x _ o => match σ.cur k w with | true => readAt ty (e.enc x) o | false => none
 | _ => none
def setEl1 (k w : Nat) (e : El) (i : Nat) (x : e.T) : AV → AV
 | .own k' w' e' l =>
  match Nat.beq k' k, Nat.beq w' w with
  | true, true => match El.cast e' e [x] with | some [x] => .own k' w' e' (l.set i x) | _ => .undef
  | true, false => .undef
  | _, _ => .own k' w' e' l
 | .vw k' w' e' l => match Nat.beq k' k with | true => .undef | false => .vw k' w' e' l
 | .vpt k' w' e' y o => match Nat.beq k' k with | true => .undef | false => .vpt k' w' e' y o
 | .opt k' w' e' y j o => match Nat.beq k' k with | true => .undef | false => .opt k' w' e' y j o
 | a => a
def setEl (k w : Nat) (e : El) (i : Nat) (x : e.T) : AV → AV
 | .agg l => .agg (l.map (setEl1 k w e i x))
 | a => setEl1 k w e i x a
def storeAV (σ : St) (ty : Ty) (p x : AV) : Option St :=
 match Nat.beq x.cells.length ty.zero.length, x.cells.all AV.cell with
 | true, true =>
  match p with
  | .rdr i => match Nat.ble (i + ty.zero.length) σ.s.length with | true => some { σ with s := writeL σ.s i x.cells } | false => none
  | .lbox k i => match Nat.ble (i + ty.zero.length) (getB σ.b k).length with | true => some { σ with b := (k, writeL (getB σ.b k) i x.cells) :: σ.b } | false => none
  | .opt k w e y i o =>
   match σ.cur k w, σ.fro k, Nat.ble (o + ty.zero.length) (e.enc y).length, x.cells.all AV.one with
   | true, false, true, true =>
    match e.dec (writeL (e.enc y) o x.cells) with
    | some z => some { σ with t := σ.t.map (fun p => (p.1, setEl k w e i.toNat z p.2)), b := σ.b.map (fun p => (p.1, p.2.map (setEl1 k w e i.toNat z))), s := σ.s.map (setEl1 k w e i.toNat z) }
    | none => none
   | _, _, _, _ => none
  | _ => none
 | _, _ => none
def freeze1 (σ : St) : AV → Option (AV × St)
 | .own k ver e l => match σ.cur k ver, Nat.ble 1000 k with | true, false => some (.sl e l, { σ with fr := k :: σ.fr }) | _, _ => none
 | a => match a.fz1 with | true => some (a, σ) | false => none
def freezeC (σ : St) (a : AV) : Option (AV × St) := match a.cell with | true => freeze1 σ a | false => none
def freezeL : List AV → St → Option (List AV × St)
 | [], σ => some ([], σ)
 | a :: r, σ =>
  match freezeC σ a with
  | some (a', σ') => match freezeL r σ' with | some (r', σ'') => some (a' :: r', σ'') | none => none
  | none => none
def freeze (σ : St) : AV → Option (AV × St)
 | .agg l => match freezeL l σ with | some (l', σ') => some (.agg l', σ') | none => none
 | a => freeze1 σ a
def freezeAll : List AV → St → Option (List AV × St)
 | [], σ => some ([], σ)
 | a :: r, σ =>
  match freeze σ a with
  | some (a', σ') => match freezeAll r σ' with | some (r', σ'') => some (a' :: r', σ'') | none => none
  | none => none
def decAll (e : El) : List AV → Option (List e.T)
 | [] => some []
 | a :: r => match e.dec a.cells, decAll e r with | some x, some l => some (x :: l) | _, _ => none
def dense : List (Nat × Operand) → Nat → Bool
 | [], _ => true
 | (j, _) :: r, i => match Nat.beq i j with | true => dense r (i + 1) | false => false
def fillAll (offs szs : List Nat) : List (Nat × AV) → List AV → Option (List AV)
 | [], c => some c
 | (i, a) :: r, c =>
  match offs[i]?, szs[i]? with
  | some o, some n =>
   match Nat.ble (o + n) c.length, Nat.beq a.cells.length n, a.cells.all AV.cell with
   | true, true, true => fillAll offs szs r (writeL c o a.cells)
   | _, _, _ => none
  | _, _ => none
def maxRow : Nat := 4294967296
section
variable {R : Type} (tab : Tab) (call : (τ : STy) → Nat → List AV → τ.T → Option (AV × τ.T)) (τ : STy)
def idxK (E : Option El) (σ : St) (x : AV) (i : Int) (K : AV → Option R) : Option R :=
 match x with
 | .sl e l => match isEl E e with | true => if 0 ≤ i then if i < (l.length : Int) then K (.spt e (l.getD i.toNat e.dflt) 0) else none else none | false => none
 | .own k w e l => match isEl E e && σ.cur k w with | true => if 0 ≤ i then if i < (l.length : Int) then K (.opt k w e (l.getD i.toNat e.dflt) i 0) else none else none | false => none
 | .vw k w e l => match isEl E e && σ.cur k w with | true => if 0 ≤ i then if i < (l.length : Int) then K (.vpt k w e (l.getD i.toNat e.dflt) 0) else none else none | false => none
 | _ => none
def lenK (E : Option El) (σ : St) (x : AV) (K : AV → Option R) : Option R :=
 match E with
 | none => none
 | some _ =>
  match x with
  | .sl _ l => K (.int l.length)
  | .nil => K (.int 0)
  | .own k w _ l => match σ.cur k w with | true => K (.int l.length) | false => none
  | .vw k w _ l => match σ.cur k w with | true => K (.int l.length) | false => none
  | _ => none
def rows (σ : St) : AV → Option ((e : El) × List e.T)
 | .sl e l => some ⟨e, l⟩
 | .own k w e l => match σ.cur k w with | true => some ⟨e, l⟩ | false => none
 | .vw k w e l => match σ.cur k w with | true => some ⟨e, l⟩ | false => none
 | _ => none
def appendK (E : Option El) (σ : St) (d : Nat) (x y : AV) (K : St → Option R) : Option R :=
 match E with
 | none => none
 | some e0 =>
  match x with
  | .own k w e l =>
   match El.eqb e0 e && (σ.cur k w && !σ.fro k) with
   | true =>
    match y with
    | .nil => let σ' := σ.bump k; K (σ'.put (some d) (.own k σ'.c e l))
    | y =>
     match rows σ y with
     | some ⟨e', m⟩ =>
      match El.cast e e' m with
      | some m => if l.length + m.length < maxRow then (let σ' := σ.bump k; K (σ'.put (some d) (.own k σ'.c e (l ++ m)))) else none
      | none => none
     | none => none
   | false => none
  | .nil =>
   match y with
   | .nil => K (σ.put (some d) .nil)
   | y =>
    match rows σ y with
    | some ⟨e', m⟩ =>
     match El.eqb e0 e' with
     | true => if m.length < maxRow then (let σ' := σ.fresh d; K (σ'.put (some d) (.own d σ'.c e' m))) else none
     | false => none
    | none => none
  | _ => none
def sliceK (E : Option El) (σ : St) (x : AV) (lo hi : Option AV) (K : AV → Option R) : Option R :=
 match x with
 | .sl e l =>
  match isEl E e with
  | true =>
   match lo, hi with
   | none, some (.int h) => if 0 ≤ h then if h ≤ (l.length : Int) then K (.sl e (l.take h.toNat)) else none else none
   | some (.int a), none => if 0 ≤ a then if a ≤ (l.length : Int) then K (.sl e (l.drop a.toNat)) else none else none
   | some (.int a), some (.int h) => if 0 ≤ h then if h ≤ (l.length : Int) then if 0 ≤ a then if a ≤ h then K (.sl e ((l.take h.toNat).drop a.toNat)) else none else none else none else none
   | _, _ => none
  | false => none
 | .own k w e l =>
  match isEl E e && σ.cur k w with
  | true =>
   match lo, hi with
   | none, some (.int h) => if 0 ≤ h then if h ≤ (l.length : Int) then K (.own k w e (l.take h.toNat)) else none else none
   | some (.int a), none => if 0 ≤ a then if a ≤ (l.length : Int) then K (.vw k w e (l.drop a.toNat)) else none else none
   | some (.int a), some (.int h) => if 0 ≤ h then if h ≤ (l.length : Int) then if 0 ≤ a then if a ≤ h then K (.vw k w e ((l.take h.toNat).drop a.toNat)) else none else none else none else none
   | _, _ => none
  | false => none
 | _ => none
def binAV (op : BinOp) : AV → AV → Option AV
 | .int x, .int y =>
  match op with
  | .add => some (.int (IntKind.i64.wrap (x + y)))
  | .sub => some (.int (IntKind.i64.wrap (x - y)))
  | .eql => some (.bool (decide (x = y)))
  | .neq => some (.bool (decide (x ≠ y)))
  | .lss => some (.bool (decide (x < y)))
  | .leq => some (.bool (decide (x ≤ y)))
  | .gtr => some (.bool (decide (x > y)))
  | .geq => some (.bool (decide (x ≥ y)))
  | _ => none
 | _, _ => none
inductive GV where
 | sure (a : AV) | may (g : Bool) (a : AV) | no
def eqAV (op : BinOp) (b : Bool) : Option AV := match op with | .eql => some (.bool b) | .neq => some (.bool (!b)) | _ => none
def bt (s : ByteArray) (n : Int) : Int := ((s[n.toNat]?.getD 0).toNat : Int)
def mkI (k : IntKind) (n : Int) : AV := match k with | .i64 => .int n | k => .ik k n
def idxG (T : Nat) : AV → AV → GV
 | .str s, .int n => match findN tab.cvs T with | some .str => .may (decide (0 ≤ n) && decide (n < (s.size : Int))) (.ik .u8 (bt s n)) | _ => .no
 | _, _ => .no
def strOfL (l : List Int) : ByteArray := ⟨(l.map fun n => UInt8.ofNat n.toNat).toArray⟩
def cvAV (S D : Nat) : AV → Option AV
 | .int n => match findN tab.cvs S, findN tab.cvs D with | some (.ik _), some (.ik k) => some (mkI k (k.wrap n)) | _, _ => none
 | .ik _ n => match findN tab.cvs S, findN tab.cvs D with | some (.ik _), some (.ik k) => some (mkI k (k.wrap n)) | _, _ => none
 | .sl .u8 l => match findN tab.cvs S, findN tab.cvs D with | some .bytes, some .str => some (.str (strOfL l)) | _, _ => none
 | _ => none
def cutG (T : Nat) (x : AV) (lo hi : Option AV) : GV :=
 match x with
 | .str s =>
  match findN tab.cvs T with
  | some .str =>
   match lo, hi with
   | none, some (.int h) => .may (decide (0 ≤ h) && decide (h ≤ (s.size : Int))) (.str (s.extract 0 h.toNat))
   | some (.int a), none => .may (decide (0 ≤ a) && decide (a ≤ (s.size : Int))) (.str (s.extract a.toNat s.size))
   | some (.int a), some (.int h) => .may (decide (0 ≤ a) && (decide (a ≤ h) && decide (h ≤ (s.size : Int)))) (.str (s.extract a.toNat h.toNat))
   | _, _ => .no
  | _ => .no
 | _ => .no
def gK (o : GV) (K : AV → Option R) : Option R := match o with | .sure a => K a | .may g a => if g then K a else none | .no => none
def sliceT (T : Nat) (σ : St) (x : AV) (lo hi : Option AV) (K : AV → Option R) : Option R :=
 match cutG tab T x lo hi with
 | .may g a => gK (.may g a) K
 | _ => sliceK (tab.elOf T) σ x lo hi K
def cmpAV (op : BinOp) (x y : Int) : Option AV :=
 match op with
 | .eql => some (.bool (decide (x = y)))
 | .neq => some (.bool (decide (x ≠ y)))
 | .lss => some (.bool (decide (x < y)))
 | .leq => some (.bool (decide (x ≤ y)))
 | .gtr => some (.bool (decide (x > y)))
 | .geq => some (.bool (decide (x ≥ y)))
 | _ => none
def andI (k : IntKind) (x y : Int) : Int := k.wrap ((BitVec.ofInt k.bits x &&& BitVec.ofInt k.bits y).toNat : Int)
def orI (k : IntKind) (x y : Int) : Int := k.wrap ((BitVec.ofInt k.bits x ||| BitVec.ofInt k.bits y).toNat : Int)
def shlI (k : IntKind) (x y : Int) : Int := k.wrap (x * 2 ^ min y.toNat k.bits)
def shrI (k : IntKind) (x y : Int) : Int := x.fdiv (2 ^ min y.toNat k.bits)
def arI (op : BinOp) (k : IntKind) (x y : Int) : Option Int :=
 match op with
 | .add => some (k.wrap (x + y))
 | .sub => some (k.wrap (x - y))
 | .mul => some (k.wrap (x * y))
 | .and => some (andI k x y)
 | .or => some (orI k x y)
 | _ => none
def ikAV (op : BinOp) (k : IntKind) (x y : Int) : Option AV := match arI op k x y with | some z => some (.ik k z) | none => cmpAV op x y
def i64AV (op : BinOp) (x y : Int) : Option AV :=
 match op with
 | .mul => some (.int (IntKind.i64.wrap (x * y)))
 | .and => some (.int (andI .i64 x y))
 | .or => some (.int (orI .i64 x y))
 | op => binAV op (.int x) (.int y)
def strAV (op : BinOp) (x y : ByteArray) : Option AV :=
 match op with
 | .eql => some (.bool (x.toList == y.toList))
 | .neq => some (.bool (!(x.toList == y.toList)))
 | _ => none
def binT (op : BinOp) (T : Nat) : AV → AV → Option AV
 | .int x, .int y => i64AV op x y
 | .ik k x, .ik k' y => if k = k' then ikAV op k x y else none
 | .str x, .str y => strAV op x y
 | .bool x, .bool y => match findN tab.eqs T with | some false => eqAV op (x == y) | _ => none
 | .agg l, .agg m =>
  match findN tab.eqs T, decTok l, decTok m with
  | some true, some x, some y => eqAV op (decide (x = y))
  | _, _, _ => none
 | _, _ => none
def shG (op : BinOp) (x y : Int) : GV := match op with | .shl => .may (decide (0 ≤ y)) (.int (shlI .i64 x y)) | .shr => .may (decide (0 ≤ y)) (.int (shrI .i64 x y)) | _ => .no
def binP (op : BinOp) : AV → AV → GV
 | .int x, .int y => shG op x y
 | .int x, .ik _ y => shG op x y
 | .str x, .str y => match op with | .add => .may (decide (x.size + y.size < 1099511627776)) (.str (x ++ y)) | _ => .no
 | _, _ => .no
def binG (op : BinOp) (T : Nat) (x y : AV) : GV := match binP op x y with | .may g a => .may g a | _ => match binT tab op T x y with | some a => .sure a | none => .no
def gotK (σ : St) (d : Option Nat) (h : Sh) (x : h.T) (K : St → Option R) : Option R :=
 match h, d, x with
 | .n τ', some d, x => match (getB σ.b d), τ'.enc 0 x with | [], y :: l => K ({ σ with b := (d, y :: l) :: σ.b }.put (some d) (.lbox d 0)) | _, _ => none
 | h, d, x => K (σ.put d (h.enc x))
def shaped (h : Sh) {P : Type} (o : Option (AV × P)) : Option (h.T × P) :=
 o.bind fun (a, p) => (h.dec a).map fun x => (x, p)
def ownKeys (l : List AV) : List Nat := l.filterMap fun | .own k .. => some k | _ => none
def St.back (σ : St) (p : τ.T) : St :=
 { σ with s := τ.enc (σ.c + 1) p, v := ((τ.keys ++ ownKeys σ.s).map fun k => (k, σ.c + 1)) ++ σ.v, c := σ.c + 1, fr := σ.fr.filter fun k => !τ.keys.contains k }
def St.lent (σ : St) (τ' : STy) (k : Nat) (p : τ'.T) : St :=
 { σ with b := (k, τ'.enc (σ.c + 1) p) :: σ.b, v := ((τ'.keys ++ ownKeys (getB σ.b k)).map fun k => (k, σ.c + 1)) ++ σ.v, c := σ.c + 1, fr := σ.fr.filter fun k => !τ'.keys.contains k }
def AV.plain : AV → Bool
 | .undef | .skip | .int _ | .bool _ | .ik .. | .str _ | .sl .. | .nil => true
 | _ => false
def AV.plainA : AV → Bool
 | .agg l => l.all AV.plain
 | a => a.plain
def callK (σ : St) (o : Oper) (f : Nat) (fst args cap : List AV) (static : Bool) (K : St → Option R) : Option R :=
 match freezeAll args σ with
 | none =>
  -- a variable of the frame's own is lent as the callee's state
  match τ, args, static with
  | .unit, .lbox k 0 :: rest, true =>
   match freezeAll rest σ with
   | some (rest', σ1) =>
    match rest'.all AV.plainA, (tab.sty f).dec σ1.v σ1.fr (getB σ1.b k) with
    | true, some p =>
     (shaped (tab.sh o.type) (call (tab.sty f) f (.rdr 0 :: rest') p)).bind fun r =>
      gotK (σ1.lent (tab.sty f) k r.2) o.dst (tab.sh o.type) r.1 K
    | _, _ => none
   | none => none
  | _, _, _ => none
 | some (args', σ1) =>
  match (if static then tab.sty f else τ) with
  | .unit => (shaped (tab.sh o.type) (call .unit f (fst ++ (args' ++ cap)) ())).bind fun r => gotK σ1 o.dst (tab.sh o.type) r.1 K
  | τ' =>
   if τ' = τ then
    match τ.dec σ1.v σ1.fr σ1.s with
    | some p => (shaped (tab.sh o.type) (call τ f (fst ++ (args' ++ cap)) p)).bind fun r => gotK (St.back τ σ1 r.2) o.dst (tab.sh o.type) r.1 K
    | none => none
   else none
def optO (t : List (Nat × AV)) : Option Operand → Option AV
 | none => none
 | some x => some (getO t x)
def strLen (T : Nat) : AV → Option Int
 | .str s => match findN tab.cvs T with | some .str => some (s.size : Int) | _ => none
 | _ => none
def lenT (T : Nat) (σ : St) (x : AV) (K : AV → Option R) : Option R := match strLen tab T x with | some n => K (.int n) | none => lenK (tab.elOf T) σ x K
def stepBuiltin (o : Oper) (b : Builtin) (args : List Operand) (ts : List Nat) (σ : St) (K : St → Option R) : Option R :=
 match b with
 | .len => match args, ts with | [x], [T] => lenT tab T σ (getO σ.t x) fun a => K (σ.put o.dst a) | _, _ => none
 | .append => match args, ts, o.dst with | [x, y], [T, T'], some d => (match Nat.beq T T' with | true => appendK (tab.elOf T) σ d (getO σ.t x) (getO σ.t y) K | false => none) | _, _, _ => none
 | .max => match args with | [x, y] => (match getO σ.t x, getO σ.t y with | .int a, .int b => K (σ.put o.dst (.int (max a b))) | _, _ => none) | _ => none
 | .min => match args with | [x, y] => (match getO σ.t x, getO σ.t y with | .int a, .int b => K (σ.put o.dst (.int (min a b))) | _, _ => none) | _ => none
 | _ => none
def stepCall (o : Oper) (f : Operand) (args : List Operand) (σ : St) (K : St → Option R) : Option R :=
 match f with
 | .func f => callK tab call τ σ o f [] (args.map (getO σ.t)) [] true K
 | x =>
  match getO σ.t x with
  | .clos f fst cap => callK tab call τ σ o f fst (args.map (getO σ.t)) cap false K
  | _ => none
def stepOp (o : Oper) (σ : St) (K : St → Option R) : Option R :=
 match o.op with
 | .move x | .assign x => K (σ.put o.dst (getO σ.t x))
 | .pick c a b =>
  match getO σ.t c with
  | .bool x => if x then K (σ.put o.dst (getO σ.t a)) else K (σ.put o.dst (getO σ.t b))
  | _ => none
 | .alloc T =>
  match o.dst with
  | some d => match getB σ.b d, tab.ty T with | [], some ty => K ({ σ with b := (d, ty.zero) :: σ.b }.put (some d) (.lbox d 0)) | _, _ => none
  | none => none
 | .box T x =>
  match o.dst, tab.ty T with
  | some d, some ty =>
   match ty.agg with
   | true =>
    match getB σ.b d, Nat.beq (getO σ.t x).cells.length ty.zero.length, (getO σ.t x).cells.all AV.cell with
    | [], true, true => K ({ σ with b := (d, (getO σ.t x).cells) :: σ.b }.put (some d) (.lbox d 0))
    | _, _, _ => none
   | false => match (getO σ.t x).one with | true => K (σ.put (some d) (.cbox (getO σ.t x))) | false => none
  | _, _ => none
 | .build T parts =>
  match tab.ty T with
  | some ty => match ty.offs.isEmpty, fillAll ty.offs ty.szs (parts.toList.map fun p => (p.1, getO σ.t p.2)) ty.zero with | false, some c => K (σ.put o.dst (.agg c)) | _, _ => none
  | none => none
 | .buildSlice T n parts =>
  match n with
  | 0 => match tab.elOf T, parts.toList with | some _, [] => K (σ.put o.dst .nil) | _, _ => none
  | n =>
   match tab.elOf T, freezeAll (parts.toList.map fun p => getO σ.t p.2) σ, dense parts.toList 0 && (Nat.beq parts.toList.length n && Nat.ble n 4096) with
   | some e, some (l, σ1), true => match decAll e l with | some xs => K (σ1.put o.dst (.sl e xs)) | none => none
   | _, _, _ => none
 | .load T p => match tab.ty T with | some ty => (match loadAV σ ty (getO σ.t p) with | some a => K (σ.put o.dst a) | none => none) | none => none
 | .store T p x => match tab.ty T with | some ty => (match storeAV σ ty (getO σ.t p) (getO σ.t x) with | some σ' => K σ' | none => none) | none => none
 | .nilCheck x => match addPt (getO σ.t x) 0 with | some a => K (σ.put o.dst a) | none => none
 | .binOp op T x y _ => gK (binG tab op T (getO σ.t x) (getO σ.t y)) fun a => K (σ.put o.dst a)
 | .unOp .not _ x => match getO σ.t x with | .bool b => K (σ.put o.dst (.bool (!b))) | _ => none
 | .makeFunc (.func f) fst cap =>
  match (fst.toList.map (getO σ.t)).all AV.one, (cap.toList.map (getO σ.t)).all AV.one with
  | true, true => K (σ.put o.dst (.clos f (fst.toList.map (getO σ.t)) (cap.toList.map (getO σ.t))))
  | _, _ => none
 | .slice T x lo hi none => sliceT tab T σ (getO σ.t x) (optO σ.t lo) (optO σ.t hi) fun a => K (σ.put o.dst a)
 | .fieldAddr T x f =>
  match tab.ty T with
  | some ty => match ty.offs[f]? with | some n => (match addPt (getO σ.t x) n with | some a => K (σ.put o.dst a) | none => none) | none => none
  | none => none
 | .indexAddr T x i => match getO σ.t i with | .int n => idxK (tab.elOf T) σ (getO σ.t x) n fun a => K (σ.put o.dst a) | _ => none
 | .field T x f =>
  match tab.ty T, getO σ.t x, tab.ty o.type with
  | some ty, .agg l, some ty' =>
   match ty.offs[f]?, ty.ftys[f]? with
   | some n, some q => match Nat.beq q o.type, readAt ty' l n with | true, some a => K (σ.put o.dst a) | _, _ => none
   | _, _ => none
  | _, _, _ => none
 | .index T x i => gK (idxG tab T (getO σ.t x) (getO σ.t i)) fun a => K (σ.put o.dst a)
 | .convert S D x => match cvAV tab S D (getO σ.t x) with | some a => K (σ.put o.dst a) | none => none
 | .extract x i => match getO σ.t x with | .tup l => (match l[i]? with | some a => K (σ.put o.dst a) | none => none) | _ => none
 | .call cl =>
  match cl.callee with
  | .builtin b => stepBuiltin tab o b cl.args.toList cl.argTypes.toList σ K
  | .value f => stepCall tab call τ o f cl.args.toList σ K
  | .invoke .. => none
 | _ => none
def dstAt (all : List Oper) (j : Nat) : Option Nat :=
 match all with
 | [] => none
 | o :: r => match j with | 0 => o.dst | j + 1 => dstAt r j
def runOps (all : List Oper) : List Oper → St → (St → Option R) → Option R
 | [], σ, K => K σ
 | o :: rest, σ, K =>
  match o.guard with
  | none => stepOp tab call τ o σ fun σ' => runOps all rest σ' K
  | some (j, w) =>
   match dstAt all j with
   | some d =>
    match getT σ.t d with
    | .bool x =>
     if x then
      match w with
      | true => stepOp tab call τ o (σ.put (some d) (.bool true)) fun σ' => runOps all rest σ' K
      | false => runOps all rest ((σ.put (some d) (.bool true)).put o.dst .skip) K
     else
      match w with
      | false => stepOp tab call τ o (σ.put (some d) (.bool false)) fun σ' => runOps all rest σ' K
      | true => runOps all rest ((σ.put (some d) (.bool false)).put o.dst .skip) K
    | .skip => runOps all rest (σ.put o.dst .skip) K
    | _ => none
   | none => none
inductive Acc where
 | none_                      -- what it is handed, alone
 | plc                        -- a place in the state's struct, out of one
 | rdB (k : Nat) | rdF (i n : Nat) | rdK (k : Nat)
 | al (k : Nat)
 | wrB (k : Nat) | wrF (i n : Nat)
 | wrE (k : Nat)
 | frz
 | call
 | big
def accLst : AV → Acc
 | .own k .. => .rdK k
 | .vw k .. => .rdK k
 | _ => .none_
def accOf (σ : St) (o : Oper) : Acc :=
 match o.op with
 | .move _ | .assign _ | .pick .. | .build .. | .binOp .. | .unOp .. | .makeFunc .. | .field .. | .extract .. | .index .. | .convert .. => .none_
 | .nilCheck x => match getO σ.t x with | .rdr _ => .plc | _ => .none_
 | .fieldAddr _ x _ => match getO σ.t x with | .rdr _ => .plc | _ => .none_
 | .load T p =>
  match getO σ.t p with
  | .lbox k _ => .rdB k
  | .rdr i => match tab.ty T with | some ty => .rdF i ty.zero.length | none => .big
  | .cbox _ => .none_
  | .spt .. => .none_
  | .vpt k .. => .rdK k
  | .opt k .. => .rdK k
  | _ => .big
 | .store T p _ =>
  match getO σ.t p with
  | .lbox k _ => .wrB k
  | .rdr i => match tab.ty T with | some ty => .wrF i ty.zero.length | none => .big
  | .opt k .. => .wrE k
  | _ => .big
 | .alloc _ => match o.dst with | some d => .al d | none => .big
 | .box _ _ => match o.dst with | some d => .al d | none => .big
 | .buildSlice _ _ parts => match parts.toList.all fun p => (getO σ.t p.2).fz with | true => .none_ | false => .frz
 | .slice _ x _ _ _ => accLst (getO σ.t x)
 | .indexAddr _ x _ => accLst (getO σ.t x)
 | .call cl =>
  match cl.callee with
  | .builtin b =>
   match b with
   | .len => (match cl.args.toList with | [x] => accLst (getO σ.t x) | _ => .big)
   | .max => .none_
   | .min => .none_
   | _ => .big
  | .value f => (match f with | .func _ => (match cl.args.toList.all (fun x => (getO σ.t x).fz), tab.sh o.type with | true, .n _ => .big | true, _ => .call | false, _ => .big) | _ => .big)
  | .invoke .. => .big
 | _ => .big
def Acc.apart : Acc → Acc → Bool
 | .wrE _, .wrF _ _ => true
 | .wrE _, .plc => true
 | .wrE _, _ => false
 | _, .wrE _ => false
 | .none_, _ => true
 | _, .none_ => true
 | .plc, _ => true
 | _, .plc => true
 | .rdB _, .rdB _ => true
 | .rdB _, .rdF _ _ => true
 | .rdB _, .rdK _ => true
 | .rdF _ _, .rdB _ => true
 | .rdF _ _, .rdF _ _ => true
 | .rdF _ _, .rdK _ => true
 | .rdK _, .rdB _ => true
 | .rdK _, .rdF _ _ => true
 | .rdK _, .rdK _ => true
 | .rdB k, .al d => !Nat.beq k d
 | .al d, .rdB k => !Nat.beq k d
 | .rdF _ _, .al _ => true
 | .al _, .rdF _ _ => true
 | .rdK _, .al _ => true
 | .al _, .rdK _ => true
 | .al k, .al d => !Nat.beq k d
 | .rdB k, .wrB d => !Nat.beq k d
 | .wrB d, .rdB k => !Nat.beq k d
 | .rdB _, .wrF _ _ => true
 | .wrF _ _, .rdB _ => true
 | .rdF _ _, .wrB _ => true
 | .wrB _, .rdF _ _ => true
 | .rdF i n, .wrF j m => Nat.ble (i + n) j || Nat.ble (j + m) i
 | .wrF j m, .rdF i n => Nat.ble (i + n) j || Nat.ble (j + m) i
 | .rdK _, .wrB _ => true
 | .wrB _, .rdK _ => true
 | .rdK _, .wrF _ _ => true
 | .wrF _ _, .rdK _ => true
 | .wrB k, .wrB d => !Nat.beq k d
 | .wrB _, .wrF _ _ => true
 | .wrF _ _, .wrB _ => true
 | .wrF i n, .wrF j m => Nat.ble (i + n) j || Nat.ble (j + m) i
 | .al k, .wrB d => !Nat.beq k d
 | .wrB d, .al k => !Nat.beq k d
 | .al _, .wrF _ _ => true
 | .wrF _ _, .al _ => true
 | .frz, .rdB _ => true
 | .rdB _, .frz => true
 | .frz, .rdF _ _ => true
 | .rdF _ _, .frz => true
 | .frz, .rdK _ => true
 | .rdK _, .frz => true
 | .rdB _, .call => true
 | .call, .rdB _ => true
 | .al _, .call => true
 | .call, .al _ => true
 | _, _ => false
def tmpsOf (l : List Operand) : List Nat := l.filterMap fun | .tmp t => some t | _ => none
def looks (all : List Oper) (o : Oper) : List Nat :=
 (match o.guard with | some (j, _) => (dstAt all j).toList | none => []) ++ tmpsOf o.op.operands.toList
def parts2 (all : List Oper) (x y : Oper) : Bool :=
 match x.dst, y.dst with
 | some d, some e => !Nat.beq d e && (!(looks all y).contains d && !(looks all x).contains e)
 | some d, none => !(looks all y).contains d
 | none, some e => !(looks all x).contains e
 | none, none => true
def depMask (o : Oper) (prev : List Nat) : Nat :=
 o.after.toList.foldl (fun s e => match e.ground with | .textOnly _ | .gcOnly _ => s | _ => s ||| 2 ^ e.on ||| prev.getD e.on 0) 0
def depMasks : List Oper → List Nat → List Nat
 | [], acc => acc
 | o :: r, acc => depMasks r (acc ++ [depMask o acc])
def freeOf (all : List Oper) (o : Oper) (a : Acc) (m : Nat) : List (Oper × Acc) → Nat → Bool
 | [], _ => true
 | (x, b) :: r, i => (m.testBit i || (Acc.apart b a && parts2 all x o)) && freeOf all o a m r (i + 1)
def runD (all : List Oper) (masks : List Nat) : List Oper → List (Oper × Acc) → St → (St → Option R) → Option R
 | [], _, σ, K => K σ
 | o :: rest, acc, σ, K =>
  match o.guard with
  | none =>
   match freeOf all o (accOf tab σ o) (masks.getD acc.length 0) acc 0 with
   | true => stepOp tab call τ o σ fun σ' => runD all masks rest (acc ++ [(o, accOf tab σ o)]) σ' K
   | false => none
  | some (j, w) =>
   match dstAt all j with
   | some d =>
    match getT σ.t d with
    | .bool x =>
     if x then
      match w with
      | true =>
       match freeOf all o (accOf tab σ o) (masks.getD acc.length 0) acc 0 with
       | true => stepOp tab call τ o (σ.put (some d) (.bool true)) fun σ' => runD all masks rest (acc ++ [(o, accOf tab σ o)]) σ' K
       | false => none
      | false =>
       match freeOf all o .none_ (masks.getD acc.length 0) acc 0 with
       | true => runD all masks rest (acc ++ [(o, .none_)]) ((σ.put (some d) (.bool true)).put o.dst .skip) K
       | false => none
     else
      match w with
      | false =>
       match freeOf all o (accOf tab σ o) (masks.getD acc.length 0) acc 0 with
       | true => stepOp tab call τ o (σ.put (some d) (.bool false)) fun σ' => runD all masks rest (acc ++ [(o, accOf tab σ o)]) σ' K
       | false => none
      | true =>
       match freeOf all o .none_ (masks.getD acc.length 0) acc 0 with
       | true => runD all masks rest (acc ++ [(o, .none_)]) ((σ.put (some d) (.bool false)).put o.dst .skip) K
       | false => none
    | .skip =>
     match freeOf all o .none_ (masks.getD acc.length 0) acc 0 with
     | true => runD all masks rest (acc ++ [(o, .none_)]) (σ.put o.dst .skip) K
     | false => none
    | _ => none
   | none => none
inductive Ex where
 | normal | exit (id : Nat) | ret
def retag1 (σ : St) (bs bad : List Nat) : AV → AV
 | .own k w e l => match bad.contains k, σ.cur k w, σ.fro k with | false, true, false => .own k 0 e l | false, true, true => .sl e l | _, _, _ => .undef
 | .vw k w e l => match bad.contains k, σ.cur k w, σ.fro k with | false, true, false => .vw k 0 e l | false, true, true => .sl e l | _, _, _ => .undef
 | .vpt k w e x o => match bad.contains k, σ.cur k w, σ.fro k with | false, true, false => .vpt k 0 e x o | false, true, true => .spt e x o | _, _, _ => .undef
 | .opt k w e x i o => match bad.contains k, σ.cur k w, σ.fro k with | false, true, false => .opt k 0 e x i o | false, true, true => .spt e x o | _, _, _ => .undef
 | .lbox k i => match bs.contains k with | true => .lbox k i | false => .undef
 | a => a
def retag (σ : St) (bs bad : List Nat) : AV → AV
 | .agg l => .agg (l.map (retag1 σ bs bad))
 | a => retag1 σ bs bad a
def ownify (own : List (Nat × Nat × El)) (i : Nat) : AV → AV
 | .nil => match own.find? fun x => Nat.beq x.1 i with | some (_, k, e) => .own k 0 e [] | none => .nil
 | a => a
def badKeys (τ : STy) (σ : St) : List Nat :=
 ((ownKeys σ.s).filter fun k => !τ.keys.contains k) ++ (τ.keys.filter fun k => !(ownKeys σ.s).contains k)
def leave (τ : STy) (σ : St) (fz : List Nat) (i : Nat) : AV → AV
 | .own k w e l =>
  match fz.contains i, τ.keys.contains k && !(ownKeys σ.s).contains k, σ.cur k w with
  | true, true, true => .sl e l
  | _, _, _ => .own k w e l
 | a => a
def Mask.apply (τ : STy) (m : Mask) (σ : St) : St :=
 { t := m.t.map fun i => (i, ownify m.own i (retag σ (m.b.map (·.1)) (badKeys τ σ) (leave τ σ m.fz i (getT σ.t i)))), b := m.b.map fun x => (x.1, (getB σ.b x.1).zipIdx.map fun (a, i) => ownify x.2 i (retag1 σ [] (badKeys τ σ) a)), s := match τ.dec σ.v σ.fr σ.s with | some p => τ.enc 0 p | none => [], v := [], c := 0, fr := [] }
def loopN (m : St → St) (body : St → (Ex → St → Option R) → Option R) (K : Ex → St → Option R) : Nat → St → Option R
 | 0, _ => none
 | n + 1, σ => body σ fun ex σ' =>
  match ex with
  | .normal => loopN m body K n (m σ')
  | e => K e σ'
def exec (masks : Nat → Mask) (lim : Nat) : Code → Nat → St → (Ex → St → Option R) → Option R
 | .skip, _, σ, K => K .normal σ
 | .region _ ops draw, _, σ, K =>
  match draw with
  | false => runOps tab call τ ops.toList ops.toList σ (K .normal)
  | true => runD tab call τ ops.toList (depMasks ops.toList []) ops.toList [] σ (K .normal)
 | .seq a b, bid, σ, K => exec masks lim a bid σ fun ex σ' => match ex with | .normal => exec masks lim b bid σ' K | e => K e σ'
 | .cond c a b, bid, σ, K => match getO σ.t c with | .bool x => if x then exec masks lim a bid σ K else exec masks lim b bid σ K | _ => none
 | .block id a, _, σ, K => exec masks lim a id σ fun ex σ' => match ex with | .exit i => (match Nat.beq i id with | true => K .normal σ' | false => K (.exit i) σ') | e => K e σ'
 | .loop a, bid, σ, K => loopN ((masks bid).apply τ) (fun σ' K' => exec masks lim a bid σ' K') K lim ((masks bid).apply τ σ)
 | .exit id, _, σ, K => K (.exit id) σ
 | .scope a, bid, σ, K => exec masks lim a bid σ K
 | .label _, _, σ, K => K .normal σ
 | .ret, _, σ, K => K .ret σ
 | _, _, _, _ => none
def Kseq (masks : Nat → Mask) (lim : Nat) (b : Code) (bid : Nat) (K : Ex → St → Option R) : Ex → St → Option R :=
 fun ex σ' => match ex with | .normal => exec tab call τ masks lim b bid σ' K | e => K e σ'
def Kblk (id : Nat) (K : Ex → St → Option R) : Ex → St → Option R :=
 fun ex σ' => match ex with | .exit i => (match Nat.beq i id with | true => K .normal σ' | false => K (.exit i) σ') | e => K e σ'
def Klp (masks : Nat → Mask) (lim : Nat) (a : Code) (bid n : Nat) (K : Ex → St → Option R) : Ex → St → Option R :=
 fun ex σ' => match ex with | .normal => loopN ((masks bid).apply τ) (fun σ' K' => exec tab call τ masks lim a bid σ' K') K n ((masks bid).apply τ σ') | e => K e σ'
def lpN (masks : Nat → Mask) (lim : Nat) (a : Code) (bid n : Nat) (K : Ex → St → Option R) (σ : St) : Option R :=
 loopN ((masks bid).apply τ) (fun σ' K' => exec tab call τ masks lim a bid σ' K') K n σ
def cX (h : Sh) (τ : STy) (f : Nat) (args : List AV) (p : τ.T) (K : h.T → τ.T → Option R) : Option R :=
 (shaped h (call τ f args p)).bind fun r => K r.1 r.2
def resAV (σ : St) : ResultVar → Option AV
 | .tmp t => some (getT σ.t t)
 | .cell t T => match tab.ty T with | some ty => loadAV σ ty (getT σ.t t) | none => none
def resAll (σ : St) : List ResultVar → Option (List AV)
 | [] => some []
 | r :: rest => match resAV tab σ r, resAll σ rest with | some a, some l => some (a :: l) | _, _ => none
def outs (σ : St) : List AV → Option (AV × St)
 | [] => some (.undef, σ)
 | [.lbox k 0] => match freezeAll (getB σ.b k) σ with | some (l, σ') => some (.new l, σ') | none => none
 | [a] => freeze σ a
 | l => match freezeAll l σ with | some (l', σ') => some (.tup l', σ') | none => none
def fin (fi : FnI) : Ex → St → Option (AV × τ.T)
 | .exit _, _ => none
 | _, σ =>
  match resAll tab σ fi.fn.results.toList with
  | some l =>
   match outs σ l with
   | some (a, σ') => match τ.dec σ'.v σ'.fr σ'.s with | some p => some (a, p) | none => none
   | none => none
  | none => none
def start (args : List AV) (s : List AV) : St :=
 { t := args.zipIdx.map fun (a, i) => (i, a), b := [], s, v := [], c := 0, fr := [] }
def evalBody (lim : Nat) (fi : FnI) (args : List AV) (p : τ.T) : Option (AV × τ.T) :=
 exec tab call τ fi.mask lim fi.fn.code 0 (start args (τ.enc 0 p)) (fin tab τ fi)
end
abbrev Ovr := (call : (τ : STy) → Nat → List AV → τ.T → Option (AV × τ.T)) → (lim : Nat) → (τ : STy) → List AV → τ.T → Option (AV × τ.T)
def evalF (tab : Tab) (fns : List (Nat × FnI)) (ovr : Nat → Option Ovr) : Nat → (τ : STy) → Nat → List AV → τ.T → Option (AV × τ.T)
 | 0, _, _, _, _ => none
 | n + 1, τ, f, args, p =>
  match ovr f with
  | some g => g (evalF tab fns ovr n) n τ args p
  | none =>
   match findN fns f with
   | some fi => evalBody tab (evalF tab fns ovr n) τ n fi args p
   | none => none
end Go.AI
namespace Go.AI.Rd
def sg (t : Tok) : Bool := decide (10 ≤ t.k)
def sigs (l : List Tok) : List Tok := l.filter sg
def cutSig : List Tok → Option (List Tok × Tok × List Tok)
 | [] => none
 | t :: r => if sg t then some ([], t, r) else match cutSig r with | some (s, u, q) => some (t :: s, u, q) | none => none
def leaf (t : Tok) : Made := ⟨.mk t.k t.f t.t [], 0⟩
def triv (x : Made) : Bool := decide (Node.k x.n < 10)
structure A where
 pre : List Tok
 rest : List Tok
 row : List Made
 opn : Int
 dg : Option Diag
def high : List Made → Int → Int
 | [], h => h
 | x :: r, h => high r (max h (x.h + 1))
def nodeOf (kind h : Int) (kids : List Made) : Made :=
 ⟨.mk kind (match kids.head? with | some x => Node.f x.n | none => h) (match kids.getLast? with | some x => Node.t x.n | none => h) (kids.map (·.n)), high kids 1⟩
def namedF (n : Node) : Bool := decide (Node.k n = 201) || (decide (Node.k n = 207) && decide (Node.k ((Node.kids n).getD 0 (.mk 0 0 0 [])) = 201))
def literalF (n : Node) (head : Bool) : Bool :=
 if Node.k n = 220 ∨ Node.k n = 221 ∨ Node.k n = 222 ∨ Node.k n = 224 then true
 else if Node.k n = 208 then !head && namedF ((Node.kids n).getD 0 (.mk 0 0 0 []))
 else !head && namedF n
def part0 (n : Node) : Bool := match Node.kids n with | x :: _ => decide (200 ≤ Node.k x) | [] => false
def litOK (n : Node) : Bool :=
 (decide (Node.k n ≠ 207) || part0 n) &&
 (decide (Node.k n ≠ 208) || (part0 n && (let x := (Node.kids n).getD 0 (.mk 0 0 0 []); decide (Node.k x ≠ 207) || part0 x)))
namespace A
def kinds (a : A) : List Int := match a.dg with | some _ => [] | none => (sigs a.rest).map (·.k)
def here (a : A) : Int :=
 match a.pre.getLast? with
 | some t => t.t
 | none => match (sigs a.rest).head? with | some t => t.f | none => match a.rest.head? with | some t => t.f | none => 0
def dead (a : A) : Bool := a.dg.isSome
def take (a : A) : A :=
 match a.dg with
 | some _ => a
 | none => match cutSig a.rest with
  | none => a
  | some (s, t, r) => { a with pre := a.pre ++ (s ++ [t]), rest := r, row := a.row ++ (s ++ [t]).map leaf }
def fail (c : Int) (a : A) : A :=
 match a.dg with
 | some _ => a
 | none => { a with dg := some (match (sigs a.rest).head? with | some t => ⟨c, t.f, t.t⟩ | none => ⟨c, a.here, a.here⟩) }
def none_ (a : A) : A := match a.dg with | some _ => a | none => { a with row := a.row ++ [⟨.mk 200 a.here a.here [], 0⟩] }
def clamp (a : A) (m : Int) : Nat := (min (max m 0) (a.row.length : Int)).toNat
def closed (a : A) (m : Nat) (kind : Int) : Made := nodeOf kind a.here ((a.row.drop m).dropWhile triv)
def close (m kind : Int) (a : A) : A :=
 match a.dg with
 | some _ => a
 | none =>
  let k := a.clamp m
  let x := a.closed k kind
  let b : A := { a with row := a.row.take k ++ ((a.row.drop k).takeWhile triv ++ [x]) }
  if 100 < x.h then fail 202 b else b
def gapAt (a : A) (k : Nat) : Int :=
 match (a.row.take k).reverse.find? (fun x => !triv x) with
 | some x => Node.t x.n
 | none => match (a.row.drop k).find? (fun x => !triv x) with | some x => Node.f x.n | none => a.here
def gap (m : Int) (a : A) : A :=
 match a.dg with
 | some _ => a
 | none => let k := a.clamp m; { a with row := a.row.take k ++ (⟨.mk 200 (a.gapAt k) (a.gapAt k) [], 0⟩ :: a.row.drop k) }
def last (a : A) : Int := match a.dg with | some _ => 0 | none => match a.row.getLast? with | some x => Node.k x.n | none => 0
def down (a : A) : Bool × A :=
 match a.dg with
 | some _ => (false, a)
 | none => if a.opn = 100 then (false, fail 202 a) else (true, { a with opn := a.opn + 1 })
def up (a : A) : A := { a with opn := max (a.opn - 1) 0 }
def first (a : A) (m : Int) : Option Made := (a.row.drop m.toNat).find? (fun x => !triv x)
def lit (m : Int) (head : Bool) (a : A) : Bool := match a.first m with | some x => literalF x.n head | none => false
def litOK (m : Int) (a : A) : Bool := decide (0 ≤ m) && (match a.first m with | some x => Rd.litOK x.n | none => true)
end A
def entsOf : List Int → List Bool → List Ent
 | f :: t :: ms, b :: ns => ⟨f, t, b⟩ :: entsOf ms ns
 | _, _ => []
def entsOK (row : List Made) : Int → List Ent → Bool
 | m, [] => decide (m ≤ (row.length : Int))
 | m, e :: r => decide (m ≤ e.from_) && (decide (e.from_ ≤ e.to_) && (((row.take e.to_.toNat).drop e.from_.toNat).any (fun x => !triv x) && entsOK row e.to_ r))
def badEnts (a : A) : List Ent → Bool
 | [] => false
 | e :: r => (!e.named && (r.isEmpty || !(match a.first e.from_ with | some x => decide (Node.k x.n = 201) | none => false))) || badEnts a r
def backG (any : Bool) (t f : Int) : List Ent → List (Int × Int)
 | [] => [(f, t)]
 | x :: r => if any && !x.named then backG any t x.from_ r else (f, t) :: backG any x.to_ x.from_ r
def backGroups (any : Bool) : List Ent → List (Int × Int)
 | [] => []
 | e :: r => backG any e.to_ e.from_ r
namespace A
def names (l : List Ent) (a : A) : A := if badEnts a l then fail 201 a else a
def group1 (g : Int × Int) (a : A) : A :=
 let b := close g.1 233 { a with row := a.row.take g.2.toNat }
 { b with row := b.row ++ a.row.drop g.2.toNat }
def group (any : Bool) (l : List Ent) (a : A) : A := match a.dg with | some _ => a | none => (backGroups any l.reverse).foldl (fun b g => group1 g b) a
def room (a : A) : Bool := decide (a.row.length + a.rest.length + 8 < 4294967264)
end A
def precF (k : Int) : Int :=
 if k = 43 then 1 else if k = 42 then 2
 else if k = 46 ∨ k = 52 ∨ k = 47 ∨ k = 53 ∨ k = 48 ∨ k = 54 then 3
 else if k = 20 ∨ k = 21 ∨ k = 26 ∨ k = 27 then 4
 else if k = 22 ∨ k = 23 ∨ k = 24 ∨ k = 28 ∨ k = 29 ∨ k = 25 ∨ k = 30 then 5 else 0
def comesF (ks : List Int) (l : List Int) : Bool := decide (l.getD 0 0 ≠ 0) && ks.contains (l.getD 0 0)
def embF (l : List Int) : Bool := (decide (l.getD 1 0 = 15) || decide (l.getD 1 0 = 16) || decide (l.getD 1 0 = 64) || decide (l.getD 1 0 = 61)) && decide (l.getD 0 0 = 10)
def behindF : List Int → Int → Option Int
 | [], _ => none
 | k :: r, n => if k = 58 then behindF r (n + 1) else if k = 63 then (if n - 1 = 0 then some (r.getD 0 0) else behindF r (n - 1)) else behindF r n
def hasNameF (l : List Int) : Bool :=
 if l.getD 0 0 ≠ 10 then false
 else if l.getD 1 0 = 60 ∨ l.getD 1 0 = 62 ∨ l.getD 1 0 = 61 then false
 else if l.getD 1 0 = 58 then
  if l.getD 2 0 = 63 then true
  else match behindF (l.drop 1) 0 with
   | some x => decide (x ≠ 0) && (decide (x ≠ 60) && decide (x ≠ 62))
   | none => false
 else true
inductive Proc where
 | deeper (pr : Proc) | node (k : Int) (pr : Proc) | takeP | items (pr : Proc) | itemsL (pr : Proc)
 | X (head : Bool) | X1 (head : Bool) | binary (q : Int) (head : Bool) | binaryL (q : Int) (head : Bool)
 | unary (head : Bool) | unary1 (head : Bool) | primary (head : Bool) | primaryL (head : Bool)
 | period | index | unless (ks : List Int) | indexL | arguments | argsL | value | value1 | values | valuesL | operand | flat | flatL (n : Int)
 | Name | List (head : Bool) | List1 (head : Bool) | ListL (head : Bool) | Type | form | formL | elements | qualified | field | fieldL | element | union | unionL (more : Bool)
 | Sig | Sig1 | Params | Params1 | ParamsL (ns : List Bool) | entry | entry1 | TParams | TParams1 | TParamsL (more : Bool) | TParams11 | TParams11L
inductive M where
 | ret (v : Int)
 | look (f : List Int → Int) (k : Int → M)
 | lookB (f : List Int → Bool) (k : Bool → M)
 | dead (k : Bool → M)
 | take (k : M)
 | none_ (k : M)
 | mark (k : M)
 | close (h : Nat) (kind : Int) (k : M)
 | gap (h : Nat) (k : M)
 | last (k : Int → M)
 | down (k : Bool → M)
 | up (k : M)
 | fail (c : Int) (k : M)
 | lit (h : Nat) (head : Bool) (k : Bool → M)
 | names (ns : List Bool) (k : M)
 | group (ns : List Bool) (any : Bool) (k : M)
 | call (pr : Proc) (hs : List Nat) (k : Int → M)
def kind (k : Int → M) : M := .look (fun l => l.getD 0 0) k
def comes (ks : List Int) (k : Bool → M) : M := .lookB (comesF ks) k
def taken (ks : List Int) (k : Bool → M) : M := comes ks fun b => if b then .take (k true) else k false
def expect (c : Int) (k : M) : M := kind fun x => if x = c then .take k else .fail 201 k
def go (pr : Proc) (k : M) : M := .call pr [] fun _ => k
def done : M := .ret 0
def itemsM (pr : Proc) : M := .dead fun d => if d then expect 64 done else comes [64] fun b => if b then expect 64 done else
 go pr (taken [15, 16] fun t => if t then .call (.itemsL pr) [] .ret else expect 64 done)
def unaryM (head : Bool) (kd : Int) : M := .mark (.take (go (.deeper (.unary1 head)) (.close 0 kd done)))
def primM (head : Bool) : M := .call (.primaryL head) [0] .ret
def valuesM : M := taken [60] fun u => if u then .call .valuesL [] .ret else expect 64 done
def elemsM : M := expect 63 (go .Type (.ret 221))
def entryM (r : Int) : M := comes [56] fun c => if c then go (.node 234 .entry1) (.ret r) else go .Type (.ret r)
def groupM (ns : List Bool) : M := if ns.any id then .names ns (.group ns true (expect 62 done)) else .group ns false (expect 62 done)
def body : Proc → M
 | .deeper pr => .down fun b => if b then go pr (.up done) else done
 | .node kd pr => .mark (go pr (.close 0 kd done))
 | .takeP => .take done
 | .items pr => expect 59 (.call (.itemsL pr) [] .ret)
 | .itemsL pr => itemsM pr
 | .X head => go (.deeper (.X1 head)) done
 | .X1 head => go (.binary 1 head) done
 | .binary q head => .mark (go (.unary head) (.call (.binaryL q head) [0] .ret))
 | .binaryL q head => .look (fun l => precF (l.getD 0 0)) fun x =>
   if 0 < x then (if q ≤ x then .take (go (.binary (x + 1) head) (.close 0 206 (.call (.binaryL q head) [0] .ret))) else done) else done
 | .unary head => kind fun x =>
   if x = 20 ∨ x = 21 ∨ x = 50 ∨ x = 27 ∨ x = 25 then unaryM head 204
   else if x = 22 then unaryM head 205 else go (.primary head) done
 | .unary1 head => go (.unary head) done
 | .primary head => .mark (go .operand (primM head))
 | .primaryL head => kind fun x =>
   if x = 61 then .take (.call .period [] fun kd => .close 0 kd (primM head))
   else if x = 58 then .take (.call .index [] fun kd => .close 0 kd (primM head))
   else if x = 57 then .take (go .arguments (.close 0 210 (primM head)))
   else if x = 59 then .lit 0 head fun b => if b then go .values (.close 0 213 (primM head)) else done
   else done
 | .period => kind fun x =>
   if x = 10 then go .Name (.ret 207)
   else expect 57 (taken [89] fun t => if t then expect 62 (.ret 212) else go .Type (expect 62 (.ret 211)))
 | .index => go (.unless [65]) (taken [65] fun t =>
   if t then .call (.unless [65, 63]) [] fun n => comes [65] fun c =>
    if c then (if n ≠ 0 then .fail 201 (.take (go (.X false) (expect 63 (.ret 209)))) else .take (go (.X false) (expect 63 (.ret 209))))
    else expect 63 (.ret 209)
   else .call .indexL [] .ret)
 | .unless ks => comes ks fun b => if b then .none_ (.ret 1) else go (.X false) done
 | .indexL => taken [60] fun t =>
   if t then comes [63] fun b => if b then .call .indexL [] .ret else go (.X false) (.call .indexL [] .ret)
   else expect 63 (.ret 208)
 | .arguments => .call .argsL [] .ret
 | .argsL => .dead fun d => if d then expect 62 done else comes [62] fun b => if b then expect 62 done else
   go (.X false) (taken [56] fun t => if t then taken [60] fun _ => expect 62 done else taken [60] fun u => if u then .call .argsL [] .ret else expect 62 done)
 | .value => kind fun x => if x = 59 then go (.deeper .value1) done else go (.X false) done
 | .value1 => go (.node 214 .values) done
 | .values => expect 59 (.call .valuesL [] .ret)
 | .valuesL => .dead fun d => if d then expect 64 done else comes [64] fun b => if b then expect 64 done else
   .mark (go .value (taken [65] fun t => if t then go .value (.close 0 215 valuesM) else valuesM))
 | .operand => .mark (kind fun x =>
   if x = 10 then go .Name done
   else if x = 11 ∨ x = 12 ∨ x = 13 ∨ x = 14 then go (.node 202 .takeP) done
   else if x = 57 then .take (go (.X false) (expect 62 (.close 0 203 done)))
   else if x = 79 then .take (go .Sig (comes [59] fun b => if b then go (.node 217 .flat) (.close 0 216 done) else .close 0 223 done))
   else if x = 58 ∨ x = 83 ∨ x = 87 ∨ x = 82 then go .Type done
   else .fail 201 done)
 | .flat => .call (.flatL 0) [] .ret
 | .flatL n => kind fun x =>
   if x = 0 then .fail 201 done
   else .take (let m := if x = 59 then n + 1 else if x = 64 then n - 1 else n
    if m = 0 then done else .call (.flatL m) [] .ret)
 | .Name => kind fun x => if x = 10 then go (.node 201 .takeP) done else .fail 201 done
 | .List head => go (.node 246 (.List1 head)) done
 | .List1 head => go (.X head) (.call (.ListL head) [] .ret)
 | .ListL head => taken [60] fun t => if t then go (.X head) (.call (.ListL head) [] .ret) else done
 | .Type => go (.deeper .form) done
 | .form => .mark (kind fun x =>
   if x = 10 then go .qualified (taken [58] fun t => if t then go .Type (.call .formL [0] .ret) else done)
   else if x = 57 then .take (go .Type (expect 62 (.close 0 203 done)))
   else if x = 22 then .take (go .Type (.close 0 205 done))
   else if x = 79 then .take (go .Sig (.close 0 223 done))
   else if x = 58 then .take (.call .elements [] fun kd => .close 0 kd done)
   else if x = 83 then .take (expect 58 (go .Type (expect 63 (go .Type (.close 0 222 done)))))
   else if x = 87 then .take (go (.items .field) (.close 0 224 done))
   else if x = 82 then .take (go (.items .element) (.close 0 227 done))
   else .fail 201 done)
 | .formL => taken [60] fun t =>
   if t then comes [63] fun b => if b then .call .formL [0] .ret else go .Type (.call .formL [0] .ret)
   else expect 63 (.close 0 208 done)
 | .elements => taken [63] fun t =>
   if t then go .Type (.ret 220)
   else comes [56] fun b => if b then go (.node 218 .takeP) elemsM else go (.X false) elemsM
 | .qualified => .mark (go .Name (taken [61] fun t => if t then go .Name (.close 0 207 done) else done))
 | .field => .mark (comes [22] fun b =>
   if b then .take (go .qualified (.close 0 205 (.close 0 226 done)))
   else .lookB embF fun e => if e then go .qualified (.close 0 226 done) else go .Name (.call .fieldL [0] .ret))
 | .fieldL => taken [60] fun t => if t then go .Name (.call .fieldL [0] .ret) else go .Type (.close 0 225 done)
 | .element => .mark (.lookB (fun l => decide (l.getD 0 0 = 10) && decide (l.getD 1 0 = 57)) fun b =>
   if b then go .Name (go .Sig (.close 0 228 done)) else go .union (.close 0 229 done))
 | .union => .call (.unionL false) [] .ret
 | .unionL more => .mark (taken [51] fun t =>
   if t then go .Type (.close 0 230 (taken [26] fun u => if u then .call (.unionL true) [] .ret else .ret 1))
   else go .Type (taken [26] fun u => if u then .call (.unionL true) [] .ret else .ret (if more then 1 else 0)))
 | .Sig => go (.node 231 .Sig1) done
 | .Sig1 => go .Params (kind fun x =>
   if x = 57 then go .Params done
   else if x = 10 ∨ x = 22 ∨ x = 58 ∨ x = 83 ∨ x = 87 ∨ x = 82 ∨ x = 79 then go .Type done
   else .none_ done)
 | .Params => go (.node 232 .Params1) done
 | .Params1 => expect 57 (.call (.ParamsL []) [] .ret)
 | .ParamsL ns => .dead fun d => if d then groupM ns else comes [62] fun b => if b then groupM ns else
   .mark (.call .entry [] fun r => .mark (taken [60] fun t =>
    if t then .call (.ParamsL (ns ++ [decide (r ≠ 0)])) (List.range (2 * ns.length + 2)) .ret else groupM (ns ++ [decide (r ≠ 0)])))
 | .entry => .lookB hasNameF fun b => if b then go .Name (entryM 1) else entryM 0
 | .entry1 => .take (go .Type done)
 | .TParams => go (.node 264 .TParams1) done
 | .TParams1 => expect 58 (.call (.TParamsL true) [] .ret)
 | .TParamsL more => if more then .dead fun d => if d then expect 63 done else
   go (.node 233 .TParams11) (taken [60] fun t => if t then comes [63] fun b => .call (.TParamsL (!b)) [] .ret else .call (.TParamsL false) [] .ret)
   else expect 63 done
 | .TParams11 => go .Name (.call .TParams11L [] .ret)
 | .TParams11L => taken [60] fun t => if t then go .Name (.call .TParams11L [] .ret)
   else .mark (.call .union [] fun r => if r ≠ 0 then .close 0 229 done else done)
def runM (cf : Proc → A → List Int → Option (Int × A)) : M → A → List Int → Option (Int × A)
 | .ret v, a, _ => some (v, a)
 | .look f k, a, ms => runM cf (k (f a.kinds)) a ms
 | .lookB f k, a, ms => runM cf (k (f a.kinds)) a ms
 | .dead k, a, ms => runM cf (k a.dead) a ms
 | .take k, a, ms => if a.room then runM cf k a.take ms else none
 | .none_ k, a, ms => if a.room then runM cf k a.none_ ms else none
 | .mark k, a, ms => if a.dead || decide (ms.length < 4294967264) then runM cf k a (ms ++ [(a.row.length : Int)]) else none
 | .close h kind k, a, ms => if a.room then runM cf k (a.close (ms.getD h 0) kind) ms else none
 | .gap h k, a, ms => if a.room then runM cf k (a.gap (ms.getD h 0)) ms else none
 | .last k, a, ms => runM cf (k a.last) a ms
 | .down k, a, ms => runM cf (k a.down.1) a.down.2 ms
 | .up k, a, ms => runM cf k a.up ms
 | .fail c k, a, ms => runM cf k (a.fail c) ms
 | .lit h head k, a, ms => if a.dead || a.litOK (ms.getD h 0) then runM cf (k (a.lit (ms.getD h 0) head)) a ms else none
 | .names ns k, a, ms => if a.dead || (decide (ns.length < 4294967264) && entsOK a.row 0 (entsOf ms ns)) then runM cf k (a.names (entsOf ms ns)) ms else none
 | .group ns any k, a, ms => if a.dead || (decide (ns.length < 4294967264) && (a.room && entsOK a.row 0 (entsOf ms ns))) then runM cf k (a.group any (entsOf ms ns)) ms else none
 | .call pr hs k, a, ms => match cf pr a (hs.map fun h => ms.getD h 0) with | some (r, b) => runM cf (k r) b ms | none => none
def callN : Nat → Proc → A → List Int → Option (Int × A)
 | 0, _, _, _ => none
 | n + 1, pr, a, ms => runM (callN n) (body pr) a ms
end Go.AI.Rd
namespace Go.AI.Rd
mutual
def lvN : Node → List Tok
 | .mk k f t kids => if k < 200 then [⟨k, f, t⟩] else lvL kids
def lvL : List Node → List Tok
 | [] => []
 | x :: r => lvN x ++ lvL r
end
mutual
def htN : Node → Int
 | .mk k _ _ kids => if k ≤ 200 then 0 else htL kids 1
def htL : List Node → Int → Int
 | [], h => h
 | x :: r, h => htL r (max h (htN x + 1))
end
def endsOK (l : List Node) : Prop := (∀ x, l.head? = some x → 10 ≤ Node.k x) ∧ ∀ x, l.getLast? = some x → 10 ≤ Node.k x
mutual
def neatN : Node → Prop
 | .mk k _ _ kids => k ≤ 200 ∨ (neatL kids ∧ endsOK kids ∧ htL kids 1 ≤ 100)
def neatL : List Node → Prop
 | [] => True
 | x :: r => neatN x ∧ neatL r
end
theorem lvL_append : ∀ l m : List Node, lvL (l ++ m) = lvL l ++ lvL m
 | [], m => rfl
 | x :: r, m => by simp only [List.cons_append, lvL, lvL_append r m, List.append_assoc]
theorem neatL_append : ∀ l m : List Node, neatL (l ++ m) ↔ neatL l ∧ neatL m
 | [], m => by simp [neatL]
 | x :: r, m => by simp only [List.cons_append, neatL, neatL_append r m, and_assoc]
def NT (x : Made) : Prop := neatN x.n ∧ x.h = htN x.n
def lvs (row : List Made) : List Tok := lvL (row.map (·.n))
theorem lvs_append (l m : List Made) : lvs (l ++ m) = lvs l ++ lvs m := by unfold lvs; rw [List.map_append, lvL_append]
theorem high_ht : ∀ (l : List Made) (h : Int), (∀ x ∈ l, NT x) → high l h = htL (l.map (·.n)) h
 | [], h, _ => rfl
 | x :: r, h, hl => by
  simp only [high, List.map_cons, htL]
  rw [(hl x (by simp)).2]
  exact high_ht r _ fun y hy => hl y (by simp [hy])
theorem neatL_of : ∀ (l : List Made), (∀ x ∈ l, NT x) → neatL (l.map (·.n))
 | [], _ => trivial
 | x :: r, hl => ⟨(hl x (by simp)).1, neatL_of r fun y hy => hl y (by simp [hy])⟩
def okAt (row : List Made) (m : Nat) : Prop := m ≤ row.length ∧ ∀ x, (row.take m).getLast? = some x → triv x = false
theorem okAt_take {row row' : List Made} {m p : Nat} (h : okAt row m) (hp : m ≤ p) (hr : row'.take p = row.take p) (hl : m ≤ row'.length) : okAt row' m := by
 have e : row'.take m = row.take m := by
  have := congrArg (List.take m) hr
  rwa [List.take_take, List.take_take, Nat.min_eq_left hp] at this
 exact ⟨hl, by rw [e]; exact h.2⟩
section
variable (L : List Tok) (Z : Int)
def TokOK : Prop := ∀ t ∈ L, t.k < 200 ∧ 0 ≤ t.f ∧ t.f ≤ t.t ∧ t.t ≤ Z
structure Inv (a : A) : Prop where
 tot : a.pre ++ a.rest = L
 lv : lvs a.row = a.pre
 nt : ∀ x ∈ a.row, NT x
 last : ∀ x, a.row.getLast? = some x → triv x = false
def dgOK (a : A) : Prop := ∀ d, a.dg = some d → (d.c = 201 ∨ d.c = 202) ∧ 0 ≤ d.f ∧ d.f ≤ d.t ∧ d.t ≤ Z
end
section
variable {L : List Tok} {Z : Int} {a : A}
theorem tok_of {t : Tok} {l : List Tok} (h : a.pre ++ a.rest = l) (ht : t ∈ a.pre ∨ t ∈ a.rest) : t ∈ l := by
 rw [← h]; exact List.mem_append.2 ht
theorem here_ok (hT : TokOK L Z) (hZ : 0 ≤ Z) (h : a.pre ++ a.rest = L) : 0 ≤ a.here ∧ a.here ≤ Z := by
 unfold A.here
 split
 ·rename_i t ht
  have := hT t (tok_of h (.inl (List.mem_of_getLast? ht)))
  omega
 ·split
  ·rename_i t ht
   have h1 : t ∈ sigs a.rest := List.mem_of_head? ht
   have := hT t (tok_of h (.inr ((List.mem_filter.1 h1).1)))
   omega
  ·split
   ·rename_i t ht
    have := hT t (tok_of h (.inr (List.mem_of_head? ht)))
    omega
   ·omega
theorem fail_dgOK (hT : TokOK L Z) (hZ : 0 ≤ Z) (h : a.pre ++ a.rest = L) (hd : dgOK Z a) {c : Int} (hc : c = 201 ∨ c = 202) : dgOK Z (a.fail c) := by
 unfold A.fail
 cases hdg : a.dg with
 | some d => intro e he; simp only [hdg] at he; exact hd e (hdg.trans he)
 | none =>
  intro e he
  simp only [Option.some.injEq] at he
  subst he
  split
  ·rename_i t ht
   have h1 : t ∈ sigs a.rest := List.mem_of_head? ht
   have := hT t (tok_of h (.inr ((List.mem_filter.1 h1).1)))
   exact ⟨hc, this.2.1, this.2.2.1, this.2.2.2⟩
  ·have := here_ok hT hZ h
   exact ⟨hc, this.1, Int.le_refl _, this.2⟩
theorem dead_of_none (h : a.dg = none) : a.dead = false := by unfold A.dead; rw [h]; rfl
theorem fail_is_dead (c : Int) : (a.fail c).dead = true := by
 unfold A.fail A.dead
 cases h : a.dg with
 | some d => simp [h]
 | none => rfl
theorem NT_leaf {t : Tok} (h : t.k < 200) : NT (leaf t) := ⟨.inl (by omega), by simp only [leaf, htN]; rw [if_pos (by omega)]⟩
theorem NT_none (f t : Int) : NT ⟨.mk 200 f t [], 0⟩ := ⟨.inl (by omega), by simp [htN]⟩
theorem lvs_leaf : ∀ (l : List Tok), (∀ t ∈ l, t.k < 200) → lvs (l.map leaf) = l
 | [], _ => rfl
 | t :: r, h => by
  have h1 := h t (by simp)
  have := lvs_leaf r fun u hu => h u (by simp [hu])
  unfold lvs at this ⊢
  simp only [List.map_cons, lvL, leaf, lvN, if_pos h1]
  rw [this]; rfl
theorem cutSig_spec : ∀ {l : List Tok} {s : List Tok} {t : Tok} {r : List Tok}, cutSig l = some (s, t, r) → l = s ++ t :: r ∧ sg t = true
 | [], s, t, r, h => by simp [cutSig] at h
 | u :: l, s, t, r, h => by
  simp only [cutSig] at h
  split at h
  ·rename_i hu
   simp only [Option.some.injEq, Prod.mk.injEq] at h
   obtain ⟨rfl, rfl, rfl⟩ := h
   exact ⟨rfl, hu⟩
  ·split at h
   ·rename_i s' u' q hc
    simp only [Option.some.injEq, Prod.mk.injEq] at h
    obtain ⟨rfl, rfl, rfl⟩ := h
    have := cutSig_spec hc
    exact ⟨by rw [this.1]; rfl, this.2⟩
   ·cases h
theorem Inv.take (hT : TokOK L Z) (hd : a.dg = none) (h : Inv L a) : Inv L a.take ∧ a.row <+: a.take.row := by
 unfold A.take
 rw [hd]
 simp only
 split
 ·exact ⟨h, List.prefix_rfl⟩
 ·rename_i s t r hc
  obtain ⟨h1, h2⟩ := cutSig_spec hc
  have hk : ∀ u ∈ s ++ [t], u.k < 200 := by
   intro u hu
   refine (hT u (tok_of h.tot (.inr ?_))).1
   rw [h1]
   simp only [List.mem_append, List.mem_singleton] at hu
   simp only [List.mem_append, List.mem_cons]
   rcases hu with hu | hu
   ·exact .inl hu
   ·exact .inr (.inl hu)
  refine ⟨⟨?_, ?_, ?_, ?_⟩, List.prefix_append _ _⟩
  ·rw [← h.tot, h1]; simp
  ·simp only
   rw [lvs_append, h.lv, lvs_leaf _ hk]
  ·intro x hx
   rcases List.mem_append.1 hx with hx | hx
   ·exact h.nt x hx
   ·obtain ⟨u, hu, rfl⟩ := List.mem_map.1 hx
    exact NT_leaf (hk u hu)
  ·intro x hx
   simp only [List.map_append, List.map_cons, List.map_nil] at hx
   rw [← List.append_assoc, List.getLast?_concat] at hx
   cases hx
   unfold sg at h2
   have h2 := of_decide_eq_true h2
   unfold triv leaf
   simp only [Node.k]
   exact decide_eq_false (by omega)
theorem Inv.none_ (hd : a.dg = none) (h : Inv L a) : Inv L a.none_ ∧ a.row <+: a.none_.row := by
 unfold A.none_
 rw [hd]
 simp only
 refine ⟨⟨h.tot, ?_, ?_, ?_⟩, List.prefix_append _ _⟩
 ·simp only
  rw [lvs_append, h.lv]
  simp [lvs, lvL, lvN]
 ·intro x hx
  rcases List.mem_append.1 hx with hx | hx
  ·exact h.nt x hx
  ·rw [List.mem_singleton.1 hx]; exact NT_none _ _
 ·intro x hx
  rw [List.getLast?_concat] at hx
  cases hx
  rfl
theorem i_close_row {row : List Made} (hnt : ∀ x ∈ row, NT x) (hlast : ∀ x, row.getLast? = some x → triv x = false) (m : Nat) (kind hr : Int) (hk : 201 ≤ kind) (hh : (nodeOf kind hr ((row.drop m).dropWhile triv)).h ≤ 100) :
  let r := row.take m ++ ((row.drop m).takeWhile triv ++ [nodeOf kind hr ((row.drop m).dropWhile triv)])
  lvs r = lvs row ∧ (∀ x ∈ r, NT x) ∧ triv (nodeOf kind hr ((row.drop m).dropWhile triv)) = false := by
 intro r
 have hdw : ∀ x ∈ (row.drop m).dropWhile triv, NT x := fun x hx => hnt x (List.mem_of_mem_drop ((List.dropWhile_suffix triv).subset hx))
 have hhigh := high_ht _ 1 hdw
 have htr : triv (nodeOf kind hr ((row.drop m).dropWhile triv)) = false := by
  unfold triv nodeOf
  simp only [Node.k]
  exact decide_eq_false (by omega)
 refine ⟨?_, ?_, htr⟩
 ·have e : lvs [nodeOf kind hr ((row.drop m).dropWhile triv)] = lvs ((row.drop m).dropWhile triv) := by
   unfold lvs nodeOf
   simp only [List.map_cons, List.map_nil, lvL, lvN, List.append_nil]
   rw [if_neg (by omega)]
  show lvs (row.take m ++ ((row.drop m).takeWhile triv ++ [_])) = lvs row
  rw [lvs_append, lvs_append, e, ← lvs_append, List.takeWhile_append_dropWhile, ← lvs_append, List.take_append_drop]
 ·intro x hx
  rcases List.mem_append.1 hx with hx | hx
  ·exact hnt x (List.mem_of_mem_take hx)
  ·rcases List.mem_append.1 hx with hx | hx
   ·exact hnt x (List.mem_of_mem_drop ((List.takeWhile_prefix triv).subset hx))
   ·rw [List.mem_singleton.1 hx]
    have hht : htL (((row.drop m).dropWhile triv).map (·.n)) 1 ≤ 100 := by rw [← hhigh]; exact hh
    refine ⟨.inr ⟨neatL_of _ hdw, ⟨fun y hy => ?_, fun y hy => ?_⟩, hht⟩, ?_⟩
    ·cases hdd : (row.drop m).dropWhile triv with
     | nil => rw [hdd] at hy; cases hy
     | cons z q =>
      rw [hdd] at hy
      simp only [List.map_cons, List.head?_cons, Option.some.injEq] at hy
      subst hy
      have := List.head?_dropWhile_not triv (row.drop m)
      rw [hdd] at this
      simp only [List.head?_cons] at this
      unfold triv at this
      simp at this
      omega
    ·rw [List.getLast?_map] at hy
     cases hl : ((row.drop m).dropWhile triv).getLast? with
     | none => rw [hl] at hy; cases hy
     | some z =>
      rw [hl] at hy
      simp only [Option.map_some, Option.some.injEq] at hy
      subst hy
      have hsuf : (row.drop m).dropWhile triv <:+ row := (List.dropWhile_suffix triv).trans (List.drop_suffix m row)
      obtain ⟨pre, hpre⟩ := hsuf
      have hne : (row.drop m).dropWhile triv ≠ [] := by intro e; rw [e] at hl; cases hl
      have : row.getLast? = some z := by
       rw [← hpre, List.getLast?_append, hl]; rfl
      have := hlast z this
      unfold triv at this
      simp at this
      omega
    ·show high _ 1 = _
     rw [hhigh]
     simp only [nodeOf, htN]
     rw [if_neg (by omega)]
end
end Go.AI.Rd
namespace Go.AI.Rd
def RK : Proc → Int → Prop
 | .period, r => 201 ≤ r
 | .index, r => 201 ≤ r
 | .indexL, r => 201 ≤ r
 | .elements, r => 201 ≤ r
 | _, _ => True
def ar : Proc → Nat
 | .primaryL _ => 1
 | .binaryL _ _ => 1
 | .formL => 1
 | .fieldL => 1
 | .ParamsL ns => 2 * ns.length
 | _ => 0
def WF : Proc → Prop
 | .deeper pr => ar pr = 0 ∧ WF pr
 | .node k pr => 201 ≤ k ∧ ar pr = 0 ∧ WF pr
 | .items pr => ar pr = 0 ∧ WF pr
 | .itemsL pr => ar pr = 0 ∧ WF pr
 | _ => True
def MS (P : Int → Prop) : M → Nat → Nat → Prop
 | .ret v, _, _ => P v
 | .look _ k, g, l => ∀ x, MS P (k x) g l
 | .lookB _ k, g, l => ∀ x, MS P (k x) g l
 | .dead k, g, l => ∀ x, MS P (k x) g l
 | .take k, g, l => MS P k g l
 | .none_ k, g, l => MS P k g l
 | .mark k, g, l => MS P k (if g = l then l + 1 else g) (l + 1)
 | .close h kd k, g, l => (h < g ∧ 201 ≤ kd) ∧ MS P k (min g (h + 1)) l
 | .gap h k, g, l => h < g ∧ MS P k (min g (h + 1)) l
 | .last k, g, l => ∀ x, MS P (k x) g l
 | .down k, g, l => ∀ x, MS P (k x) g l
 | .up k, g, l => MS P k g l
 | .fail c k, g, l => (c = 201 ∨ c = 202) ∧ MS P k g l
 | .lit _ _ k, g, l => ∀ x, MS P (k x) g l
 | .names _ k, g, l => MS P k g l
 | .group ns _ k, g, l => 2 * ns.length ≤ g ∧ MS P k 0 l
 | .call pr hs k, g, l => (WF pr ∧ hs = List.range hs.length ∧ hs.length = ar pr ∧ hs.length ≤ g) ∧ ∀ r, RK pr r → MS P (k r) (if hs.length = 0 then g else min g 1) l
def GL (row : List Made) (base : Nat) : Nat → List (Int × Int) → Prop
 | _, [] => True
 | p, x :: r => ∃ f t : Nat, x = ((f : Int), (t : Int)) ∧ base ≤ f ∧ f ≤ t ∧ t ≤ p ∧ okAt row t ∧ GL row base f r
theorem GL.mono {row row' : List Made} {base : Nat} : ∀ {r : List (Int × Int)} {p : Nat}, GL row base p r → row'.take p = row.take p → p ≤ row'.length → GL row' base p r
 | [], _, _, _, _ => trivial
 | x :: r, p, ⟨f, t, h1, h2, h3, h4, h5, h6⟩, hr, hl => by
  refine ⟨f, t, h1, h2, h3, h4, okAt_take h5 h4 hr (by omega), GL.mono h6 ?_ (by omega)⟩
  have := congrArg (List.take f) hr
  rwa [List.take_take, List.take_take, Nat.min_eq_left (by omega)] at this
def DS (row : List Made) (base : Nat) : Nat → List Ent → Prop
 | _, [] => True
 | p, e :: r => ∃ f t : Nat, e.from_ = f ∧ e.to_ = t ∧ base ≤ f ∧ f ≤ t ∧ t ≤ p ∧ okAt row t ∧ DS row base f r
theorem DS.le {row : List Made} {base : Nat} : ∀ {l : List Ent} {p q : Nat}, DS row base p l → p ≤ q → DS row base q l
 | [], _, _, _, _ => trivial
 | e :: r, p, q, ⟨f, t, h1, h2, h3, h4, h5, h6, h7⟩, hq => ⟨f, t, h1, h2, h3, h4, by omega, h6, h7⟩
theorem GL_of (row : List Made) (base : Nat) (any : Bool) : ∀ (r : List Ent) (p f t : Nat), base ≤ f → f ≤ t → t ≤ p → okAt row t → DS row base f r → GL row base p (backG any t f r)
 | [], p, f, t, h1, h2, h3, h4, h5 => ⟨f, t, rfl, h1, h2, h3, h4, trivial⟩
 | x :: r, p, f, t, h1, h2, h3, h4, ⟨f', t', q1, q2, q3, q4, q5, q6, q7⟩ => by
  simp only [backG]
  rw [q1, q2]
  split
  ·exact GL_of row base any r p f' t q3 (by omega) h3 h4 q7
  ·exact ⟨f, t, rfl, h1, h2, h3, h4, GL_of row base any r f f' t' q3 q4 q5 q6 q7⟩
theorem GLs_of {row : List Made} {base : Nat} (any : Bool) : ∀ {l : List Ent} {p : Nat}, DS row base p l → GL row base p (backGroups any l)
 | [], p, _ => trivial
 | e :: r, p, ⟨f, t, q1, q2, q3, q4, q5, q6, q7⟩ => by
  simp only [backGroups]
  rw [q1, q2]
  exact GL_of row base any r p f t q3 q4 q5 q6 q7
theorem DS_rev {row : List Made} {base : Nat} (p : Nat) : ∀ (ns : List Bool) (ms : List Int) (q : Nat) (acc : List Ent), q ≤ p → DS row base q acc →
  (∀ i, i < 2 * ns.length → ∃ m : Nat, ms[i]? = some (m : Int) ∧ base ≤ m ∧ q ≤ m ∧ m ≤ p ∧ okAt row m) → (∀ i j, i ≤ j → j < 2 * ns.length → ms.getD i 0 ≤ ms.getD j 0) →
  DS row base p ((entsOf ms ns).reverse ++ acc)
 | [], ms, q, acc, hq, hd, hm, hs => by
  have : entsOf ms [] = [] := by
   cases ms with
   | nil => rfl
   | cons a l => cases l <;> rfl
  rw [this]; exact hd.le hq
 | b :: ns, ms, q, acc, hq, hd, hm, hs => by
  obtain ⟨f, hf, f1, f2, f3, f4⟩ := hm 0 (by simp)
  obtain ⟨t, ht, t1, t2, t3, t4⟩ := hm 1 (by simp; omega)
  match ms, hf, ht, hm, hs with
  | [], hf, ht, hm, hs => simp at hf
  | [x], hf, ht, hm, hs => simp at ht
  | x :: y :: ms, hf, ht, hm, hs =>
   simp only [List.getElem?_cons_zero, Option.some.injEq] at hf
   simp only [List.getElem?_cons_succ, List.getElem?_cons_zero, Option.some.injEq] at ht
   have hft : f ≤ t := by have := hs 0 1 (by omega) (by simp; omega); simp at this; omega
   simp only [entsOf, List.reverse_cons, List.append_assoc, List.singleton_append]
   refine DS_rev p ns ms t (⟨x, y, b⟩ :: acc) t3 ⟨f, t, hf, ht, f1, hft, Nat.le_refl _, t4, hd.le f2⟩ (fun i hi => ?_) fun i j hij hj => ?_
   ·obtain ⟨m, m1, m2, m3, m4, m5⟩ := hm (i + 2) (by simp only [List.length_cons]; omega)
    refine ⟨m, by simpa using m1, m2, ?_, m4, m5⟩
    have h1 := hs 1 (i + 2) (by omega) (by simp only [List.length_cons]; omega)
    simp only [List.getD_cons_succ, List.getD_cons_zero] at h1
    rw [ht] at h1
    have h2 : ms.getD i 0 = (m : Int) := by
     rw [List.getD_eq_getElem?_getD]
     have : ms[i]? = some (m : Int) := by simpa using m1
     rw [this]; rfl
    omega
   ·have := hs (i + 2) (j + 2) (by omega) (by simp only [List.length_cons]; omega)
    simpa using this
section
variable {L : List Tok} {Z : Int} {a : A}
structure Nx (L : List Tok) (base : Nat) (R : List Made) (b : A) : Prop where
 inv : Inv L b
 len : base ≤ b.row.length
 row : b.row.take base = R
theorem close_eq (b : A) (hb : b.dg = none) (m kind : Int) : A.close m kind b = if 100 < (b.closed (b.clamp m) kind).h then A.fail 202 { b with row := b.row.take (b.clamp m) ++ ((b.row.drop (b.clamp m)).takeWhile triv ++ [b.closed (b.clamp m) kind]) } else { b with row := b.row.take (b.clamp m) ++ ((b.row.drop (b.clamp m)).takeWhile triv ++ [b.closed (b.clamp m) kind]) } := by
 obtain ⟨p, r, w, o, d⟩ := b
 cases hb
 rfl
theorem close_inv (hT : TokOK L Z) (hZ : 0 ≤ Z) (hd : a.dg = none) (h : Inv L a) (m : Nat) (hm : m ≤ a.row.length) {kind : Int} (hk : 201 ≤ kind) :
  dgOK Z (a.close m kind) ∧ ((a.close m kind).dead = false → Nx L m (a.row.take m) (a.close m kind)) := by
 have hcl : a.clamp m = m := by unfold A.clamp; omega
 rw [close_eq a hd, hcl]
 have hb0 : dgOK Z { a with row := a.row.take m ++ ((a.row.drop m).takeWhile triv ++ [a.closed m kind]) } := by
  intro d hdd; simp only [hd] at hdd; cases hdd
 split
 ·refine ⟨fail_dgOK (a := { a with row := a.row.take m ++ ((a.row.drop m).takeWhile triv ++ [a.closed m kind]) }) hT hZ h.tot hb0 (.inr rfl), fun hl => ?_⟩
  rw [fail_is_dead] at hl; cases hl
 ·rename_i hh
  refine ⟨hb0, fun _ => ?_⟩
  obtain ⟨c1, c2, c3⟩ := i_close_row h.nt h.last m kind a.here hk (by unfold A.closed at hh; omega)
  refine ⟨⟨h.tot, by rw [← h.lv]; exact c1, c2, fun x hx => ?_⟩, ?_, ?_⟩
  ·simp only [A.closed] at hx
   rw [← List.append_assoc, List.getLast?_concat] at hx
   cases hx
   exact c3
  ·simp only [List.length_append, List.length_take]; omega
  ·simp only
   rw [List.take_append_of_le_length (by simp; omega), List.take_take, Nat.min_self]
theorem gap_inv (hd : a.dg = none) (h : Inv L a) (m : Nat) (hm : m ≤ a.row.length) : Nx L m (a.row.take m) (a.gap m) := by
 have hcl : a.clamp m = m := by unfold A.clamp; omega
 unfold A.gap
 rw [hd]
 simp only [hcl]
 refine ⟨⟨h.tot, ?_, fun x hx => ?_, fun x hx => ?_⟩, by simp; omega, ?_⟩
 ·simp only
  rw [← h.lv]
  conv => rhs; rw [← List.take_append_drop m a.row]
  rw [lvs_append, lvs_append]
  congr 1
 ·rcases List.mem_append.1 hx with hx | hx
  ·exact h.nt x (List.mem_of_mem_take hx)
  ·rcases List.mem_cons.1 hx with hx | hx
   ·rw [hx]; exact NT_none _ _
   ·exact h.nt x (List.mem_of_mem_drop hx)
 ·simp only [List.getLast?_append, List.getLast?_cons] at hx
  simp only [Option.some_or, Option.some.injEq] at hx
  cases hdl : (a.row.drop m).getLast? with
  | none => rw [hdl] at hx; subst hx; rfl
  | some z =>
   rw [hdl] at hx
   simp only [Option.getD_some] at hx
   subst hx
   refine h.last z ?_
   conv => lhs; rw [← List.take_append_drop m a.row]
   rw [List.getLast?_append, hdl]; rfl
 ·simp only
  rw [List.take_append_of_le_length (by simp; omega), List.take_take, Nat.min_self]
theorem group1_dg (g : Int × Int) (hd : a.dead = true) : (A.group1 g a).dg = a.dg := by
 unfold A.group1 A.close
 unfold A.dead at hd
 cases h : a.dg with
 | none => rw [h] at hd; cases hd
 | some d => simp [h]
theorem groups_dg : ∀ (gs : List (Int × Int)) (a : A), a.dead = true → (gs.foldl (fun b g => A.group1 g b) a).dg = a.dg
 | [], a, _ => rfl
 | g :: gs, a, hd => by
  have h1 := group1_dg g hd
  have h2 : (A.group1 g a).dead = true := by unfold A.dead at hd ⊢; rw [h1]; exact hd
  simp only [List.foldl_cons]
  rw [groups_dg gs _ h2, h1]
theorem group1_inv (hT : TokOK L Z) (hZ : 0 ≤ Z) (hd : a.dg = none) (h : Inv L a) (f t : Nat) (hft : f ≤ t) (ht : okAt a.row t) :
  dgOK Z (A.group1 ((f : Int), (t : Int)) a) ∧ ((A.group1 ((f : Int), (t : Int)) a).dead = false → Nx L f (a.row.take f) (A.group1 ((f : Int), (t : Int)) a)) := by
 have htl := ht.1
 have hlen : (a.row.take t).length = t := by simp; omega
 have hcl : A.clamp { a with row := a.row.take t } (f : Int) = f := by unfold A.clamp; simp only [hlen]; omega
 have e : A.group1 ((f : Int), (t : Int)) a = { (A.close (f : Int) 233 { a with row := a.row.take t }) with row := (A.close (f : Int) 233 { a with row := a.row.take t }).row ++ a.row.drop t } := by
  unfold A.group1; simp only [Int.toNat_natCast]
 rw [e]
 rw [close_eq { a with row := a.row.take t } hd, hcl]
 have hb0 : dgOK Z { a with row := (a.row.take t).take f ++ (((a.row.take t).drop f).takeWhile triv ++ [A.closed { a with row := a.row.take t } f 233]) } := by
  intro d hdd; simp only [hd] at hdd; cases hdd
 have hb0' : dgOK Z { a with row := ((a.row.take t).take f ++ (((a.row.take t).drop f).takeWhile triv ++ [A.closed { a with row := a.row.take t } f 233])) ++ a.row.drop t } := by
  intro d hdd; simp only [hd] at hdd; cases hdd
 split
 ·have h1 := fail_dgOK hT hZ (a := { a with row := (a.row.take t).take f ++ (((a.row.take t).drop f).takeWhile triv ++ [A.closed { a with row := a.row.take t } f 233]) }) h.tot hb0 (c := 202) (.inr rfl)
  have h2 := fail_is_dead (a := { a with row := (a.row.take t).take f ++ (((a.row.take t).drop f).takeWhile triv ++ [A.closed { a with row := a.row.take t } f 233]) }) 202
  exact ⟨h1, fun hl => Bool.noConfusion (h2.symm.trans hl)⟩
 ·rename_i hh
  refine ⟨hb0', fun _ => ?_⟩
  obtain ⟨c1, c2, c3⟩ := i_close_row (row := a.row.take t) (fun x hx => h.nt x (List.mem_of_mem_take hx)) ht.2 f 233 (A.here { a with row := a.row.take t }) (by decide) (Int.not_lt.1 hh)
  refine ⟨⟨h.tot, ?_, fun x hx => ?_, fun x hx => ?_⟩, ?_, ?_⟩
  ·refine (lvs_append _ _).trans ?_
   refine (congrArg (fun z => z ++ lvs (a.row.drop t)) c1).trans ?_
   simp only
   rw [← lvs_append, List.take_append_drop]
   exact h.lv
  ·rcases List.mem_append.1 hx with hx | hx
   ·exact c2 x hx
   ·exact h.nt x (List.mem_of_mem_drop hx)
  ·simp only [List.getLast?_append] at hx
   cases hdl : (a.row.drop t).getLast? with
   | some z =>
    rw [hdl] at hx
    simp only [Option.some_or, Option.some.injEq] at hx
    subst hx
    refine h.last z ?_
    conv => lhs; rw [← List.take_append_drop t a.row]
    rw [List.getLast?_append, hdl]; rfl
   | none =>
    rw [hdl] at hx
    simp only [List.getLast?_singleton, Option.some_or, Option.none_or, Option.some.injEq] at hx
    subst hx
    exact c3
  ·simp only [List.length_append, List.length_take]; omega
  ·simp only
   rw [List.append_assoc, List.take_append_of_le_length (by simp; omega), List.take_take, List.take_take]
   congr 1
   omega
theorem groups_inv (hT : TokOK L Z) (hZ : 0 ≤ Z) (base : Nat) : ∀ (gs : List (Int × Int)) (a : A) (p : Nat), a.dg = none → Inv L a → base ≤ p → p ≤ a.row.length → GL a.row base p gs →
  dgOK Z (gs.foldl (fun b g => A.group1 g b) a) ∧ ((gs.foldl (fun b g => A.group1 g b) a).dead = false → Nx L base (a.row.take base) (gs.foldl (fun b g => A.group1 g b) a))
 | [], a, p, hd, h, hp, hl, _ => by
  refine ⟨fun d hdd => ?_, fun _ => ⟨h, by show base ≤ a.row.length; omega, rfl⟩⟩
  have hdd : a.dg = some d := hdd
  rw [hd] at hdd; cases hdd
 | g :: gs, a, p, hd, h, hp, hl, hg => by
  obtain ⟨f, t, rfl, g2, g3, g4, g5, g6⟩ := hg
  obtain ⟨k1, k2⟩ := group1_inv hT hZ hd h f t g3 g5
  simp only [List.foldl_cons]
  cases hdd : (A.group1 ((f : Int), (t : Int)) a).dg with
  | some d =>
   have hdead : (A.group1 ((f : Int), (t : Int)) a).dead = true := by unfold A.dead; rw [hdd]; rfl
   have e := groups_dg gs _ hdead
   refine ⟨fun d' hd' => k1 d' (e ▸ hd'), fun hl' => ?_⟩
   unfold A.dead at hl' hdead
   rw [e, hdead] at hl'; cases hl'
  | none =>
   obtain ⟨n1, n2, n3⟩ := k2 (dead_of_none hdd)
   obtain ⟨r1, r2⟩ := groups_inv hT hZ base gs _ f hdd n1 g2 n2 (g6.mono n3 n2)
   refine ⟨r1, fun hl' => ?_⟩
   obtain ⟨m1, m2, m3⟩ := r2 hl'
   refine ⟨m1, m2, m3.trans ?_⟩
   have := congrArg (List.take base) n3
   rwa [List.take_take, List.take_take, Nat.min_eq_left g2] at this
structure Gd (L : List Tok) (base : Nat) (R : List Made) (ms : List Int) (g : Nat) (a : A) : Prop where
 nx : Nx L base R a
 mks : ∀ i, i < g → ∃ m : Nat, ms[i]? = some (m : Int) ∧ base ≤ m ∧ okAt a.row m
 srt : ∀ i j, i ≤ j → j < g → ms.getD i 0 ≤ ms.getD j 0
theorem Nx.pre {base : Nat} {R : List Made} (h : Nx L base R a) {b : A} (hi : Inv L b) (hp : a.row <+: b.row) : Nx L base R b := by
 obtain ⟨n, hn⟩ := hp
 refine ⟨hi, by rw [← hn]; simp; have := h.len; omega, ?_⟩
 rw [← hn, List.take_append_of_le_length h.len, h.row]
theorem Gd.pre {base g : Nat} {R : List Made} {ms : List Int} (h : Gd L base R ms g a) {b : A} (hi : Inv L b) (hp : a.row <+: b.row) : Gd L base R ms g b := by
 refine ⟨h.nx.pre hi hp, fun i hi' => ?_, h.srt⟩
 obtain ⟨m, h1, h2, h3⟩ := h.mks i hi'
 obtain ⟨n, hn⟩ := hp
 have := h3.1
 exact ⟨m, h1, h2, okAt_take h3 (Nat.le_refl m) (by rw [← hn, List.take_append_of_le_length h3.1]) (by rw [← hn]; simp; omega)⟩
theorem getD_mk {ms : List Int} {i m : Nat} (h : ms[i]? = some (m : Int)) : ms.getD i 0 = (m : Int) := by
 rw [List.getD_eq_getElem?_getD, h]; rfl
theorem Gd.cut {base g h : Nat} {R : List Made} {ms : List Int} (hg : Gd L base R ms g a) (hh : h < g) {m : Nat} (hm : ms[h]? = some (m : Int)) {b : A} (hn : Nx L m (a.row.take m) b) : Gd L base R ms (min g (h + 1)) b := by
 obtain ⟨m', h1, h2, h3⟩ := hg.mks h hh
 rw [hm] at h1
 have e : m = m' := by have := Option.some.inj h1; omega
 subst e
 refine ⟨⟨hn.inv, by have := hn.len; omega, ?_⟩, fun i hi => ?_, fun i j hij hj => hg.srt i j hij (by omega)⟩
 ·have := congrArg (List.take base) hn.row
  rw [List.take_take, List.take_take, Nat.min_eq_left h2] at this
  rw [this]; exact hg.nx.row
 ·obtain ⟨q, q1, q2, q3⟩ := hg.mks i (by omega)
  have hs := hg.srt i h (by omega) hh
  rw [getD_mk q1, getD_mk hm] at hs
  exact ⟨q, q1, q2, okAt_take q3 (by omega) hn.row (by have := hn.len; omega)⟩
def CallOK (L : List Tok) (Z : Int) (pr : Proc) (a : A) (ms : List Int) (r : Int) (b : A) : Prop :=
 ms.length = ar pr → ∀ (base : Nat) (R : List Made), (a.dead = false → Gd L base R ms (ar pr) a) → dgOK Z a → RK pr r ∧ dgOK Z b ∧ (a.dead = true → b.dead = true) ∧ (b.dead = false → Nx L base R b)
def Post (L : List Tok) (Z : Int) (base : Nat) (R : List Made) (P : Int → Prop) (a : A) (r : Int) (b : A) : Prop := P r ∧ dgOK Z b ∧ (a.dead = true → b.dead = true) ∧ (b.dead = false → Nx L base R b)
theorem live_cases (a : A) : (∃ d, a.dg = some d ∧ a.dead = true) ∨ (a.dg = none ∧ a.dead = false) := by
 unfold A.dead
 cases h : a.dg with
 | some d => exact .inl ⟨d, rfl, rfl⟩
 | none => exact .inr ⟨rfl, rfl⟩
theorem run_inv (hT : TokOK L Z) (hZ : 0 ≤ Z) {cf : Proc → A → List Int → Option (Int × A)} (hcf : ∀ pr a ms r b, WF pr → cf pr a ms = some (r, b) → CallOK L Z pr a ms r b) (base : Nat) (R : List Made) (P : Int → Prop) :
  ∀ (m : M) (a : A) (ms : List Int) (g : Nat) (r : Int) (b : A), MS P m g ms.length → g ≤ ms.length → (a.dead = false → Gd L base R ms g a) → dgOK Z a → runM cf m a ms = some (r, b) → Post L Z base R P a r b := by
 intro m
 induction m with
 | ret v =>
  intro a ms g r b hm hl hg hd hr
  simp only [runM, Option.some.injEq, Prod.mk.injEq] at hr
  obtain ⟨rfl, rfl⟩ := hr
  exact ⟨hm, hd, id, fun h => (hg h).nx⟩
 | look f k ih => intro a ms g r b hm hl hg hd hr; exact ih _ a ms g r b (hm _) hl hg hd hr
 | lookB f k ih => intro a ms g r b hm hl hg hd hr; exact ih _ a ms g r b (hm _) hl hg hd hr
 | dead k ih => intro a ms g r b hm hl hg hd hr; exact ih _ a ms g r b (hm _) hl hg hd hr
 | last k ih => intro a ms g r b hm hl hg hd hr; exact ih _ a ms g r b (hm _) hl hg hd hr
 | lit h head k ih =>
  intro a ms g r b hm hl hg hd hr
  simp only [runM] at hr
  split at hr
  ·exact ih _ a ms g r b (hm _) hl hg hd hr
  ·cases hr
 | take k ih =>
  intro a ms g r b hm hl hg hd hr
  simp only [runM] at hr
  split at hr
  rotate_left
  ·cases hr
  rcases live_cases a with ⟨d, h1, h2⟩ | ⟨h1, h2⟩
  ·have e : a.take = a := by unfold A.take; rw [h1]
   rw [e] at hr
   exact ih a ms g r b hm hl hg hd hr
  ·obtain ⟨i1, i2⟩ := (hg h2).nx.inv.take hT h1
   have hd' : dgOK Z a.take := by
    have e : a.take.dg = none := by
     unfold A.take; rw [h1]; simp only; split <;> first | exact h1 | rfl
    intro d h; rw [e] at h; cases h
   have := ih a.take ms g r b hm hl (fun _ => (hg h2).pre i1 i2) hd' hr
   exact ⟨this.1, this.2.1, (fun h => by rw [h2] at h; cases h), this.2.2.2⟩
 | none_ k ih =>
  intro a ms g r b hm hl hg hd hr
  simp only [runM] at hr
  split at hr
  rotate_left
  ·cases hr
  rcases live_cases a with ⟨d, h1, h2⟩ | ⟨h1, h2⟩
  ·have e : a.none_ = a := by unfold A.none_; rw [h1]
   rw [e] at hr
   exact ih a ms g r b hm hl hg hd hr
  ·obtain ⟨i1, i2⟩ := (hg h2).nx.inv.none_ h1
   have hd' : dgOK Z a.none_ := by
    have e : a.none_.dg = none := by unfold A.none_; rw [h1]
    intro d h; rw [e] at h; cases h
   have := ih a.none_ ms g r b hm hl (fun _ => (hg h2).pre i1 i2) hd' hr
   exact ⟨this.1, this.2.1, (fun h => by rw [h2] at h; cases h), this.2.2.2⟩
 | mark k ih =>
  intro a ms g r b hm hl hg hd hr
  simp only [runM] at hr
  split at hr
  rotate_left
  ·cases hr
  have hle : (ms ++ [(a.row.length : Int)]).length = ms.length + 1 := by simp
  refine ih a (ms ++ [(a.row.length : Int)]) (if g = ms.length then ms.length + 1 else g) r b (by rw [hle]; exact hm) (by rw [hle]; split <;> omega) (fun h => ?_) hd hr
  have hG := hg h
  have old : ∀ i, i < g → (ms ++ [(a.row.length : Int)])[i]? = ms[i]? := fun i hi => List.getElem?_append_left (by omega)
  have oldD : ∀ i, i < g → (ms ++ [(a.row.length : Int)]).getD i 0 = ms.getD i 0 := fun i hi => by rw [List.getD_eq_getElem?_getD, List.getD_eq_getElem?_getD, old i hi]
  split
  ·rename_i he
   have hlst : (ms ++ [(a.row.length : Int)])[g]? = some (a.row.length : Int) := by rw [he]; simp
   refine ⟨hG.nx, fun i hi => ?_, fun i j hij hj => ?_⟩
   ·by_cases hi' : i < g
    ·rw [old i hi']; exact hG.mks i hi'
    ·have : i = g := by omega
     subst this
     exact ⟨a.row.length, hlst, hG.nx.len, Nat.le_refl _, by rw [List.take_length]; exact hG.nx.inv.last⟩
   ·by_cases hj' : j < g
    ·rw [oldD i (by omega), oldD j hj']; exact hG.srt i j hij hj'
    ·have : j = g := by omega
     subst this
     rw [getD_mk hlst]
     by_cases hi' : i < j
     ·rw [oldD i hi']
      obtain ⟨m, q1, q2, q3⟩ := hG.mks i hi'
      rw [getD_mk q1]
      have := q3.1
      omega
     ·have : i = j := by omega
      subst this
      rw [getD_mk hlst]
      exact Int.le_refl _
  ·exact ⟨hG.nx, fun i hi => by rw [old i hi]; exact hG.mks i hi, fun i j hij hj => by rw [oldD i (by omega), oldD j hj]; exact hG.srt i j hij hj⟩
 | close h kd k ih =>
  intro a ms g r b hm hl hg hd hr
  simp only [runM] at hr
  split at hr
  rotate_left
  ·cases hr
  obtain ⟨⟨hh, hk⟩, hm⟩ := hm
  rcases live_cases a with ⟨d, h1, h2⟩ | ⟨h1, h2⟩
  ·have e : a.close (ms.getD h 0) kd = a := by unfold A.close; rw [h1]
   rw [e] at hr
   exact ih a ms (min g (h + 1)) r b hm (by omega) (fun h' => by rw [h2] at h'; cases h') hd hr
  ·have hG := hg h2
   obtain ⟨q, q1, q2, q3⟩ := hG.mks h hh
   rw [getD_mk q1] at hr
   obtain ⟨c1, c2⟩ := close_inv hT hZ h1 hG.nx.inv q q3.1 hk
   have := ih _ ms (min g (h + 1)) r b hm (by omega) (fun h' => hG.cut hh q1 (c2 h')) c1 hr
   exact ⟨this.1, this.2.1, (fun h => by rw [h2] at h; cases h), this.2.2.2⟩
 | gap h k ih =>
  intro a ms g r b hm hl hg hd hr
  simp only [runM] at hr
  split at hr
  rotate_left
  ·cases hr
  obtain ⟨hh, hm⟩ := hm
  rcases live_cases a with ⟨d, h1, h2⟩ | ⟨h1, h2⟩
  ·have e : a.gap (ms.getD h 0) = a := by unfold A.gap; rw [h1]
   rw [e] at hr
   exact ih a ms (min g (h + 1)) r b hm (by omega) (fun h' => by rw [h2] at h'; cases h') hd hr
  ·have hG := hg h2
   obtain ⟨q, q1, q2, q3⟩ := hG.mks h hh
   rw [getD_mk q1] at hr
   have hd' : dgOK Z (a.gap (q : Int)) := by
    have e : (a.gap (q : Int)).dg = none := by unfold A.gap; rw [h1]
    intro d h; rw [e] at h; cases h
   have := ih _ ms (min g (h + 1)) r b hm (by omega) (fun h' => hG.cut hh q1 (gap_inv h1 hG.nx.inv q q3.1)) hd' hr
   exact ⟨this.1, this.2.1, (fun h => by rw [h2] at h; cases h), this.2.2.2⟩
 | down k ih =>
  intro a ms g r b hm hl hg hd hr
  simp only [runM] at hr
  rcases live_cases a with ⟨d, h1, h2⟩ | ⟨h1, h2⟩
  ·have e : a.down.2 = a := by unfold A.down; rw [h1]
   rw [e] at hr
   exact ih _ a ms g r b (hm _) hl hg hd hr
  ·have hG := hg h2
   by_cases ho : a.opn = 100
   ·have e : a.down.2 = a.fail 202 := by unfold A.down; rw [h1]; simp only [if_pos ho]
    have := ih _ a.down.2 ms g r b (hm _) hl (fun h' => by rw [e, fail_is_dead] at h'; cases h') (by rw [e]; exact fail_dgOK hT hZ hG.nx.inv.tot hd (.inr rfl)) hr
    exact ⟨this.1, this.2.1, (fun h => by rw [h2] at h; cases h), this.2.2.2⟩
   ·have e : a.down.2 = { a with opn := a.opn + 1 } := by unfold A.down; rw [h1]; simp only [if_neg ho]
    have := ih _ a.down.2 ms g r b (hm _) hl (fun h' => by rw [e]; exact ⟨⟨⟨hG.nx.inv.tot, hG.nx.inv.lv, hG.nx.inv.nt, hG.nx.inv.last⟩, hG.nx.len, hG.nx.row⟩, hG.mks, hG.srt⟩) (by rw [e]; exact hd) hr
    exact ⟨this.1, this.2.1, (fun h => by rw [h2] at h; cases h), this.2.2.2⟩
 | up k ih =>
  intro a ms g r b hm hl hg hd hr
  have := ih a.up ms g r b hm hl (fun h' => by have hG := hg h'; exact ⟨⟨⟨hG.nx.inv.tot, hG.nx.inv.lv, hG.nx.inv.nt, hG.nx.inv.last⟩, hG.nx.len, hG.nx.row⟩, hG.mks, hG.srt⟩) hd hr
  exact this
 | fail c k ih =>
  intro a ms g r b hm hl hg hd hr
  obtain ⟨hc, hm⟩ := hm
  simp only [runM] at hr
  have hdf : dgOK Z (a.fail c) := by
   rcases live_cases a with ⟨d, h1, h2⟩ | ⟨h1, h2⟩
   ·have e : a.fail c = a := by unfold A.fail; rw [h1]
    rw [e]; exact hd
   ·exact fail_dgOK hT hZ (hg h2).nx.inv.tot hd hc
  have := ih (a.fail c) ms g r b hm hl (fun h' => by rw [fail_is_dead] at h'; cases h') hdf hr
  exact ⟨this.1, this.2.1, fun _ => this.2.2.1 (fail_is_dead c), this.2.2.2⟩
 | names ns k ih =>
  intro a ms g r b hm hl hg hd hr
  simp only [runM] at hr
  split at hr
  rotate_left
  ·cases hr
  unfold A.names at hr
  split at hr
  ·have hdf : dgOK Z (a.fail 201) := by
    rcases live_cases a with ⟨d, h1, h2⟩ | ⟨h1, h2⟩
    ·have e : a.fail 201 = a := by unfold A.fail; rw [h1]
     rw [e]; exact hd
    ·exact fail_dgOK hT hZ (hg h2).nx.inv.tot hd (.inl rfl)
   have := ih (a.fail 201) ms g r b hm hl (fun h' => by rw [fail_is_dead] at h'; cases h') hdf hr
   exact ⟨this.1, this.2.1, fun _ => this.2.2.1 (fail_is_dead 201), this.2.2.2⟩
  ·exact ih a ms g r b hm hl hg hd hr
 | group ns any k ih =>
  intro a ms g r b hm hl hg hd hr
  simp only [runM] at hr
  split at hr
  rotate_left
  ·cases hr
  obtain ⟨hn, hm⟩ := hm
  rcases live_cases a with ⟨d, h1, h2⟩ | ⟨h1, h2⟩
  ·have e : a.group any (entsOf ms ns) = a := by unfold A.group; rw [h1]
   rw [e] at hr
   exact ih a ms 0 r b hm (by omega) (fun h' => by rw [h2] at h'; cases h') hd hr
  ·have hG := hg h2
   have hDS := DS_rev (row := a.row) (base := base) a.row.length ns ms base [] hG.nx.len trivial (fun i hi => by
    obtain ⟨q, q1, q2, q3⟩ := hG.mks i (by omega)
    exact ⟨q, q1, q2, q2, q3.1, q3⟩) (fun i j hij hj => hG.srt i j hij (by omega))
   rw [List.append_nil] at hDS
   have e : a.group any (entsOf ms ns) = (backGroups any (entsOf ms ns).reverse).foldl (fun b g => A.group1 g b) a := by unfold A.group; rw [h1]
   rw [e] at hr
   obtain ⟨c1, c2⟩ := groups_inv hT hZ base _ a a.row.length h1 hG.nx.inv hG.nx.len (Nat.le_refl _) (GLs_of any hDS)
   rw [hG.nx.row] at c2
   have := ih _ ms 0 r b hm (by omega) (fun h' => ⟨c2 h', fun i hi => by omega, fun i j _ hj => by omega⟩) c1 hr
   exact ⟨this.1, this.2.1, (fun h => by rw [h2] at h; cases h), this.2.2.2⟩
 | call pr hs k ih =>
  intro a ms g r b hm hl hg hd hr
  obtain ⟨⟨hwf, hs1, hs2, hs3⟩, hm⟩ := hm
  simp only [runM] at hr
  split at hr
  rotate_left
  ·cases hr
  rename_i r1 b1 hc
  have hC := hcf _ _ _ _ _ hwf hc
  by_cases hz : hs.length = 0
  ·have hn : hs = [] := List.eq_nil_of_length_eq_zero hz
   subst hn
   simp only [List.map_nil, List.length_nil, if_true] at hC hm
   obtain ⟨k1, k2, k3, k4⟩ := hC hs2 a.row.length a.row (fun h => ⟨⟨(hg h).nx.inv, Nat.le_refl _, List.take_length⟩, fun i hi => (by rw [← hs2] at hi; simp at hi), fun i j _ hj => (by rw [← hs2] at hj; simp at hj)⟩) hd
   have hda : b1.dead = false → a.dead = false := fun h => by
    cases hd' : a.dead with
    | false => rfl
    | true => rw [k3 hd'] at h; cases h
   have := ih r1 b1 ms g r b (hm r1 k1) hl (fun h => (hg (hda h)).pre (k4 h).inv ⟨b1.row.drop a.row.length, by
    have e := (k4 h).row
    conv => rhs; rw [← List.take_append_drop a.row.length b1.row]
    rw [e]⟩) k2 hr
   exact ⟨this.1, this.2.1, fun h => this.2.2.1 (k3 h), this.2.2.2⟩
  ·rw [if_neg hz] at hm
   have hget : ∀ i, i < ar pr → (hs.map fun h => ms.getD h 0)[i]? = some (ms.getD i 0) := by
    intro i hi
    rw [List.getElem?_map, hs1, List.getElem?_range (by omega)]; rfl
   by_cases hda0 : a.dead = false
   ·have hG := hg hda0
    obtain ⟨q, q1, q2, q3⟩ := hG.mks 0 (by omega)
    obtain ⟨k1, k2, k3, k4⟩ := hC (by rw [List.length_map]; exact hs2) q (a.row.take q) (fun h => ⟨⟨hG.nx.inv, q3.1, rfl⟩, fun i hi => by
      obtain ⟨m, m1, m2, m3⟩ := hG.mks i (by omega)
      refine ⟨m, by rw [hget i hi, getD_mk m1], ?_, m3⟩
      have := hG.srt 0 i (by omega) (by omega)
      rw [getD_mk q1, getD_mk m1] at this
      omega, fun i j hij hj => by
      rw [List.getD_eq_getElem?_getD, List.getD_eq_getElem?_getD, hget i (by omega), hget j hj]
      exact hG.srt i j hij (by omega)⟩) hd
    have := ih r1 b1 ms (min g 1) r b (hm r1 k1) (by omega) (fun h => hG.cut (h := 0) (by omega) q1 (k4 h)) k2 hr
    exact ⟨this.1, this.2.1, fun h => this.2.2.1 (k3 h), this.2.2.2⟩
   ·have hda1 : a.dead = true := by simpa using hda0
    obtain ⟨k1, k2, k3, k4⟩ := hC (by rw [List.length_map]; exact hs2) 0 [] (fun h => absurd h hda0) hd
    have := ih r1 b1 ms (min g 1) r b (hm r1 k1) (by omega) (fun h => by rw [k3 hda1] at h; cases h) k2 hr
    exact ⟨this.1, this.2.1, fun h => this.2.2.1 (k3 h), this.2.2.2⟩
end
end Go.AI.Rd
section
namespace Go.AI.Rd
theorem MS.ite {P : Int → Prop} {c : Prop} [Decidable c] {A B : M} {g l : Nat} (h1 : MS P A g l) (h2 : MS P B g l) : MS P (if c then A else B) g l := by split <;> assumption
set_option maxHeartbeats 2000000 in
theorem ms_all (pr : Proc) (h : WF pr) : MS (RK pr) (body pr) (ar pr) (ar pr) := by
 cases pr <;> simp only [WF] at h <;> simp only [body, go, done, kind, comes, taken, expect, itemsM, unaryM, primM, valuesM, elemsM, entryM, groupM, ar] <;>
  (repeat' (with_reducible first
   | trivial
   | assumption
   | (refine MS.ite ?_ ?_)
   | (intro _)
   | (apply And.intro)
   | (simp only [MS, RK, WF, ar, List.length_nil, List.length_cons, List.length_range, if_true, if_false]; done)
   | (simp only [MS, RK, WF, ar, List.length_nil, List.length_cons, List.length_range, if_true, if_false])))
 all_goals first
  | omega
  | (simp only [List.length_append, List.length_cons, List.length_nil]; omega)
  | exact h.2
  | exact h.1
  | exact h.1.symm
  | exact h.2.2
  | exact h.2.1
  | exact h.2.1.symm
theorem callN_inv {L : List Tok} {Z : Int} (hT : TokOK L Z) (hZ : 0 ≤ Z) : ∀ (n : Nat) (pr : Proc) (a : A) (ms : List Int) (r : Int) (b : A), WF pr → callN n pr a ms = some (r, b) → CallOK L Z pr a ms r b
 | 0, pr, a, ms, r, b, hw, h => by simp [callN] at h
 | n + 1, pr, a, ms, r, b, hw, h => fun hl base R hg hd =>
  run_inv hT hZ (callN_inv hT hZ n) base R (RK pr) (body pr) a ms (ar pr) r b (by rw [hl]; exact ms_all pr hw) (by omega) hg hd h
end Go.AI.Rd
end
namespace Go.AI
theorem Addr.add_at (b o n : Nat) : (⟨b, o, none⟩ : Addr).add n = ⟨b, o + n, none⟩ := by
 unfold Addr.add; split <;> simp_all
inductive FRel (w : World) (S : Nat → Nat → Prop) (g : Nat) : AV → Value → Prop
 | undef (v : Value) : FRel w S g .undef v
 | skip : FRel w S g .skip Go.undef
 | int (n : Int) : FRel w S g (.int n) (.int .i64 n)
 | bool (b : Bool) : FRel w S g (.bool b) (.bool b)
 | ik (k : IntKind) (n : Int) : FRel w S g (.ik k n) (.int k n)
 | str (s : ByteArray) : FRel w S g (.str s) (.string s)
 | rdr (i : Nat) : FRel w S g (.rdr i) (.pointer (some ⟨g, i, none⟩))
 | cbox (a : AV) (v : Value) (b : Nat) (hs : S b 0) (hc : w.cell? ⟨b, 0, none⟩ = some v) (ho : a.one = true) (h : FRel w S g a v) :
   FRel w S g (.cbox a) (.pointer (some ⟨b, 0, none⟩))
 | nil (a : Option Addr) : FRel w S g .nil (.slice a 0 0)
 | sl0 (e : El) (a : Option Addr) (c : Nat) : FRel w S g (.sl e []) (.slice a 0 c)
 | sl (e : El) (xs : List e.T) (b off c : Nat) (V : Nat → Nat → Value) (hc : xs.length ≤ c) (hn : 0 < xs.length)
   (hV : ∀ i j, i < xs.length → j < e.sz → FRel w S g ((e.enc (xs.getD i e.dflt)).getD j .undef) (V i j))
   (hm : ∀ i j, i < xs.length → j < e.sz → S b (off + i * e.sz + j) ∧ w.cell? ⟨b, off + i * e.sz + j, none⟩ = some (V i j)) :
   FRel w S g (.sl e xs) (.slice (some ⟨b, off, none⟩) xs.length c)
 | spt (e : El) (x : e.T) (o b off : Nat) (V : Nat → Value)
   (hV : ∀ j, j < e.sz → FRel w S g ((e.enc x).getD j .undef) (V j))
   (hm : ∀ j, j < e.sz → S b (off + j) ∧ w.cell? ⟨b, off + j, none⟩ = some (V j)) :
   FRel w S g (.spt e x o) (.pointer (some ⟨b, off + o, none⟩))
 | clos (f : Nat) (fst cap : List AV) (vf vc : List Value) (h1 : fst.length = vf.length) (h2 : cap.length = vc.length)
   (o1 : fst.all AV.one = true) (o2 : cap.all AV.one = true)
   (hf : ∀ i, i < fst.length → FRel w S g (fst.getD i .undef) (vf.getD i Go.undef))
   (hc : ∀ i, i < cap.length → FRel w S g (cap.getD i .undef) (vc.getD i Go.undef)) :
   FRel w S g (.clos f fst cap) (.func (.func f) vf.toArray vc.toArray)
 | agg (l : List AV) (vs : List Value) (hl : l.length = vs.length) (ho : l.all AV.one = true)
   (h : ∀ i, i < l.length → FRel w S g (l.getD i .undef) (vs.getD i Go.undef)) : FRel w S g (.agg l) (.agg vs.toArray)
 | tup (l : List AV) (vs : List Value) (hl : l.length = vs.length)
   (h : ∀ i, i < l.length → FRel w S g (l.getD i .undef) (vs.getD i Go.undef)) : FRel w S g (.tup l) (.tuple vs.toArray)
theorem FRel.stay {w w' : World} {S S' : Nat → Nat → Prop} {g : Nat} (hw : ∀ b o x, S b o → w.cell? ⟨b, o, none⟩ = some x → w'.cell? ⟨b, o, none⟩ = some x)
  (hS : ∀ b o, S b o → S' b o) {a : AV} {v : Value} (h : FRel w S g a v) : FRel w' S' g a v := by
 induction h with
 | undef v => exact .undef v
 | skip => exact .skip
 | int n => exact .int n
 | bool b => exact .bool b
 | ik k n => exact .ik k n
 | str s => exact .str s
 | rdr i => exact .rdr i
 | cbox a v b hs hc ho _ ih => exact .cbox a v b (hS _ _ hs) (hw _ _ _ hs hc) ho ih
 | nil a => exact .nil a
 | sl0 e a c => exact .sl0 e a c
 | sl e xs b off c V hc hn _ hm ih => exact .sl e xs b off c V hc hn ih fun i j hi hj => ⟨hS _ _ (hm i j hi hj).1, hw _ _ _ (hm i j hi hj).1 (hm i j hi hj).2⟩
 | spt e x o b off V _ hm ih => exact .spt e x o b off V ih fun j hj => ⟨hS _ _ (hm j hj).1, hw _ _ _ (hm j hj).1 (hm j hj).2⟩
 | clos f fst cap vf vc h1 h2 o1 o2 _ _ ih1 ih2 => exact .clos f fst cap vf vc h1 h2 o1 o2 ih1 ih2
 | agg l vs hl ho _ ih => exact .agg l vs hl ho ih
 | tup l vs hl _ ih => exact .tup l vs hl ih
theorem FRel.oneCell {w : World} {S : Nat → Nat → Prop} {g : Nat} {a : AV} {v : Value} (h : FRel w S g a v) (ho : a.one = true) : v.oneCell' = true := by
 cases h <;> first | rfl | simp [AV.one] at ho
theorem FRel.cellsOne {w : World} {S : Nat → Nat → Prop} {g : Nat} {a : AV} {v : Value} (h : FRel w S g a v) (ho : a.one = true) : v.cells = #[v] := by
 cases h <;> first | rfl | simp [AV.one] at ho
def CR (w : World) (S : Nat → Nat → Prop) (g : Nat) (l : List AV) (vs : List Value) : Prop :=
 l.length = vs.length ∧ ∀ i, i < l.length → FRel w S g (l.getD i .undef) (vs.getD i Go.undef)
def encL (e : El) (l : List e.T) : List AV := l.flatMap e.enc
theorem El.enc_length (e : El) (x : e.T) : (e.enc x).length = e.sz := by cases e <;> rfl
theorem El.enc_one (e : El) (x : e.T) : (e.enc x).all AV.one = true := by cases e <;> rfl
theorem El.sz_pos (e : El) : 0 < e.sz := by cases e <;> decide
theorem encL_length (e : El) (l : List e.T) : (encL e l).length = l.length * e.sz := by
 induction l with
 | nil => simp [encL]
 | cons x l ih =>
  have : encL e (x :: l) = e.enc x ++ encL e l := by simp [encL]
  rw [this, List.length_append, ih, El.enc_length, List.length_cons, Nat.add_mul]; omega
theorem encL_append (e : El) (l m : List e.T) : encL e (l ++ m) = encL e l ++ encL e m := by simp [encL]
theorem encL_getD (e : El) (l : List e.T) (i j : Nat) (hi : i < l.length) (hj : j < e.sz) : (encL e l).getD (i * e.sz + j) .undef = (e.enc (l.getD i e.dflt)).getD j .undef := by
 induction l generalizing i with
 | nil => simp at hi
 | cons x l ih =>
  have hx : encL e (x :: l) = e.enc x ++ encL e l := by simp [encL]
  have hlen := El.enc_length e x
  rw [hx]
  cases i with
  | zero =>
   simp only [Nat.zero_mul, Nat.zero_add, List.getD_cons_zero]
   rw [List.getD_eq_getElem?_getD, List.getD_eq_getElem?_getD, List.getElem?_append_left (by omega)]
  | succ i =>
   simp only [List.getD_cons_succ]
   rw [← ih i (by simpa using hi)]
   rw [List.getD_eq_getElem?_getD, List.getD_eq_getElem?_getD, List.getElem?_append_right (by rw [hlen, Nat.add_mul]; omega)]
   congr 2
   rw [hlen, Nat.add_mul]; omega
theorem CR.stay {w w' : World} {S S' : Nat → Nat → Prop} {g : Nat} (hw : ∀ b o x, S b o → w.cell? ⟨b, o, none⟩ = some x → w'.cell? ⟨b, o, none⟩ = some x)
  (hS : ∀ b o, S b o → S' b o) {l : List AV} {vs : List Value} (h : CR w S g l vs) : CR w' S' g l vs := ⟨h.1, fun i hi => (h.2 i hi).stay hw hS⟩
theorem getD_append_left {α : Type} (l m : List α) (d : α) (i : Nat) (h : i < l.length) : (l ++ m).getD i d = l.getD i d := by
 rw [List.getD_eq_getElem?_getD, List.getD_eq_getElem?_getD, List.getElem?_append_left h]
theorem getD_append_right {α : Type} (l m : List α) (d : α) (i : Nat) (h : l.length ≤ i) : (l ++ m).getD i d = m.getD (i - l.length) d := by
 rw [List.getD_eq_getElem?_getD, List.getD_eq_getElem?_getD, List.getElem?_append_right h]
theorem getD_take {α : Type} (l : List α) (d : α) (n i : Nat) (h : i < n) : (l.take n).getD i d = l.getD i d := by
 rw [List.getD_eq_getElem?_getD, List.getD_eq_getElem?_getD, List.getElem?_take_of_lt h]
theorem getD_drop {α : Type} (l : List α) (d : α) (n i : Nat) : (l.drop n).getD i d = l.getD (n + i) d := by
 rw [List.getD_eq_getElem?_getD, List.getD_eq_getElem?_getD, List.getElem?_drop]
theorem getD_of_get? {α : Type} {l : List α} {d x : α} {i : Nat} (h : l[i]? = some x) : l.getD i d = x := by rw [List.getD_eq_getElem?_getD, h]; rfl
theorem get?_of_lt {α : Type} {l : List α} (d : α) {i : Nat} (h : i < l.length) : l[i]? = some (l.getD i d) := by
 rw [List.getD_eq_getElem?_getD, List.getElem?_eq_getElem h]; rfl
theorem CR.append {w : World} {S : Nat → Nat → Prop} {g : Nat} {l m : List AV} {vs us : List Value} (h : CR w S g l vs) (k : CR w S g m us) : CR w S g (l ++ m) (vs ++ us) := by
 refine ⟨by simp [h.1, k.1], fun i hi => ?_⟩
 by_cases hl : i < l.length
 ·rw [getD_append_left _ _ _ _ hl, getD_append_left _ _ _ _ (by rw [← h.1]; exact hl)]; exact h.2 i hl
 ·rw [getD_append_right _ _ _ _ (by omega), getD_append_right _ _ _ _ (by rw [← h.1]; omega), ← h.1]
  exact k.2 _ (by simp at hi; omega)
theorem CR.nil (w : World) (S : Nat → Nat → Prop) (g : Nat) : CR w S g [] [] := ⟨rfl, fun i hi => by simp at hi⟩
theorem CR.take {w : World} {S : Nat → Nat → Prop} {g : Nat} {l : List AV} {vs : List Value} (h : CR w S g l vs) (n : Nat) : CR w S g (l.take n) (vs.take n) := by
 refine ⟨by simp [h.1], fun i hi => ?_⟩
 have : i < n ∧ i < l.length := by simp at hi; omega
 rw [getD_take _ _ _ _ this.1, getD_take _ _ _ _ this.1]; exact h.2 i this.2
theorem CR.drop {w : World} {S : Nat → Nat → Prop} {g : Nat} {l : List AV} {vs : List Value} (h : CR w S g l vs) (n : Nat) : CR w S g (l.drop n) (vs.drop n) := by
 refine ⟨by simp [h.1], fun i hi => ?_⟩
 rw [getD_drop, getD_drop]; exact h.2 _ (by simp at hi; omega)
theorem encL_take (e : El) (l : List e.T) (n : Nat) : encL e (l.take n) = (encL e l).take (n * e.sz) := by
 induction l generalizing n with
 | nil => simp [encL]
 | cons x l ih =>
  cases n with
  | zero => simp [encL]
  | succ n =>
   have hx : ∀ l, encL e (x :: l) = e.enc x ++ encL e l := fun l => by simp [encL]
   rw [List.take_succ_cons, hx, hx, ih, Nat.add_mul, Nat.one_mul, List.take_append, List.take_of_length_le (l := e.enc x) (by rw [El.enc_length]; omega), El.enc_length]
   congr 2; omega
theorem encL_drop (e : El) (l : List e.T) (n : Nat) : encL e (l.drop n) = (encL e l).drop (n * e.sz) := by
 induction l generalizing n with
 | nil => simp [encL]
 | cons x l ih =>
  cases n with
  | zero => simp
  | succ n =>
   have hx : encL e (x :: l) = e.enc x ++ encL e l := by simp [encL]
   rw [List.drop_succ_cons, hx, ih, Nat.add_mul, Nat.one_mul, List.drop_append, List.drop_of_length_le (l := e.enc x) (by rw [El.enc_length]; omega), El.enc_length, List.nil_append]
   congr 1; omega
structure Cx where
 w : World
 S : Nat → Nat → Prop      -- the cells that stay
 g : Nat                   -- the state's struct
 κ : Nat → Option Nat      -- the owned lists' blocks
 β : Nat → Nat             -- the variables' blocks
def CellsAt (w : World) (b off : Nat) (vs : List Value) : Prop := ∀ j x, vs[j]? = some x → w.cell? ⟨b, off + j, none⟩ = some x
def Blk (w : World) (b : Nat) (vs : List Value) (T : TypeId) : Prop := w.heap[b]? = some (.cells vs.toArray T (0, 0))
theorem Blk.lt {w : World} {b : Nat} {vs : List Value} {T : TypeId} (h : Blk w b vs T) : b < w.heap.size := (Array.getElem?_eq_some_iff.1 h).1
theorem Blk.cells {w : World} {b : Nat} {vs : List Value} {T : TypeId} (h : Blk w b vs T) : CellsAt w b 0 vs := by
 intro j x hx
 rw [cell_of_row w b (0 + j) vs.toArray T (0, 0) h, Nat.zero_add]
 simpa using hx
theorem CellsAt.drop {w : World} {b off : Nat} {vs : List Value} (h : CellsAt w b off vs) (n : Nat) : CellsAt w b (off + n) (vs.drop n) := by
 intro j x hx
 rw [List.getElem?_drop] at hx
 rw [Nat.add_assoc]; exact h _ x hx
theorem CellsAt.take {w : World} {b off : Nat} {vs : List Value} (h : CellsAt w b off vs) (n : Nat) : CellsAt w b off (vs.take n) := by
 intro j x hx
 rw [List.getElem?_take] at hx
 split at hx
 ·exact h j x hx
 ·cases hx
section
variable (tid : El → Nat)
def OwnR (c : Cx) (k : Nat) (e : El) (l : List e.T) (v : Value) : Prop :=
 (l = [] ∧ ∃ a, v = .slice a 0 0) ∨
 ∃ b vs, c.κ k = some b ∧ v.ownBlock = some b ∧ c.w.ownsRow 0 (tid e) e.sz v l.length vs ∧ CR c.w c.S c.g (encL e l) vs
def ViewR (c : Cx) (k : Nat) (e : El) (l : List e.T) (v : Value) : Prop :=
 (l = [] ∧ ∃ a m, v = .slice a 0 m) ∨
 ∃ b off m vs, c.κ k = some b ∧ v = .slice (some ⟨b, off, none⟩) l.length m ∧ l.length ≤ m ∧ CellsAt c.w b off vs ∧ CR c.w c.S c.g (encL e l) vs
def PtR (c : Cx) (k : Nat) (e : El) (x : e.T) (o : Nat) (v : Value) : Prop :=
 ∃ b off vs, c.κ k = some b ∧ v = .pointer (some ⟨b, off + o, none⟩) ∧ CellsAt c.w b off vs ∧ CR c.w c.S c.g (e.enc x) vs
def OptR (c : Cx) (k : Nat) (e : El) (x : e.T) (i : Int) (o : Nat) (v : Value) : Prop :=
 ∃ b us T, c.κ k = some b ∧ v = .pointer (some ⟨b, i.toNat * e.sz + o, none⟩) ∧ Blk c.w b us T ∧ i.toNat * e.sz + e.sz ≤ us.length ∧ CR c.w c.S c.g (e.enc x) ((us.drop (i.toNat * e.sz)).take e.sz)
def A1 (c : Cx) (σ : St) : AV → Value → Prop
 | .lbox k i, v => v = .pointer (some ⟨c.β k, i, none⟩) ∧ getB σ.b k ≠ []
 | .own k ver e l, v => (∃ a n m, v = .slice a n m) ∧ ver ≤ σ.c ∧ (ver = getV σ.v k → OwnR tid c k e l v)
 | .vw k ver e l, v => ver ≤ σ.c ∧ (ver = getV σ.v k → ViewR c k e l v)
 | .vpt k ver e x o, v => ∃ ad, v = .pointer (some ad) ∧ ver ≤ σ.c ∧ (ver = getV σ.v k → PtR c k e x o v)
 | .opt k ver e x i o, v => ∃ ad, v = .pointer (some ad) ∧ ver ≤ σ.c ∧ (ver = getV σ.v k → OptR c k e x i o v)
 | a, v => FRel c.w c.S c.g a v
def AR (c : Cx) (σ : St) : AV → Value → Prop
 | .agg l, v => ∃ vs : List Value, v = .agg vs.toArray ∧ l.length = vs.length ∧ ∀ i, i < l.length → A1 tid c σ (l.getD i .undef) (vs.getD i Go.undef)
 | a, v => A1 tid c σ a v
theorem A1.of_F {c : Cx} {σ : St} {a : AV} {v : Value} (h : FRel c.w c.S c.g a v) : A1 tid c σ a v := by
 cases h <;> first
  | exact .undef _ | exact .skip | exact .int _ | exact .bool _ | exact .ik _ _ | exact .str _ | exact .rdr _ | exact .nil _ | exact .sl0 _ _ _
  | exact .cbox _ _ _ ‹_› ‹_› ‹_› ‹_› | exact .sl _ _ _ _ _ _ ‹_› ‹_› ‹_› ‹_› | exact .spt _ _ _ _ _ _ ‹_› ‹_›
  | exact .clos _ _ _ _ _ ‹_› ‹_› ‹_› ‹_› ‹_› ‹_› | exact .agg _ _ ‹_› ‹_› ‹_› | exact .tup _ _ ‹_› ‹_›
theorem A1.to_F {c : Cx} {σ : St} {a : AV} {v : Value} (h : A1 tid c σ a v) (ho : a.fz1 = true) : FRel c.w c.S c.g a v := by
 cases a <;> first | exact h | simp [AV.fz1, AV.one] at ho
theorem AV.fz1_of_one {a : AV} (h : a.one = true) : a.fz1 = true := by cases a <;> first | rfl | simp [AV.one] at h
theorem AV.cell_of_one {a : AV} (h : a.one = true) : a.cell = true := by cases a <;> first | rfl | simp [AV.one] at h
theorem AR.of_A1 {c : Cx} {σ : St} {a : AV} {v : Value} (h : A1 tid c σ a v) (hn : ∀ l, a ≠ .agg l) : AR tid c σ a v := by
 cases a <;> first | exact h | exact absurd rfl (hn _)
theorem AR.to_A1 {c : Cx} {σ : St} {a : AV} {v : Value} (h : AR tid c σ a v) (hn : ∀ l, a ≠ .agg l) : A1 tid c σ a v := by
 cases a <;> first | exact h | exact absurd rfl (hn _)
theorem AR.of_F {c : Cx} {σ : St} {a : AV} {v : Value} (h : FRel c.w c.S c.g a v) : AR tid c σ a v := by
 cases h with
 | agg l vs hl ho h => exact ⟨vs, rfl, hl, fun i hi => A1.of_F tid (h i hi)⟩
 | _ => exact AR.of_A1 tid (A1.of_F tid (by constructor <;> assumption)) (by intro l h; cases h)
theorem one_of_all {l : List AV} {p : AV → Bool} (h : l.all p = true) (i : Nat) (hi : i < l.length) : p (l.getD i .undef) = true := by
 rw [List.all_eq_true] at h
 rw [List.getD_eq_getElem?_getD, List.getElem?_eq_getElem hi]
 exact h _ (List.getElem_mem hi)
theorem AR.to_F {c : Cx} {σ : St} {a : AV} {v : Value} (h : AR tid c σ a v) (ho : a.fz = true) : FRel c.w c.S c.g a v := by
 cases a with
 | agg l =>
  obtain ⟨vs, rfl, hl, h⟩ := h
  exact .agg l vs hl ho fun i hi => (h i hi).to_F tid (AV.fz1_of_one (one_of_all ho i hi))
 | _ => exact (h.to_A1 tid (by intro l h; cases h)).to_F tid ho
theorem A1.oneCell {c : Cx} {σ : St} {x : AV} {v : Value} (h : A1 tid c σ x v) (hx : x.cell = true) : v.oneCell' = true ∧ v.cells = #[v] := by
 cases x with
 | own k ver e l => obtain ⟨⟨a, n, m, rfl⟩, _⟩ := h; exact ⟨rfl, rfl⟩
 | _ => first
  | (simp [AV.cell, AV.one] at hx; done)
  | (have hf := A1.to_F tid h (AV.fz1_of_one hx); exact ⟨hf.oneCell hx, hf.cellsOne hx⟩)
theorem own_slice {c : Cx} {k : Nat} {e : El} {l : List e.T} {v : Value} (h : OwnR tid c k e l v) : ∃ a n m, v = .slice a n m := by
 rcases h with ⟨_, a, rfl⟩ | ⟨b, vs, _, hb, _, _⟩
 ·exact ⟨_, _, _, rfl⟩
 ·cases v <;> first | exact ⟨_, _, _, rfl⟩ | simp [Value.ownBlock] at hb
structure Keep (w0 : World) (F : Nat → Prop) (w : World) : Prop where
 os : w.os = w0.os
 tape : w.tape = w0.tape
 output : w.output = w0.output
 size : w0.heap.size ≤ w.heap.size
 block : ∀ b, b < w0.heap.size → ¬ F b → w.heap[b]? = w0.heap[b]?
theorem Keep.refl (w : World) (F : Nat → Prop) : Keep w F w := ⟨rfl, rfl, rfl, Nat.le_refl _, fun _ _ _ => rfl⟩
structure Base where
 w0 : World
 F0 : Nat → Prop
 S0 : Nat → Nat → Prop
 g0 : Nat
def Base.mine (B : Base) (b : Nat) : Prop := B.F0 b ∨ B.w0.heap.size ≤ b
def RowR (c : Cx) (σ : St) (b : Nat) (l : List AV) : Prop :=
 ∃ vs T, Blk c.w b vs T ∧ l.length = vs.length ∧ ∀ i, i < l.length → A1 tid c σ (l.getD i .undef) (vs.getD i Go.undef)
structure Rel (B : Base) (N : Nat) (c : Cx) (σ : St) (a : Act) (w : World) : Prop where
 hw : c.w = w
 ds : a.defers = [] ∧ c.g = B.g0
 n : a.tmps.size = N
 t : ∀ i, AR tid c σ (getT σ.t i) (a.tmps.getD i Go.undef)
 b : ∀ k, getB σ.b k ≠ [] → RowR tid c σ (c.β k) (getB σ.b k)
 s : σ.s ≠ [] → RowR tid c σ c.g σ.s
 ver : ∀ k, getV σ.v k ≤ σ.c
 fz : ∀ k b, k ∈ σ.fr → c.κ k = some b → ∀ o, c.S b o
 own : ∀ k b, k ∉ σ.fr → c.κ k = some b → B.mine b ∧ b < w.heap.size ∧ (∀ o, ¬ c.S b o) ∧ (σ.s ≠ [] → b ≠ c.g) ∧ ∀ j, getB σ.b j ≠ [] → b ≠ c.β j
 inj : ∀ k k' b, k ∉ σ.fr → k' ∉ σ.fr → c.κ k = some b → c.κ k' = some b → k = k'
 box : ∀ k, getB σ.b k ≠ [] → B.w0.heap.size ≤ c.β k ∧ (∀ o, ¬ c.S (c.β k) o) ∧ (σ.s ≠ [] → c.β k ≠ c.g) ∧ ∀ j, getB σ.b j ≠ [] → c.β j = c.β k → j = k
 gg : σ.s ≠ [] → B.mine c.g ∧ ∀ o, ¬ c.S c.g o
 old : ∀ b o, c.S b o → B.S0 b o ∨ B.mine b
 grow : ∀ b o, B.S0 b o → c.S b o
 stsz : ∀ b o, c.S b o → b < w.heap.size
 keep : Keep B.w0 B.F0 w
end
end Go.AI
