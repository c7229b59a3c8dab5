/- DERIVED. THE EVALUATOR, THE READER, THE SCANNER: lemmas for Lossless. -/
import Derived.Test.YtoppjmglhddleaaBa
import Derived.KernelRfl
set_option linter.unusedVariables false
set_option linter.unusedSimpArgs false
section
set_option maxRecDepth 100000
namespace Go.AI
abbrev Call := (τ : STy) → Nat → List AV → τ.T → Option (AV × τ.T)
def tysT : List (Nat × Ty) := [(3, ⟨false, [.int 0], [], [], [], none⟩),
 (4, ⟨false, [.bool false], [], [], [], none⟩),
 (9, ⟨false, [.str ByteArray.empty], [], [], [], none⟩),
 (22, ⟨false, [.nil], [], [], [], some .tok⟩),
 (24, ⟨false, [.undef], [], [], [], none⟩),
 (27, ⟨false, [.nil], [], [], [], some .node⟩),
 (29, ⟨true, [.int 0, .int 0, .int 0], [0, 1, 2], [1, 1, 1], [3, 3, 3], none⟩),
 (35, ⟨true, [.int 0, .int 0, .int 0, .nil], [0, 1, 2, 3], [1, 1, 1, 1], [3, 3, 3, 27], none⟩),
 (38, ⟨true, [.int 0, .int 0, .int 0], [0, 1, 2], [1, 1, 1], [3, 3, 3], none⟩),
 (40, ⟨false, [.nil], [], [], [], some .diag⟩),
 (44, ⟨false, [.nil], [], [], [], some .int⟩),
 (45, ⟨false, [.nil], [], [], [], some .made⟩),
 (47, ⟨true, [.nil, .nil, .int 0, .int 0, .nil, .int 0, .int 0, .int 0, .int 0, .bool false], [0, 1, 2, 3, 4, 5, 6, 9], [1, 1, 1, 1, 1, 1, 3, 1], [22, 44, 3, 3, 45, 3, 29, 4], none⟩),
 (58, ⟨true, [.int 0, .int 0, .int 0, .nil, .int 0], [0, 4], [4, 1], [35, 3], none⟩),
 (61, ⟨false, [.nil], [], [], [], some .ent⟩),
 (63, ⟨true, [.int 0, .int 0, .bool false], [0, 1, 2], [1, 1, 1], [3, 3, 4], none⟩),
 (77, ⟨false, [.nil], [], [], [], some .str⟩),
 (96, ⟨false, [.nil], [], [], [], some .u8⟩)]
def shsT : List (Nat × Sh) := [(3, .i), (4, .b), (9, .str), (22, (.s .tok)), (24, (.n .prog)), (27, (.s .node)), (29, (.e .diag)), (30, (.t3 (.s .node) (.e .diag) .b)), (32, (.t2 .i .b)), (35, (.e .node)), (38, (.e .tok)), (40, (.s .diag)), (41, (.t2 (.s .tok) (.s .diag))), (44, (.s .int)), (45, (.s .made)), (58, (.e .made)), (61, (.s .ent)), (63, (.e .ent)), (68, (.t2 (.e .tok) (.e .diag))), (74, (.t3 .i .str .b)), (77, (.s .str)), (79, (.t2 .str .b)), (82, (.t3 .str .i .i)), (84, (.t3 .i .i .i)), (86, (.t2 .i .i)), (92, (.t3 .i .str .i)), (96, (.s .u8))]
def stysT : List (Nat × STy) := [(6, .prog), (17, .prog), (16, .prog), (20, .prog), (18, .prog), (23, .prog), (30, .prog), (40, .prog), (41, .prog), (54, .prog), (55, .prog), (35, .prog), (36, .prog), (44, .prog), (32, .prog), (24, .prog), (59, .prog), (42, .prog), (60, .prog), (72, .prog), (73, .prog), (74, .prog), (75, .prog), (76, .prog), (77, .prog), (90, .prog), (97, .prog), (28, .prog), (10, .prog), (34, .prog), (26, .prog), (8, .prog), (21, .prog), (33, .prog), (87, .prog), (7, .prog), (19, .prog), (29, .prog), (88, .prog), (22, .prog), (50, .prog), (51, .prog), (63, .prog), (52, .prog), (53, .prog), (9, .prog), (25, .prog), (27, .prog), (45, .prog), (46, .prog), (47, .prog), (48, .prog), (49, .prog), (61, .prog), (31, .prog), (62, .prog), (78, .prog), (11, .prog)]
def tidT : El → Nat
 | .int => 3
 | .bool => 4
 | .tok => 38
 | .diag => 29
 | .node => 35
 | .made => 58
 | .ent => 63
 | .str => 9
 | .u8 => 5
def eqsT : List (Nat × Bool) := [(29, true), (38, true), (4, false)]
def cvsT : List (Nat × Cv) := [(2, .ik .i64), (3, .ik .i64), (5, .ik .u8), (9, .str), (12, .ik .u64), (21, .ik .i32), (96, .bytes), (99, .ik .u64), (106, .ik .u32)]
def T0 : Tab := ⟨tidT, tysT, shsT, stysT, cvsT, eqsT⟩
def X.n : Nat := 6
def X1.n : Nat := 17
def deeper.n : Nat := 16
def node.n : Nat := 20
def binary.n : Nat := 18
def Kind.n : Nat := 23
def Mark.n : Nat := 30
def Down.n : Nat := 40
def Up.n : Nat := 41
def Ahead.n : Nat := 54
def here.n : Nat := 55
def Fail.n : Nat := 35
def leaves.n : Nat := 36
def Take.n : Nat := 44
def Close.n : Nat := 32
def None_.n : Nat := 24
def primary.n : Nat := 59
def unary.n : Nat := 42
def unary1.n : Nat := 60
def operand.n : Nat := 72
def period.n : Nat := 73
def index.n : Nat := 74
def arguments.n : Nat := 75
def literal.n : Nat := 76
def values.n : Nat := 77
def value.n : Nat := 90
def value1.n : Nat := 97
def Name.n : Nat := 28
def List_.n : Nat := 10
def List1.n : Nat := 34
def Expect.n : Nat := 26
def Sig.n : Nat := 8
def Sig1.n : Nat := 21
def comes.n : Nat := 33
def flat.n : Nat := 87
def Type_.n : Nat := 7
def form.n : Nat := 19
def taken.n : Nat := 29
def unless_.n : Nat := 88
def named.n : Nat := 89
def Params.n : Nat := 22
def Params1.n : Nat := 50
def entry.n : Nat := 51
def entry1.n : Nat := 63
def names.n : Nat := 52
def group.n : Nat := 53
def TParams.n : Nat := 9
def TParams1.n : Nat := 25
def TParams11.n : Nat := 27
def Index.n : Nat := 64
def Contains.n : Nat := 56
def qualified.n : Nat := 45
def elements.n : Nat := 46
def items.n : Nat := 47
def field.n : Nat := 48
def element.n : Nat := 49
def embedded.n : Nat := 61
def union.n : Nat := 31
def hasName.n : Nat := 62
def partner.n : Nat := 78
def Done.n : Nat := 11
def NewReader.n : Nat := 5
def Prec.n : Nat := 43
def s1more.n : Nat := 96
def Width.n : Nat := 85
def s2cut.n : Nat := 91
def Signs.n : Nat := 95
def Keywords.n : Nat := 79
def Keyword.n : Nat := 68
def Operator.n : Nat := 84
def sEnds.n : Nat := 38
def sDigit.n : Nat := 92
def srow.n : Nat := 80
def Digits.n : Nat := 69
def number.n : Nat := 98
def UTF8.n : Nat := 99
def Escape.n : Nat := 93
def Unquote.n : Nat := 82
def sChar.n : Nat := 94
def sRune.n : Nat := 83
def letter.n : Nat := 66
def digit.n : Nat := 67
def blank.n : Nat := 65
def sfind.n : Nat := 58
def quoted.n : Nat := 81
def said.n : Nat := 86
def sNext.n : Nat := 57
def stext.n : Nat := 70
def sother.n : Nat := 71
def sends.n : Nat := 39
def Bare.n : Nat := 37
def Scan.n : Nat := 14
def toks.n : Nat := 4
def leavesF.n : Nat := 13
def neat.n : Nat := 12
def ExprLossless.n : Nat := 3
section
open Go.Proofs.Try
abbrev OU := Option (AV × Unit)
abbrev OP := Option (AV × PS)
abbrev OQ := Option (AV × QS)
variable (call : Call) (lim : Nat)
noncomputable def X.I : FnI := { fn := f6, masks := [] }
theorem X_eq (head : Bool) (p : PS) : evalBody T0 call .prog lim X.I [.rdr 0, .bool head] p =
cX call .u .prog deeper.n [.rdr 0, .clos X1.n [] [.cbox (.rdr 0), .cbox (.bool head)]] p fun _ (p2 : PS) =>
some (.undef, p2) := by kernel_rfl
noncomputable def X1.I : FnI := { fn := f17, masks := [] }
theorem X1_eq (head : Bool) (p : PS) : evalBody T0 call .prog lim X1.I [.cbox (.rdr 0), .cbox (.bool head)] p =
cX call .u .prog binary.n [.rdr 0, .int 1, .bool head] p fun _ (p2 : PS) =>
some (.undef, p2) := by kernel_rfl
noncomputable def deeper.I : FnI := { fn := f16, masks := [] }
theorem deeper_eq (f : Nat) (fa fc : List AV) (p : PS) : evalBody T0 call .prog lim deeper.I [.rdr 0, .clos f fa fc] p =
cX call .b .prog Down.n [.rdr 0] p fun (x1 : Bool) (p2 : PS) =>
if x1 then
cX call .u .prog f (fa ++ ([] ++ fc)) p2 fun _ (p4 : PS) =>
cX call .u .prog Up.n [.rdr 0] p4 fun _ (p6 : PS) =>
some (.undef, p6)
else
some (.undef, p2) := by kernel_rfl
noncomputable def node.I : FnI := { fn := f20, masks := [] }
theorem node_eq (kind : Int) (f : Nat) (fa fc : List AV) (p : PS) : evalBody T0 call .prog lim node.I [.rdr 0, .int kind, .clos f fa fc] p =
cX call .i .prog Mark.n [.rdr 0] p fun (x1 : Int) (p2 : PS) =>
cX call .u .prog f (fa ++ ([] ++ fc)) p2 fun _ (p4 : PS) =>
cX call .u .prog Close.n [.rdr 0, .int x1, .int kind] p4 fun _ (p6 : PS) =>
some (.undef, p6) := by kernel_rfl
noncomputable def binary.I : FnI := { fn := f18, masks := [(0, { t := [0, 1, 2, 6, 7] })] }
noncomputable def binary.l0 (n0 : Nat) (a8 : Int) (a9 : Bool) (a10 a11 : Int) (p : PS) : OP := lpN T0 call .prog (FnI.mask binary.I) lim (Func.code f18).r1.r1.r1.l1.l1 0 n0 (Kblk 0 (fin T0 .prog binary.I)) ⟨[(0, .rdr 0), (1, .int a8), (2, .bool a9), (6, .int a10), (7, .int a11)], [], STy.enc .prog 0 p, [], 0, []⟩
theorem binary.l0_succ (n0 : Nat) (a8 : Int) (a9 : Bool) (a10 a11 : Int) (p : PS) : binary.l0 call lim (n0 + 1) a8 a9 a10 a11 p =
if (decide (a11 > 0)) then
if (decide (a11 ≥ a8)) then
cX call .u .prog Take.n [.rdr 0] p fun _ (p13 : PS) =>
cX call .u .prog binary.n [.rdr 0, .int (IntKind.i64.wrap (a11 + 1)), .bool a9] p13 fun _ (p15 : PS) =>
cX call .u .prog Close.n [.rdr 0, .int a10, .int 206] p15 fun _ (p17 : PS) =>
cX call .i .prog Kind.n [.rdr 0] p17 fun (x18 : Int) (p19 : PS) =>
cX call .i .unit Prec.n [.int x18] () fun (x20 : Int) _ =>
binary.l0 call lim n0 a8 a9 a10 x20 p19
else
some (.undef, p)
else
some (.undef, p) := by kernel_rfl
theorem binary_eq (q : Int) (head : Bool) (p : PS) : evalBody T0 call .prog lim binary.I [.rdr 0, .int q, .bool head] p =
cX call .i .prog Mark.n [.rdr 0] p fun (x1 : Int) (p2 : PS) =>
cX call .u .prog unary.n [.rdr 0, .bool head] p2 fun _ (p4 : PS) =>
cX call .i .prog Kind.n [.rdr 0] p4 fun (x5 : Int) (p6 : PS) =>
cX call .i .unit Prec.n [.int x5] () fun (x7 : Int) _ =>
binary.l0 call lim lim q head x1 x7 p6 := by kernel_rfl
noncomputable def Kind.I : FnI := { fn := f23, masks := [] }
theorem Kind_eq (p : PS) : evalBody T0 call .prog lim Kind.I [.rdr 0] p =
cX call .i .prog Ahead.n [.rdr 0, .int 0] p fun (x1 : Int) (p2 : PS) =>
some (.int x1, p2) := by kernel_rfl
noncomputable def Mark.I : FnI := { fn := f30, masks := [] }
theorem Mark_eq (p : PS) : evalBody T0 call .prog lim Mark.I [.rdr 0] p =
some (.int ((p.row).length : Int), p) := by kernel_rfl
noncomputable def Down.I : FnI := { fn := f40, masks := [] }
noncomputable def Down.j0 (call : Call) (lim : Nat) (p : PS) : OP :=
if p.failed then
some (.bool false, p)
else
some (.bool true, { p with opn := (IntKind.i64.wrap (p.opn + 1)) })
theorem Down_eq (p : PS) : evalBody T0 call .prog lim Down.I [.rdr 0] p =
if (!p.failed) then
if (decide (p.opn = 100)) then
cX call .u .prog Fail.n [.rdr 0, .int 202] p fun _ (p2 : PS) =>
Down.j0 call lim p2
else
Down.j0 call lim p
else
Down.j0 call lim p := by kernel_rfl
noncomputable def Up.I : FnI := { fn := f41, masks := [] }
theorem Up_eq (p : PS) : evalBody T0 call .prog lim Up.I [.rdr 0] p =
some (.undef, { p with opn := (max (IntKind.i64.wrap (p.opn - 1)) 0) }) := by kernel_rfl
noncomputable def Ahead.I : FnI := { fn := f54, masks := [] }
theorem Ahead_eq (n : Int) (p : PS) : evalBody T0 call .prog lim Ahead.I [.rdr 0, .int n] p =
if p.failed then
some (.int 0, p)
else
if (decide (n < 0)) then
some (.int 0, p)
else
if (decide (n ≥ (IntKind.i64.wrap (((p.sig).length : Int) - p.next)))) then
some (.int 0, p)
else
if 0 ≤ (IntKind.i64.wrap (p.next + n)) then
if (IntKind.i64.wrap (p.next + n)) < ((p.sig).length : Int) then
if 0 ≤ (List.getD p.sig (Int.toNat (IntKind.i64.wrap (p.next + n))) (0 : Int)) then
if (List.getD p.sig (Int.toNat (IntKind.i64.wrap (p.next + n))) (0 : Int)) < ((p.l).length : Int) then
some (.int ((List.getD p.l (Int.toNat (List.getD p.sig (Int.toNat (IntKind.i64.wrap (p.next + n))) (0 : Int))) (⟨0, 0, 0⟩ : Tok)).k), p)
else none
else none
else none
else none := by kernel_rfl
noncomputable def here.I : FnI := { fn := f55, masks := [] }
theorem here_eq (p : PS) : evalBody T0 call .prog lim here.I [.rdr 0] p =
if (decide (p.next > 0)) then
if 0 ≤ (IntKind.i64.wrap (p.next - 1)) then
if (IntKind.i64.wrap (p.next - 1)) < ((p.sig).length : Int) then
if 0 ≤ (List.getD p.sig (Int.toNat (IntKind.i64.wrap (p.next - 1))) (0 : Int)) then
if (List.getD p.sig (Int.toNat (IntKind.i64.wrap (p.next - 1))) (0 : Int)) < ((p.l).length : Int) then
some (.int ((List.getD p.l (Int.toNat (List.getD p.sig (Int.toNat (IntKind.i64.wrap (p.next - 1))) (0 : Int))) (⟨0, 0, 0⟩ : Tok)).t), p)
else none
else none
else none
else none
else
if (decide (((p.sig).length : Int) > 0)) then
if 0 ≤ 0 then
if 0 < ((p.sig).length : Int) then
if 0 ≤ (List.getD p.sig (Int.toNat 0) (0 : Int)) then
if (List.getD p.sig (Int.toNat 0) (0 : Int)) < ((p.l).length : Int) then
some (.int ((List.getD p.l (Int.toNat (List.getD p.sig (Int.toNat 0) (0 : Int))) (⟨0, 0, 0⟩ : Tok)).f), p)
else none
else none
else none
else none
else
if (decide (((p.l).length : Int) > 0)) then
if 0 ≤ 0 then
if 0 < ((p.l).length : Int) then
some (.int ((List.getD p.l (Int.toNat 0) (⟨0, 0, 0⟩ : Tok)).f), p)
else none
else none
else
some (.int 0, p) := by kernel_rfl
noncomputable def Fail.I : FnI := { fn := f35, masks := [] }
theorem Fail_eq (code : Int) (p : PS) : evalBody T0 call .prog lim Fail.I [.rdr 0, .int code] p =
if p.failed then
some (.undef, p)
else
cX call .i .prog here.n [.rdr 0] p fun (x1 : Int) (p2 : PS) =>
if (decide (p2.next < ((p2.sig).length : Int))) then
if 0 ≤ p2.next then
if p2.next < ((p2.sig).length : Int) then
if 0 ≤ (List.getD p2.sig (Int.toNat p2.next) (0 : Int)) then
if (List.getD p2.sig (Int.toNat p2.next) (0 : Int)) < ((p2.l).length : Int) then
some (.undef, { p2 with dc := code, df := (List.getD p2.l (Int.toNat (List.getD p2.sig (Int.toNat p2.next) (0 : Int))) (⟨0, 0, 0⟩ : Tok)).f, dt := (List.getD p2.l (Int.toNat (List.getD p2.sig (Int.toNat p2.next) (0 : Int))) (⟨0, 0, 0⟩ : Tok)).t, failed := true })
else none
else none
else none
else none
else
some (.undef, { p2 with dc := code, df := x1, dt := x1, failed := true }) := by kernel_rfl
noncomputable def leaves.I : FnI := { fn := f36, masks := [(0, { t := [0, 1, 15, 16, 17] })] }
noncomputable def leaves.l0 (n0 : Nat) (a1 : Int) (l2 : List Tok) (a3 a4 : Int) (p : PS) : OP := lpN T0 call .prog (FnI.mask leaves.I) lim (Func.code f36).l1.r1.l1.l1 0 n0 (Kblk 0 (Kseq T0 call .prog (FnI.mask leaves.I) lim (Func.code f36).r1 0 (fin T0 .prog leaves.I))) ⟨[(0, .rdr 0), (1, .int a1), (15, .sl .tok l2), (16, .int a3), (17, .int a4)], [], STy.enc .prog 0 p, [], 0, []⟩
theorem leaves.l0_succ (n0 : Nat) (a1 : Int) (l2 : List Tok) (a3 a4 : Int) (p : PS) : leaves.l0 call lim (n0 + 1) a1 l2 a3 a4 p =
if (decide (a4 < a3)) then
if 0 ≤ a4 then
if a4 < ((l2).length : Int) then
if (p.row).length + ([(⟨(Node.mk ((List.getD l2 (Int.toNat a4) (⟨0, 0, 0⟩ : Tok)).k) ((List.getD l2 (Int.toNat a4) (⟨0, 0, 0⟩ : Tok)).f) ((List.getD l2 (Int.toNat a4) (⟨0, 0, 0⟩ : Tok)).t) []), 0⟩ : Made)]).length < maxRow then
leaves.l0 call lim n0 a1 l2 a3 (IntKind.i64.wrap (a4 + 1)) ({ p with row := (p.row ++ [(⟨(Node.mk ((List.getD l2 (Int.toNat a4) (⟨0, 0, 0⟩ : Tok)).k) ((List.getD l2 (Int.toNat a4) (⟨0, 0, 0⟩ : Tok)).f) ((List.getD l2 (Int.toNat a4) (⟨0, 0, 0⟩ : Tok)).t) []), 0⟩ : Made)]) })
else none
else none
else none
else
some (.undef, { p with read := a1 }) := by kernel_rfl
theorem leaves_eq (to : Int) (p : PS) : evalBody T0 call .prog lim leaves.I [.rdr 0, .int to] p =
if 0 ≤ to then
if to ≤ ((p.l).length : Int) then
if 0 ≤ p.read then
if p.read ≤ to then
leaves.l0 call lim lim to (List.drop (Int.toNat p.read) (List.take (Int.toNat to) p.l)) (((List.drop (Int.toNat p.read) (List.take (Int.toNat to) p.l))).length : Int) 0 p
else none
else none
else none
else none := by kernel_rfl
noncomputable def Take.I : FnI := { fn := f44, masks := [] }
theorem Take_eq (p : PS) : evalBody T0 call .prog lim Take.I [.rdr 0] p =
cX call .i .prog Kind.n [.rdr 0] p fun (x1 : Int) (p2 : PS) =>
if (decide (x1 ≠ 0)) then
if 0 ≤ p2.next then
if p2.next < ((p2.sig).length : Int) then
cX call .u .prog leaves.n [.rdr 0, .int (IntKind.i64.wrap ((List.getD p2.sig (Int.toNat p2.next) (0 : Int)) + 1))] p2 fun _ (p4 : PS) =>
some (.undef, { p4 with next := (IntKind.i64.wrap (p4.next + 1)) })
else none
else none
else
some (.undef, p2) := by kernel_rfl
noncomputable def Close.I : FnI := { fn := f32, masks := [(0, { t := [0, 1, 2] }), (2, { t := [0, 1, 6, 54, 55, 56], b := [(6, [(3, 79, .node)])] })] }
noncomputable def Close.l0 (n0 : Nat) (a1 a2 : Int) (p : PS) : OP := lpN T0 call .prog (FnI.mask Close.I) lim (Func.code f32).r1.r1.l1.l1.l1 0 n0 (Kblk 0 (Kseq T0 call .prog (FnI.mask Close.I) lim (Func.code f32).r1.r1.r1 0 (fin T0 .prog Close.I))) ⟨[(0, .rdr 0), (1, .int a1), (2, .int a2)], [], STy.enc .prog 0 p, [], 0, []⟩
noncomputable def Close.l2 (n2 : Nat) (a7 : Int) (l8 : List Made) (a9 a10 a11 a12 a13 : Int) (l14 : List Node) (a15 : Int) (p : PS) : OP := lpN T0 call .prog (FnI.mask Close.I) lim (Func.code f32).r1.r1.r1.r1.l1.r1.l1.l1 2 n2 (Kblk 2 (Kseq T0 call .prog (FnI.mask Close.I) lim (Func.code f32).r1.r1.r1.r1.r1 0 (fin T0 .prog Close.I))) ⟨[(0, .rdr 0), (1, .int a7), (6, .lbox 6 0), (54, .vw 1004 0 .made l8), (55, .int a9), (56, .int a10)], [(6, [.int a11, .int a12, .int a13, .own 79 0 .node l14, .int a15])], STy.enc .prog 0 p, [], 0, []⟩
theorem Close.l2_succ (n2 : Nat) (a7 : Int) (l8 : List Made) (a9 a10 a11 a12 a13 : Int) (l14 : List Node) (a15 : Int) (p : PS) : Close.l2 call lim (n2 + 1) a7 l8 a9 a10 a11 a12 a13 l14 a15 p =
if (decide (a10 < a9)) then
if 0 ≤ a10 then
if a10 < ((l8).length : Int) then
if (decide (a10 = 0)) then
if (l14).length + ([(Node.mk (Node.k ((List.getD l8 (Int.toNat a10) (El.dflt .made)).n)) (Node.f ((List.getD l8 (Int.toNat a10) (El.dflt .made)).n)) (Node.t ((List.getD l8 (Int.toNat a10) (El.dflt .made)).n)) (Node.kids ((List.getD l8 (Int.toNat a10) (El.dflt .made)).n)))]).length < maxRow then
Close.l2 call lim n2 a7 l8 a9 (IntKind.i64.wrap (a10 + 1)) a11 (Node.f ((List.getD l8 (Int.toNat a10) (El.dflt .made)).n)) (Node.t ((List.getD l8 (Int.toNat a10) (El.dflt .made)).n)) (l14 ++ [(Node.mk (Node.k ((List.getD l8 (Int.toNat a10) (El.dflt .made)).n)) (Node.f ((List.getD l8 (Int.toNat a10) (El.dflt .made)).n)) (Node.t ((List.getD l8 (Int.toNat a10) (El.dflt .made)).n)) (Node.kids ((List.getD l8 (Int.toNat a10) (El.dflt .made)).n)))]) (max a15 (IntKind.i64.wrap (((List.getD l8 (Int.toNat a10) (El.dflt .made)).h) + 1))) p
else none
else
if (l14).length + ([(Node.mk (Node.k ((List.getD l8 (Int.toNat a10) (El.dflt .made)).n)) (Node.f ((List.getD l8 (Int.toNat a10) (El.dflt .made)).n)) (Node.t ((List.getD l8 (Int.toNat a10) (El.dflt .made)).n)) (Node.kids ((List.getD l8 (Int.toNat a10) (El.dflt .made)).n)))]).length < maxRow then
Close.l2 call lim n2 a7 l8 a9 (IntKind.i64.wrap (a10 + 1)) a11 a12 (Node.t ((List.getD l8 (Int.toNat a10) (El.dflt .made)).n)) (l14 ++ [(Node.mk (Node.k ((List.getD l8 (Int.toNat a10) (El.dflt .made)).n)) (Node.f ((List.getD l8 (Int.toNat a10) (El.dflt .made)).n)) (Node.t ((List.getD l8 (Int.toNat a10) (El.dflt .made)).n)) (Node.kids ((List.getD l8 (Int.toNat a10) (El.dflt .made)).n)))]) (max a15 (IntKind.i64.wrap (((List.getD l8 (Int.toNat a10) (El.dflt .made)).h) + 1))) p
else none
else none
else none
else
if 0 ≤ a7 then
if a7 ≤ ((p.row).length : Int) then
if ((List.take (Int.toNat a7) p.row)).length + ([(⟨(Node.mk a11 a12 a13 l14), a15⟩ : Made)]).length < maxRow then
if (decide (a15 > 100)) then
cX call .u .prog Fail.n [.rdr 0, .int 202] ({ p with row := ((List.take (Int.toNat a7) p.row) ++ [(⟨(Node.mk a11 a12 a13 l14), a15⟩ : Made)]) }) fun _ (p17 : PS) =>
some (.undef, p17)
else
some (.undef, { p with row := ((List.take (Int.toNat a7) p.row) ++ [(⟨(Node.mk a11 a12 a13 l14), a15⟩ : Made)]) })
else none
else none
else none := by kernel_rfl
theorem Close.l0_succ (n0 : Nat) (a1 a2 : Int) (p : PS) : Close.l0 call lim (n0 + 1) a1 a2 p =
if (decide (a1 < ((p.row).length : Int))) then
if 0 ≤ a1 then
if a1 < ((p.row).length : Int) then
if (decide ((Node.k ((List.getD p.row (Int.toNat a1) (El.dflt .made)).n)) < 10)) then
Close.l0 call lim n0 (IntKind.i64.wrap (a1 + 1)) a2 p
else
cX call .i .prog here.n [.rdr 0] p fun (x3 : Int) (p4 : PS) =>
cX call .i .prog here.n [.rdr 0] p4 fun (x5 : Int) (p6 : PS) =>
if 0 ≤ a1 then
if a1 ≤ ((p6.row).length : Int) then
Close.l2 call lim lim a1 (List.drop (Int.toNat a1) p6.row) (((List.drop (Int.toNat a1) p6.row)).length : Int) 0 a2 x3 x5 [] 1 p6
else none
else none
else none
else none
else
cX call .i .prog here.n [.rdr 0] p fun (x18 : Int) (p19 : PS) =>
cX call .i .prog here.n [.rdr 0] p19 fun (x20 : Int) (p21 : PS) =>
if 0 ≤ a1 then
if a1 ≤ ((p21.row).length : Int) then
Close.l2 call lim lim a1 (List.drop (Int.toNat a1) p21.row) (((List.drop (Int.toNat a1) p21.row)).length : Int) 0 a2 x18 x20 [] 1 p21
else none
else none := by kernel_rfl
theorem Close_eq (mark kind : Int) (p : PS) : evalBody T0 call .prog lim Close.I [.rdr 0, .int mark, .int kind] p =
if p.failed then
some (.undef, p)
else
Close.l0 call lim lim (min (max mark 0) ((p.row).length : Int)) kind p := by kernel_rfl
noncomputable def None_.I : FnI := { fn := f24, masks := [] }
theorem None__eq (p : PS) : evalBody T0 call .prog lim None_.I [.rdr 0] p =
if (!p.failed) then
cX call .i .prog here.n [.rdr 0] p fun (x1 : Int) (p2 : PS) =>
if (p2.row).length + ([(⟨(Node.mk 200 x1 x1 []), 0⟩ : Made)]).length < maxRow then
some (.undef, { p2 with row := (p2.row ++ [(⟨(Node.mk 200 x1 x1 []), 0⟩ : Made)]) })
else none
else
some (.undef, p) := by kernel_rfl
noncomputable def primary.I : FnI := { fn := f59, masks := [(0, { t := [0, 1, 4] })] }
noncomputable def primary.l0 (n0 : Nat) (a5 : Bool) (a6 : Int) (p : PS) : OP := lpN T0 call .prog (FnI.mask primary.I) lim (Func.code f59).l1.r1.r1.r1.l1.l1 0 n0 (Kblk 0 (fin T0 .prog primary.I)) ⟨[(0, .rdr 0), (1, .bool a5), (4, .int a6)], [], STy.enc .prog 0 p, [], 0, []⟩
theorem primary.l0_succ (n0 : Nat) (a5 : Bool) (a6 : Int) (p : PS) : primary.l0 call lim (n0 + 1) a5 a6 p =
cX call .i .prog Kind.n [.rdr 0] p fun (x7 : Int) (p8 : PS) =>
if (decide (x7 = 61)) then
cX call .u .prog Take.n [.rdr 0] p8 fun _ (p10 : PS) =>
cX call .i .prog period.n [.rdr 0] p10 fun (x11 : Int) (p12 : PS) =>
cX call .u .prog Close.n [.rdr 0, .int a6, .int x11] p12 fun _ (p14 : PS) =>
primary.l0 call lim n0 a5 a6 p14
else
if (decide (x7 = 58)) then
cX call .u .prog Take.n [.rdr 0] p8 fun _ (p16 : PS) =>
cX call .i .prog index.n [.rdr 0] p16 fun (x17 : Int) (p18 : PS) =>
cX call .u .prog Close.n [.rdr 0, .int a6, .int x17] p18 fun _ (p20 : PS) =>
primary.l0 call lim n0 a5 a6 p20
else
if (decide (x7 = 57)) then
cX call .u .prog Take.n [.rdr 0] p8 fun _ (p22 : PS) =>
cX call .u .prog arguments.n [.rdr 0] p22 fun _ (p24 : PS) =>
cX call .u .prog Close.n [.rdr 0, .int a6, .int 210] p24 fun _ (p26 : PS) =>
primary.l0 call lim n0 a5 a6 p26
else
if (decide (x7 = 59)) then
cX call .b .prog literal.n [.rdr 0, .int a6, .bool a5] p8 fun (x27 : Bool) (p28 : PS) =>
if (!x27) then
some (.undef, p28)
else
cX call .u .prog values.n [.rdr 0] p28 fun _ (p30 : PS) =>
cX call .u .prog Close.n [.rdr 0, .int a6, .int 213] p30 fun _ (p32 : PS) =>
primary.l0 call lim n0 a5 a6 p32
else
some (.undef, p8) := by kernel_rfl
theorem primary_eq (head : Bool) (p : PS) : evalBody T0 call .prog lim primary.I [.rdr 0, .bool head] p =
cX call .i .prog Mark.n [.rdr 0] p fun (x1 : Int) (p2 : PS) =>
cX call .u .prog operand.n [.rdr 0] p2 fun _ (p4 : PS) =>
primary.l0 call lim lim head x1 p4 := by kernel_rfl
noncomputable def unary.I : FnI := { fn := f42, masks := [] }
noncomputable def unary.j0 (call : Call) (lim : Nat) (a3 : Bool) (a4 : Int) (p : PS) : OP :=
cX call .i .prog Mark.n [.rdr 0] p fun (x5 : Int) (p6 : PS) =>
cX call .u .prog Take.n [.rdr 0] p6 fun _ (p8 : PS) =>
cX call .u .prog deeper.n [.rdr 0, .clos unary1.n [] [.cbox (.rdr 0), .cbox (.bool a3)]] p8 fun _ (p10 : PS) =>
cX call .u .prog Close.n [.rdr 0, .int x5, .int a4] p10 fun _ (p12 : PS) =>
some (.undef, p12)
theorem unary_eq (head : Bool) (p : PS) : evalBody T0 call .prog lim unary.I [.rdr 0, .bool head] p =
cX call .i .prog Kind.n [.rdr 0] p fun (x1 : Int) (p2 : PS) =>
if (decide (x1 = 20)) then
if (decide (x1 = 20)) then
unary.j0 call lim head 204 p2
else
if (decide (x1 = 22)) then
unary.j0 call lim head 205 p2
else
cX call .u .prog primary.n [.rdr 0, .bool head] p2 fun _ (p14 : PS) =>
some (.undef, p14)
else
if (decide (x1 = 21)) then
if (decide (x1 = 21)) then
unary.j0 call lim head 204 p2
else
if (decide (x1 = 22)) then
unary.j0 call lim head 205 p2
else
cX call .u .prog primary.n [.rdr 0, .bool head] p2 fun _ (p16 : PS) =>
some (.undef, p16)
else
if (decide (x1 = 50)) then
if (decide (x1 = 50)) then
unary.j0 call lim head 204 p2
else
if (decide (x1 = 22)) then
unary.j0 call lim head 205 p2
else
cX call .u .prog primary.n [.rdr 0, .bool head] p2 fun _ (p18 : PS) =>
some (.undef, p18)
else
if (decide (x1 = 27)) then
if (decide (x1 = 27)) then
unary.j0 call lim head 204 p2
else
if (decide (x1 = 22)) then
unary.j0 call lim head 205 p2
else
cX call .u .prog primary.n [.rdr 0, .bool head] p2 fun _ (p20 : PS) =>
some (.undef, p20)
else
if (decide (x1 = 25)) then
unary.j0 call lim head 204 p2
else
if (decide (x1 = 22)) then
unary.j0 call lim head 205 p2
else
cX call .u .prog primary.n [.rdr 0, .bool head] p2 fun _ (p22 : PS) =>
some (.undef, p22) := by kernel_rfl
noncomputable def unary1.I : FnI := { fn := f60, masks := [] }
theorem unary1_eq (head : Bool) (p : PS) : evalBody T0 call .prog lim unary1.I [.cbox (.rdr 0), .cbox (.bool head)] p =
cX call .u .prog unary.n [.rdr 0, .bool head] p fun _ (p2 : PS) =>
some (.undef, p2) := by kernel_rfl
noncomputable def operand.I : FnI := { fn := f72, masks := [] }
noncomputable def operand.j0 (call : Call) (lim : Nat) (a7 a8 : Int) (a9 : Bool) (p : PS) : OP :=
if a9 then
cX call .u .prog node.n [.rdr 0, .int 202, .clos Take.n [.rdr 0] []] p fun _ (p11 : PS) =>
some (.undef, p11)
else
if (decide (a8 = 57)) then
cX call .u .prog Take.n [.rdr 0] p fun _ (p13 : PS) =>
cX call .u .prog X.n [.rdr 0, .bool false] p13 fun _ (p15 : PS) =>
cX call .b .prog Expect.n [.rdr 0, .int 62] p15 fun (x16 : Bool) (p17 : PS) =>
cX call .u .prog Close.n [.rdr 0, .int a7, .int 203] p17 fun _ (p19 : PS) =>
some (.undef, p19)
else
if (decide (a8 = 79)) then
cX call .u .prog Take.n [.rdr 0] p fun _ (p21 : PS) =>
cX call .u .prog Sig.n [.rdr 0] p21 fun _ (p23 : PS) =>
cX call .b .prog comes.n [.rdr 0, .sl .int [59]] p23 fun (x24 : Bool) (p25 : PS) =>
if x24 then
cX call .u .prog node.n [.rdr 0, .int 217, .clos flat.n [.rdr 0] []] p25 fun _ (p27 : PS) =>
cX call .u .prog Close.n [.rdr 0, .int a7, .int 216] p27 fun _ (p29 : PS) =>
some (.undef, p29)
else
cX call .u .prog Close.n [.rdr 0, .int a7, .int 223] p25 fun _ (p31 : PS) =>
some (.undef, p31)
else
if (decide (a8 = 58)) then
if (decide (a8 = 58)) then
cX call .u .prog Type_.n [.rdr 0] p fun _ (p33 : PS) =>
some (.undef, p33)
else
cX call .u .prog Fail.n [.rdr 0, .int 201] p fun _ (p35 : PS) =>
some (.undef, p35)
else
if (decide (a8 = 83)) then
if (decide (a8 = 83)) then
cX call .u .prog Type_.n [.rdr 0] p fun _ (p37 : PS) =>
some (.undef, p37)
else
cX call .u .prog Fail.n [.rdr 0, .int 201] p fun _ (p39 : PS) =>
some (.undef, p39)
else
if (decide (a8 = 87)) then
if (decide (a8 = 87)) then
cX call .u .prog Type_.n [.rdr 0] p fun _ (p41 : PS) =>
some (.undef, p41)
else
cX call .u .prog Fail.n [.rdr 0, .int 201] p fun _ (p43 : PS) =>
some (.undef, p43)
else
if (decide (a8 = 82)) then
cX call .u .prog Type_.n [.rdr 0] p fun _ (p45 : PS) =>
some (.undef, p45)
else
cX call .u .prog Fail.n [.rdr 0, .int 201] p fun _ (p47 : PS) =>
some (.undef, p47)
theorem operand_eq (p : PS) : evalBody T0 call .prog lim operand.I [.rdr 0] p =
cX call .i .prog Mark.n [.rdr 0] p fun (x1 : Int) (p2 : PS) =>
cX call .i .prog Kind.n [.rdr 0] p2 fun (x3 : Int) (p4 : PS) =>
if (decide (x3 = 10)) then
cX call .u .prog Name.n [.rdr 0] p4 fun _ (p6 : PS) =>
some (.undef, p6)
else
if (decide (x3 = 11)) then
operand.j0 call lim x1 x3 (decide (x3 = 11)) p4
else
if (decide (x3 = 12)) then
operand.j0 call lim x1 x3 (decide (x3 = 12)) p4
else
if (decide (x3 = 13)) then
operand.j0 call lim x1 x3 (decide (x3 = 13)) p4
else
operand.j0 call lim x1 x3 (decide (x3 = 14)) p4 := by kernel_rfl
noncomputable def period.I : FnI := { fn := f73, masks := [] }
theorem period_eq (p : PS) : evalBody T0 call .prog lim period.I [.rdr 0] p =
cX call .i .prog Kind.n [.rdr 0] p fun (x1 : Int) (p2 : PS) =>
if (decide (x1 = 10)) then
cX call .u .prog Name.n [.rdr 0] p2 fun _ (p4 : PS) =>
some (.int 207, p4)
else
cX call .b .prog Expect.n [.rdr 0, .int 57] p2 fun (x5 : Bool) (p6 : PS) =>
cX call .b .prog taken.n [.rdr 0, .sl .int [89]] p6 fun (x7 : Bool) (p8 : PS) =>
if (!x7) then
cX call .u .prog Type_.n [.rdr 0] p8 fun _ (p10 : PS) =>
cX call .b .prog Expect.n [.rdr 0, .int 62] p10 fun (x11 : Bool) (p12 : PS) =>
some (.int 211, p12)
else
cX call .b .prog Expect.n [.rdr 0, .int 62] p8 fun (x13 : Bool) (p14 : PS) =>
some (.int 212, p14) := by kernel_rfl
noncomputable def index.I : FnI := { fn := f74, masks := [(0, { t := [0] })] }
noncomputable def index.l0 (n0 : Nat) (p : PS) : OP := lpN T0 call .prog (FnI.mask index.I) lim (Func.code f74).r1.r1.r1.l1.l1.l1 0 n0 (Kblk 0 (Kseq T0 call .prog (FnI.mask index.I) lim (Func.code f74).r1.r1.r1.r1 0 (fin T0 .prog index.I))) ⟨[(0, .rdr 0)], [], STy.enc .prog 0 p, [], 0, []⟩
theorem index.l0_succ (n0 : Nat) (p : PS) : index.l0 call lim (n0 + 1) p =
cX call .b .prog taken.n [.rdr 0, .sl .int [60]] p fun (x25 : Bool) (p26 : PS) =>
if x25 then
cX call .b .prog comes.n [.rdr 0, .sl .int [63]] p26 fun (x27 : Bool) (p28 : PS) =>
if (!x27) then
cX call .u .prog X.n [.rdr 0, .bool false] p28 fun _ (p30 : PS) =>
index.l0 call lim n0 p30
else
index.l0 call lim n0 p28
else
cX call .b .prog Expect.n [.rdr 0, .int 63] p26 fun (x31 : Bool) (p32 : PS) =>
some (.int 208, p32) := by kernel_rfl
theorem index_eq (p : PS) : evalBody T0 call .prog lim index.I [.rdr 0] p =
cX call .b .prog unless_.n [.rdr 0, .sl .int [65]] p fun (x1 : Bool) (p2 : PS) =>
cX call .b .prog taken.n [.rdr 0, .sl .int [65]] p2 fun (x3 : Bool) (p4 : PS) =>
if x3 then
cX call .b .prog unless_.n [.rdr 0, .sl .int [65, 63]] p4 fun (x5 : Bool) (p6 : PS) =>
cX call .b .prog comes.n [.rdr 0, .sl .int [65]] p6 fun (x7 : Bool) (p8 : PS) =>
if x7 then
if x5 then
cX call .u .prog Fail.n [.rdr 0, .int 201] p8 fun _ (p10 : PS) =>
cX call .u .prog Take.n [.rdr 0] p10 fun _ (p12 : PS) =>
cX call .u .prog X.n [.rdr 0, .bool false] p12 fun _ (p14 : PS) =>
cX call .b .prog Expect.n [.rdr 0, .int 63] p14 fun (x15 : Bool) (p16 : PS) =>
some (.int 209, p16)
else
cX call .u .prog Take.n [.rdr 0] p8 fun _ (p18 : PS) =>
cX call .u .prog X.n [.rdr 0, .bool false] p18 fun _ (p20 : PS) =>
cX call .b .prog Expect.n [.rdr 0, .int 63] p20 fun (x21 : Bool) (p22 : PS) =>
some (.int 209, p22)
else
cX call .b .prog Expect.n [.rdr 0, .int 63] p8 fun (x23 : Bool) (p24 : PS) =>
some (.int 209, p24)
else
index.l0 call lim lim p4 := by kernel_rfl
noncomputable def arguments.I : FnI := { fn := f75, masks := [(0, { t := [0] })] }
noncomputable def arguments.l0 (n0 : Nat) (p : PS) : OP := lpN T0 call .prog (FnI.mask arguments.I) lim (Func.code f75).l1.l1.l1 0 n0 (Kblk 0 (Kseq T0 call .prog (FnI.mask arguments.I) lim (Func.code f75).r1 0 (fin T0 .prog arguments.I))) ⟨[(0, .rdr 0)], [], STy.enc .prog 0 p, [], 0, []⟩
theorem arguments.l0_succ (n0 : Nat) (p : PS) : arguments.l0 call lim (n0 + 1) p =
if (!p.failed) then
cX call .b .prog comes.n [.rdr 0, .sl .int [62]] p fun (x1 : Bool) (p2 : PS) =>
if (!x1) then
cX call .u .prog X.n [.rdr 0, .bool false] p2 fun _ (p4 : PS) =>
cX call .b .prog taken.n [.rdr 0, .sl .int [56]] p4 fun (x5 : Bool) (p6 : PS) =>
if x5 then
cX call .b .prog taken.n [.rdr 0, .sl .int [60]] p6 fun (x7 : Bool) (p8 : PS) =>
cX call .b .prog Expect.n [.rdr 0, .int 62] p8 fun (x9 : Bool) (p10 : PS) =>
some (.undef, p10)
else
cX call .b .prog taken.n [.rdr 0, .sl .int [60]] p6 fun (x11 : Bool) (p12 : PS) =>
if (!x11) then
cX call .b .prog Expect.n [.rdr 0, .int 62] p12 fun (x13 : Bool) (p14 : PS) =>
some (.undef, p14)
else
arguments.l0 call lim n0 p12
else
cX call .b .prog Expect.n [.rdr 0, .int 62] p2 fun (x15 : Bool) (p16 : PS) =>
some (.undef, p16)
else
cX call .b .prog Expect.n [.rdr 0, .int 62] p fun (x17 : Bool) (p18 : PS) =>
some (.undef, p18) := by kernel_rfl
theorem arguments_eq (p : PS) : evalBody T0 call .prog lim arguments.I [.rdr 0] p =
arguments.l0 call lim lim p := by kernel_rfl
noncomputable def literal.I : FnI := { fn := f76, masks := [(0, { t := [0, 1, 2] })] }
noncomputable def literal.l0 (n0 : Nat) (a1 : Int) (a2 : Bool) (p : PS) : OP := lpN T0 call .prog (FnI.mask literal.I) lim (Func.code f76).r1.l1.l1.l1 0 n0 (Kblk 0 (Kseq T0 call .prog (FnI.mask literal.I) lim (Func.code f76).r1.r1 0 (fin T0 .prog literal.I))) ⟨[(0, .rdr 0), (1, .int a1), (2, .bool a2)], [], STy.enc .prog 0 p, [], 0, []⟩
theorem literal.l0_succ (n0 : Nat) (a1 : Int) (a2 : Bool) (p : PS) : literal.l0 call lim (n0 + 1) a1 a2 p =
if (decide (a1 < ((p.row).length : Int))) then
if 0 ≤ a1 then
if a1 < ((p.row).length : Int) then
if (decide ((Node.k ((List.getD p.row (Int.toNat a1) (El.dflt .made)).n)) < 10)) then
literal.l0 call lim n0 (IntKind.i64.wrap (a1 + 1)) a2 p
else
if (decide (a1 ≥ ((p.row).length : Int))) then
some (.bool false, p)
else
if 0 ≤ a1 then
if a1 < ((p.row).length : Int) then
if (decide ((Node.k ((List.getD p.row (Int.toNat a1) (El.dflt .made)).n)) = 220)) then
if (decide ((Node.k ((List.getD p.row (Int.toNat a1) (El.dflt .made)).n)) = 220)) then
some (.bool true, p)
else
if (decide ((Node.k ((List.getD p.row (Int.toNat a1) (El.dflt .made)).n)) = 208)) then
if (!a2) then
if 0 ≤ 0 then
if 0 < (((Node.kids ((List.getD p.row (Int.toNat a1) (El.dflt .made)).n))).length : Int) then
cX call .b .unit named.n [.agg [.int (Node.k (List.getD (Node.kids ((List.getD p.row (Int.toNat a1) (El.dflt .made)).n)) (Int.toNat 0) (El.dflt .node))), .int (Node.f (List.getD (Node.kids ((List.getD p.row (Int.toNat a1) (El.dflt .made)).n)) (Int.toNat 0) (El.dflt .node))), .int (Node.t (List.getD (Node.kids ((List.getD p.row (Int.toNat a1) (El.dflt .made)).n)) (Int.toNat 0) (El.dflt .node))), .sl .node (Node.kids (List.getD (Node.kids ((List.getD p.row (Int.toNat a1) (El.dflt .made)).n)) (Int.toNat 0) (El.dflt .node)))]] () fun (x3 : Bool) _ =>
some (.bool x3, p)
else none
else none
else
some (.bool false, p)
else
if (!a2) then
cX call .b .unit named.n [.agg [.int (Node.k ((List.getD p.row (Int.toNat a1) (El.dflt .made)).n)), .int (Node.f ((List.getD p.row (Int.toNat a1) (El.dflt .made)).n)), .int (Node.t ((List.getD p.row (Int.toNat a1) (El.dflt .made)).n)), .sl .node (Node.kids ((List.getD p.row (Int.toNat a1) (El.dflt .made)).n))]] () fun (x4 : Bool) _ =>
some (.bool x4, p)
else
some (.bool false, p)
else
if (decide ((Node.k ((List.getD p.row (Int.toNat a1) (El.dflt .made)).n)) = 221)) then
if (decide ((Node.k ((List.getD p.row (Int.toNat a1) (El.dflt .made)).n)) = 221)) then
some (.bool true, p)
else
if (decide ((Node.k ((List.getD p.row (Int.toNat a1) (El.dflt .made)).n)) = 208)) then
if (!a2) then
if 0 ≤ 0 then
if 0 < (((Node.kids ((List.getD p.row (Int.toNat a1) (El.dflt .made)).n))).length : Int) then
cX call .b .unit named.n [.agg [.int (Node.k (List.getD (Node.kids ((List.getD p.row (Int.toNat a1) (El.dflt .made)).n)) (Int.toNat 0) (El.dflt .node))), .int (Node.f (List.getD (Node.kids ((List.getD p.row (Int.toNat a1) (El.dflt .made)).n)) (Int.toNat 0) (El.dflt .node))), .int (Node.t (List.getD (Node.kids ((List.getD p.row (Int.toNat a1) (El.dflt .made)).n)) (Int.toNat 0) (El.dflt .node))), .sl .node (Node.kids (List.getD (Node.kids ((List.getD p.row (Int.toNat a1) (El.dflt .made)).n)) (Int.toNat 0) (El.dflt .node)))]] () fun (x5 : Bool) _ =>
some (.bool x5, p)
else none
else none
else
some (.bool false, p)
else
if (!a2) then
cX call .b .unit named.n [.agg [.int (Node.k ((List.getD p.row (Int.toNat a1) (El.dflt .made)).n)), .int (Node.f ((List.getD p.row (Int.toNat a1) (El.dflt .made)).n)), .int (Node.t ((List.getD p.row (Int.toNat a1) (El.dflt .made)).n)), .sl .node (Node.kids ((List.getD p.row (Int.toNat a1) (El.dflt .made)).n))]] () fun (x6 : Bool) _ =>
some (.bool x6, p)
else
some (.bool false, p)
else
if (decide ((Node.k ((List.getD p.row (Int.toNat a1) (El.dflt .made)).n)) = 222)) then
if (decide ((Node.k ((List.getD p.row (Int.toNat a1) (El.dflt .made)).n)) = 222)) then
some (.bool true, p)
else
if (decide ((Node.k ((List.getD p.row (Int.toNat a1) (El.dflt .made)).n)) = 208)) then
if (!a2) then
if 0 ≤ 0 then
if 0 < (((Node.kids ((List.getD p.row (Int.toNat a1) (El.dflt .made)).n))).length : Int) then
cX call .b .unit named.n [.agg [.int (Node.k (List.getD (Node.kids ((List.getD p.row (Int.toNat a1) (El.dflt .made)).n)) (Int.toNat 0) (El.dflt .node))), .int (Node.f (List.getD (Node.kids ((List.getD p.row (Int.toNat a1) (El.dflt .made)).n)) (Int.toNat 0) (El.dflt .node))), .int (Node.t (List.getD (Node.kids ((List.getD p.row (Int.toNat a1) (El.dflt .made)).n)) (Int.toNat 0) (El.dflt .node))), .sl .node (Node.kids (List.getD (Node.kids ((List.getD p.row (Int.toNat a1) (El.dflt .made)).n)) (Int.toNat 0) (El.dflt .node)))]] () fun (x7 : Bool) _ =>
some (.bool x7, p)
else none
else none
else
some (.bool false, p)
else
if (!a2) then
cX call .b .unit named.n [.agg [.int (Node.k ((List.getD p.row (Int.toNat a1) (El.dflt .made)).n)), .int (Node.f ((List.getD p.row (Int.toNat a1) (El.dflt .made)).n)), .int (Node.t ((List.getD p.row (Int.toNat a1) (El.dflt .made)).n)), .sl .node (Node.kids ((List.getD p.row (Int.toNat a1) (El.dflt .made)).n))]] () fun (x8 : Bool) _ =>
some (.bool x8, p)
else
some (.bool false, p)
else
if (decide ((Node.k ((List.getD p.row (Int.toNat a1) (El.dflt .made)).n)) = 224)) then
some (.bool true, p)
else
if (decide ((Node.k ((List.getD p.row (Int.toNat a1) (El.dflt .made)).n)) = 208)) then
if (!a2) then
if 0 ≤ 0 then
if 0 < (((Node.kids ((List.getD p.row (Int.toNat a1) (El.dflt .made)).n))).length : Int) then
cX call .b .unit named.n [.agg [.int (Node.k (List.getD (Node.kids ((List.getD p.row (Int.toNat a1) (El.dflt .made)).n)) (Int.toNat 0) (El.dflt .node))), .int (Node.f (List.getD (Node.kids ((List.getD p.row (Int.toNat a1) (El.dflt .made)).n)) (Int.toNat 0) (El.dflt .node))), .int (Node.t (List.getD (Node.kids ((List.getD p.row (Int.toNat a1) (El.dflt .made)).n)) (Int.toNat 0) (El.dflt .node))), .sl .node (Node.kids (List.getD (Node.kids ((List.getD p.row (Int.toNat a1) (El.dflt .made)).n)) (Int.toNat 0) (El.dflt .node)))]] () fun (x9 : Bool) _ =>
some (.bool x9, p)
else none
else none
else
some (.bool false, p)
else
if (!a2) then
cX call .b .unit named.n [.agg [.int (Node.k ((List.getD p.row (Int.toNat a1) (El.dflt .made)).n)), .int (Node.f ((List.getD p.row (Int.toNat a1) (El.dflt .made)).n)), .int (Node.t ((List.getD p.row (Int.toNat a1) (El.dflt .made)).n)), .sl .node (Node.kids ((List.getD p.row (Int.toNat a1) (El.dflt .made)).n))]] () fun (x10 : Bool) _ =>
some (.bool x10, p)
else
some (.bool false, p)
else none
else none
else none
else none
else
if (decide (a1 ≥ ((p.row).length : Int))) then
some (.bool false, p)
else
if 0 ≤ a1 then
if a1 < ((p.row).length : Int) then
if (decide ((Node.k ((List.getD p.row (Int.toNat a1) (El.dflt .made)).n)) = 220)) then
if (decide ((Node.k ((List.getD p.row (Int.toNat a1) (El.dflt .made)).n)) = 220)) then
some (.bool true, p)
else
if (decide ((Node.k ((List.getD p.row (Int.toNat a1) (El.dflt .made)).n)) = 208)) then
if (!a2) then
if 0 ≤ 0 then
if 0 < (((Node.kids ((List.getD p.row (Int.toNat a1) (El.dflt .made)).n))).length : Int) then
cX call .b .unit named.n [.agg [.int (Node.k (List.getD (Node.kids ((List.getD p.row (Int.toNat a1) (El.dflt .made)).n)) (Int.toNat 0) (El.dflt .node))), .int (Node.f (List.getD (Node.kids ((List.getD p.row (Int.toNat a1) (El.dflt .made)).n)) (Int.toNat 0) (El.dflt .node))), .int (Node.t (List.getD (Node.kids ((List.getD p.row (Int.toNat a1) (El.dflt .made)).n)) (Int.toNat 0) (El.dflt .node))), .sl .node (Node.kids (List.getD (Node.kids ((List.getD p.row (Int.toNat a1) (El.dflt .made)).n)) (Int.toNat 0) (El.dflt .node)))]] () fun (x11 : Bool) _ =>
some (.bool x11, p)
else none
else none
else
some (.bool false, p)
else
if (!a2) then
cX call .b .unit named.n [.agg [.int (Node.k ((List.getD p.row (Int.toNat a1) (El.dflt .made)).n)), .int (Node.f ((List.getD p.row (Int.toNat a1) (El.dflt .made)).n)), .int (Node.t ((List.getD p.row (Int.toNat a1) (El.dflt .made)).n)), .sl .node (Node.kids ((List.getD p.row (Int.toNat a1) (El.dflt .made)).n))]] () fun (x12 : Bool) _ =>
some (.bool x12, p)
else
some (.bool false, p)
else
if (decide ((Node.k ((List.getD p.row (Int.toNat a1) (El.dflt .made)).n)) = 221)) then
if (decide ((Node.k ((List.getD p.row (Int.toNat a1) (El.dflt .made)).n)) = 221)) then
some (.bool true, p)
else
if (decide ((Node.k ((List.getD p.row (Int.toNat a1) (El.dflt .made)).n)) = 208)) then
if (!a2) then
if 0 ≤ 0 then
if 0 < (((Node.kids ((List.getD p.row (Int.toNat a1) (El.dflt .made)).n))).length : Int) then
cX call .b .unit named.n [.agg [.int (Node.k (List.getD (Node.kids ((List.getD p.row (Int.toNat a1) (El.dflt .made)).n)) (Int.toNat 0) (El.dflt .node))), .int (Node.f (List.getD (Node.kids ((List.getD p.row (Int.toNat a1) (El.dflt .made)).n)) (Int.toNat 0) (El.dflt .node))), .int (Node.t (List.getD (Node.kids ((List.getD p.row (Int.toNat a1) (El.dflt .made)).n)) (Int.toNat 0) (El.dflt .node))), .sl .node (Node.kids (List.getD (Node.kids ((List.getD p.row (Int.toNat a1) (El.dflt .made)).n)) (Int.toNat 0) (El.dflt .node)))]] () fun (x13 : Bool) _ =>
some (.bool x13, p)
else none
else none
else
some (.bool false, p)
else
if (!a2) then
cX call .b .unit named.n [.agg [.int (Node.k ((List.getD p.row (Int.toNat a1) (El.dflt .made)).n)), .int (Node.f ((List.getD p.row (Int.toNat a1) (El.dflt .made)).n)), .int (Node.t ((List.getD p.row (Int.toNat a1) (El.dflt .made)).n)), .sl .node (Node.kids ((List.getD p.row (Int.toNat a1) (El.dflt .made)).n))]] () fun (x14 : Bool) _ =>
some (.bool x14, p)
else
some (.bool false, p)
else
if (decide ((Node.k ((List.getD p.row (Int.toNat a1) (El.dflt .made)).n)) = 222)) then
if (decide ((Node.k ((List.getD p.row (Int.toNat a1) (El.dflt .made)).n)) = 222)) then
some (.bool true, p)
else
if (decide ((Node.k ((List.getD p.row (Int.toNat a1) (El.dflt .made)).n)) = 208)) then
if (!a2) then
if 0 ≤ 0 then
if 0 < (((Node.kids ((List.getD p.row (Int.toNat a1) (El.dflt .made)).n))).length : Int) then
cX call .b .unit named.n [.agg [.int (Node.k (List.getD (Node.kids ((List.getD p.row (Int.toNat a1) (El.dflt .made)).n)) (Int.toNat 0) (El.dflt .node))), .int (Node.f (List.getD (Node.kids ((List.getD p.row (Int.toNat a1) (El.dflt .made)).n)) (Int.toNat 0) (El.dflt .node))), .int (Node.t (List.getD (Node.kids ((List.getD p.row (Int.toNat a1) (El.dflt .made)).n)) (Int.toNat 0) (El.dflt .node))), .sl .node (Node.kids (List.getD (Node.kids ((List.getD p.row (Int.toNat a1) (El.dflt .made)).n)) (Int.toNat 0) (El.dflt .node)))]] () fun (x15 : Bool) _ =>
some (.bool x15, p)
else none
else none
else
some (.bool false, p)
else
if (!a2) then
cX call .b .unit named.n [.agg [.int (Node.k ((List.getD p.row (Int.toNat a1) (El.dflt .made)).n)), .int (Node.f ((List.getD p.row (Int.toNat a1) (El.dflt .made)).n)), .int (Node.t ((List.getD p.row (Int.toNat a1) (El.dflt .made)).n)), .sl .node (Node.kids ((List.getD p.row (Int.toNat a1) (El.dflt .made)).n))]] () fun (x16 : Bool) _ =>
some (.bool x16, p)
else
some (.bool false, p)
else
if (decide ((Node.k ((List.getD p.row (Int.toNat a1) (El.dflt .made)).n)) = 224)) then
some (.bool true, p)
else
if (decide ((Node.k ((List.getD p.row (Int.toNat a1) (El.dflt .made)).n)) = 208)) then
if (!a2) then
if 0 ≤ 0 then
if 0 < (((Node.kids ((List.getD p.row (Int.toNat a1) (El.dflt .made)).n))).length : Int) then
cX call .b .unit named.n [.agg [.int (Node.k (List.getD (Node.kids ((List.getD p.row (Int.toNat a1) (El.dflt .made)).n)) (Int.toNat 0) (El.dflt .node))), .int (Node.f (List.getD (Node.kids ((List.getD p.row (Int.toNat a1) (El.dflt .made)).n)) (Int.toNat 0) (El.dflt .node))), .int (Node.t (List.getD (Node.kids ((List.getD p.row (Int.toNat a1) (El.dflt .made)).n)) (Int.toNat 0) (El.dflt .node))), .sl .node (Node.kids (List.getD (Node.kids ((List.getD p.row (Int.toNat a1) (El.dflt .made)).n)) (Int.toNat 0) (El.dflt .node)))]] () fun (x17 : Bool) _ =>
some (.bool x17, p)
else none
else none
else
some (.bool false, p)
else
if (!a2) then
cX call .b .unit named.n [.agg [.int (Node.k ((List.getD p.row (Int.toNat a1) (El.dflt .made)).n)), .int (Node.f ((List.getD p.row (Int.toNat a1) (El.dflt .made)).n)), .int (Node.t ((List.getD p.row (Int.toNat a1) (El.dflt .made)).n)), .sl .node (Node.kids ((List.getD p.row (Int.toNat a1) (El.dflt .made)).n))]] () fun (x18 : Bool) _ =>
some (.bool x18, p)
else
some (.bool false, p)
else none
else none := by kernel_rfl
theorem literal_eq (mark : Int) (head : Bool) (p : PS) : evalBody T0 call .prog lim literal.I [.rdr 0, .int mark, .bool head] p =
literal.l0 call lim lim mark head p := by kernel_rfl
noncomputable def values.I : FnI := { fn := f77, masks := [(0, { t := [0] })] }
noncomputable def values.l0 (n0 : Nat) (p : PS) : OP := lpN T0 call .prog (FnI.mask values.I) lim (Func.code f77).r1.l1.l1.l1 0 n0 (Kblk 0 (Kseq T0 call .prog (FnI.mask values.I) lim (Func.code f77).r1.r1 0 (fin T0 .prog values.I))) ⟨[(0, .rdr 0)], [], STy.enc .prog 0 p, [], 0, []⟩
theorem values.l0_succ (n0 : Nat) (p : PS) : values.l0 call lim (n0 + 1) p =
if (!p.failed) then
cX call .b .prog comes.n [.rdr 0, .sl .int [64]] p fun (x3 : Bool) (p4 : PS) =>
if (!x3) then
cX call .i .prog Mark.n [.rdr 0] p4 fun (x5 : Int) (p6 : PS) =>
cX call .u .prog value.n [.rdr 0] p6 fun _ (p8 : PS) =>
cX call .b .prog taken.n [.rdr 0, .sl .int [65]] p8 fun (x9 : Bool) (p10 : PS) =>
if x9 then
cX call .u .prog value.n [.rdr 0] p10 fun _ (p12 : PS) =>
cX call .u .prog Close.n [.rdr 0, .int x5, .int 215] p12 fun _ (p14 : PS) =>
cX call .b .prog taken.n [.rdr 0, .sl .int [60]] p14 fun (x15 : Bool) (p16 : PS) =>
if (!x15) then
cX call .b .prog Expect.n [.rdr 0, .int 64] p16 fun (x17 : Bool) (p18 : PS) =>
some (.undef, p18)
else
values.l0 call lim n0 p16
else
cX call .b .prog taken.n [.rdr 0, .sl .int [60]] p10 fun (x19 : Bool) (p20 : PS) =>
if (!x19) then
cX call .b .prog Expect.n [.rdr 0, .int 64] p20 fun (x21 : Bool) (p22 : PS) =>
some (.undef, p22)
else
values.l0 call lim n0 p20
else
cX call .b .prog Expect.n [.rdr 0, .int 64] p4 fun (x23 : Bool) (p24 : PS) =>
some (.undef, p24)
else
cX call .b .prog Expect.n [.rdr 0, .int 64] p fun (x25 : Bool) (p26 : PS) =>
some (.undef, p26) := by kernel_rfl
theorem values_eq (p : PS) : evalBody T0 call .prog lim values.I [.rdr 0] p =
cX call .b .prog Expect.n [.rdr 0, .int 59] p fun (x1 : Bool) (p2 : PS) =>
values.l0 call lim lim p2 := by kernel_rfl
noncomputable def value.I : FnI := { fn := f90, masks := [] }
theorem value_eq (p : PS) : evalBody T0 call .prog lim value.I [.rdr 0] p =
cX call .i .prog Kind.n [.rdr 0] p fun (x1 : Int) (p2 : PS) =>
if (decide (x1 = 59)) then
cX call .u .prog deeper.n [.rdr 0, .clos value1.n [] [.cbox (.rdr 0)]] p2 fun _ (p4 : PS) =>
some (.undef, p4)
else
cX call .u .prog X.n [.rdr 0, .bool false] p2 fun _ (p6 : PS) =>
some (.undef, p6) := by kernel_rfl
noncomputable def value1.I : FnI := { fn := f97, masks := [] }
theorem value1_eq (p : PS) : evalBody T0 call .prog lim value1.I [.cbox (.rdr 0)] p =
cX call .u .prog node.n [.rdr 0, .int 214, .clos values.n [.rdr 0] []] p fun _ (p2 : PS) =>
some (.undef, p2) := by kernel_rfl
noncomputable def Name.I : FnI := { fn := f28, masks := [] }
theorem Name_eq (p : PS) : evalBody T0 call .prog lim Name.I [.rdr 0] p =
cX call .i .prog Kind.n [.rdr 0] p fun (x1 : Int) (p2 : PS) =>
if (decide (x1 ≠ 10)) then
cX call .u .prog Fail.n [.rdr 0, .int 201] p2 fun _ (p4 : PS) =>
some (.undef, p4)
else
cX call .u .prog node.n [.rdr 0, .int 201, .clos Take.n [.rdr 0] []] p2 fun _ (p6 : PS) =>
some (.undef, p6) := by kernel_rfl
noncomputable def List_.I : FnI := { fn := f10, masks := [] }
theorem List__eq (head : Bool) (p : PS) : evalBody T0 call .prog lim List_.I [.rdr 0, .bool head] p =
cX call .u .prog node.n [.rdr 0, .int 246, .clos List1.n [] [.cbox (.rdr 0), .cbox (.bool head)]] p fun _ (p2 : PS) =>
some (.undef, p2) := by kernel_rfl
noncomputable def List1.I : FnI := { fn := f34, masks := [(0, { t := [0, 1] })] }
noncomputable def List1.l0 (n0 : Nat) (a3 : Bool) (p : PS) : OP := lpN T0 call .prog (FnI.mask List1.I) lim (Func.code f34).r1.l1.l1 0 n0 (Kblk 0 (fin T0 .prog List1.I)) ⟨[(0, .cbox (.rdr 0)), (1, .cbox (.bool a3))], [], STy.enc .prog 0 p, [], 0, []⟩
theorem List1.l0_succ (n0 : Nat) (a3 : Bool) (p : PS) : List1.l0 call lim (n0 + 1) a3 p =
cX call .b .prog taken.n [.rdr 0, .sl .int [60]] p fun (x4 : Bool) (p5 : PS) =>
if x4 then
cX call .u .prog X.n [.rdr 0, .bool a3] p5 fun _ (p7 : PS) =>
List1.l0 call lim n0 a3 p7
else
some (.undef, p5) := by kernel_rfl
theorem List1_eq (head : Bool) (p : PS) : evalBody T0 call .prog lim List1.I [.cbox (.rdr 0), .cbox (.bool head)] p =
cX call .u .prog X.n [.rdr 0, .bool head] p fun _ (p2 : PS) =>
List1.l0 call lim lim head p2 := by kernel_rfl
noncomputable def Expect.I : FnI := { fn := f26, masks := [] }
theorem Expect_eq (kind : Int) (p : PS) : evalBody T0 call .prog lim Expect.I [.rdr 0, .int kind] p =
if (decide (kind = 0)) then
cX call .u .prog Fail.n [.rdr 0, .int 201] p fun _ (p2 : PS) =>
some (.bool false, p2)
else
cX call .i .prog Kind.n [.rdr 0] p fun (x3 : Int) (p4 : PS) =>
if (decide (x3 ≠ kind)) then
cX call .u .prog Fail.n [.rdr 0, .int 201] p4 fun _ (p6 : PS) =>
some (.bool false, p6)
else
cX call .u .prog Take.n [.rdr 0] p4 fun _ (p8 : PS) =>
some (.bool true, p8) := by kernel_rfl
noncomputable def Sig.I : FnI := { fn := f8, masks := [] }
theorem Sig_eq (p : PS) : evalBody T0 call .prog lim Sig.I [.rdr 0] p =
cX call .u .prog node.n [.rdr 0, .int 231, .clos Sig1.n [] [.cbox (.rdr 0)]] p fun _ (p2 : PS) =>
some (.undef, p2) := by kernel_rfl
noncomputable def Sig1.I : FnI := { fn := f21, masks := [] }
theorem Sig1_eq (p : PS) : evalBody T0 call .prog lim Sig1.I [.cbox (.rdr 0)] p =
cX call .u .prog Params.n [.rdr 0] p fun _ (p2 : PS) =>
cX call .i .prog Kind.n [.rdr 0] p2 fun (x3 : Int) (p4 : PS) =>
if (decide (x3 = 57)) then
cX call .u .prog Params.n [.rdr 0] p4 fun _ (p6 : PS) =>
some (.undef, p6)
else
if (decide (x3 = 10)) then
if (decide (x3 = 10)) then
cX call .u .prog Type_.n [.rdr 0] p4 fun _ (p8 : PS) =>
some (.undef, p8)
else
cX call .u .prog None_.n [.rdr 0] p4 fun _ (p10 : PS) =>
some (.undef, p10)
else
if (decide (x3 = 22)) then
if (decide (x3 = 22)) then
cX call .u .prog Type_.n [.rdr 0] p4 fun _ (p12 : PS) =>
some (.undef, p12)
else
cX call .u .prog None_.n [.rdr 0] p4 fun _ (p14 : PS) =>
some (.undef, p14)
else
if (decide (x3 = 58)) then
if (decide (x3 = 58)) then
cX call .u .prog Type_.n [.rdr 0] p4 fun _ (p16 : PS) =>
some (.undef, p16)
else
cX call .u .prog None_.n [.rdr 0] p4 fun _ (p18 : PS) =>
some (.undef, p18)
else
if (decide (x3 = 83)) then
if (decide (x3 = 83)) then
cX call .u .prog Type_.n [.rdr 0] p4 fun _ (p20 : PS) =>
some (.undef, p20)
else
cX call .u .prog None_.n [.rdr 0] p4 fun _ (p22 : PS) =>
some (.undef, p22)
else
if (decide (x3 = 87)) then
if (decide (x3 = 87)) then
cX call .u .prog Type_.n [.rdr 0] p4 fun _ (p24 : PS) =>
some (.undef, p24)
else
cX call .u .prog None_.n [.rdr 0] p4 fun _ (p26 : PS) =>
some (.undef, p26)
else
if (decide (x3 = 82)) then
if (decide (x3 = 82)) then
cX call .u .prog Type_.n [.rdr 0] p4 fun _ (p28 : PS) =>
some (.undef, p28)
else
cX call .u .prog None_.n [.rdr 0] p4 fun _ (p30 : PS) =>
some (.undef, p30)
else
if (decide (x3 = 79)) then
cX call .u .prog Type_.n [.rdr 0] p4 fun _ (p32 : PS) =>
some (.undef, p32)
else
cX call .u .prog None_.n [.rdr 0] p4 fun _ (p34 : PS) =>
some (.undef, p34) := by kernel_rfl
noncomputable def comes.I : FnI := { fn := f33, masks := [] }
theorem comes_eq (kinds : List Int) (p : PS) : evalBody T0 call .prog lim comes.I [.rdr 0, .sl .int kinds] p =
cX call .i .prog Kind.n [.rdr 0] p fun (x1 : Int) (p2 : PS) =>
if (decide (x1 ≠ 0)) then
cX call .i .prog Kind.n [.rdr 0] p2 fun (x3 : Int) (p4 : PS) =>
cX call .b .unit Contains.n [.sl .int kinds, .int x3] () fun (x5 : Bool) _ =>
some (.bool x5, p4)
else
some (.bool false, p2) := by kernel_rfl
noncomputable def flat.I : FnI := { fn := f87, masks := [(0, { t := [0, 2] })] }
noncomputable def flat.l0 (n0 : Nat) (a1 : Int) (p : PS) : OP := lpN T0 call .prog (FnI.mask flat.I) lim (Func.code f87).r1.l1.l1 0 n0 (Kblk 0 (fin T0 .prog flat.I)) ⟨[(0, .rdr 0), (2, .int a1)], [], STy.enc .prog 0 p, [], 0, []⟩
theorem flat.l0_succ (n0 : Nat) (a1 : Int) (p : PS) : flat.l0 call lim (n0 + 1) a1 p =
cX call .i .prog Kind.n [.rdr 0] p fun (x2 : Int) (p3 : PS) =>
if (decide (x2 = 0)) then
cX call .u .prog Fail.n [.rdr 0, .int 201] p3 fun _ (p5 : PS) =>
some (.undef, p5)
else
if (decide (x2 = 59)) then
cX call .u .prog Take.n [.rdr 0] p3 fun _ (p7 : PS) =>
if (decide ((IntKind.i64.wrap (a1 + 1)) = 0)) then
some (.undef, p7)
else
flat.l0 call lim n0 (IntKind.i64.wrap (a1 + 1)) p7
else
if (decide (x2 = 64)) then
cX call .u .prog Take.n [.rdr 0] p3 fun _ (p9 : PS) =>
if (decide ((IntKind.i64.wrap (a1 - 1)) = 0)) then
some (.undef, p9)
else
flat.l0 call lim n0 (IntKind.i64.wrap (a1 - 1)) p9
else
cX call .u .prog Take.n [.rdr 0] p3 fun _ (p11 : PS) =>
if (decide (a1 = 0)) then
some (.undef, p11)
else
flat.l0 call lim n0 a1 p11 := by kernel_rfl
theorem flat_eq (p : PS) : evalBody T0 call .prog lim flat.I [.rdr 0] p =
flat.l0 call lim lim 0 p := by kernel_rfl
noncomputable def Type_.I : FnI := { fn := f7, masks := [] }
theorem Type__eq (p : PS) : evalBody T0 call .prog lim Type_.I [.rdr 0] p =
cX call .u .prog deeper.n [.rdr 0, .clos form.n [.rdr 0] []] p fun _ (p2 : PS) =>
some (.undef, p2) := by kernel_rfl
noncomputable def form.I : FnI := { fn := f19, masks := [(1, { t := [0, 2] })] }
noncomputable def form.l1 (n1 : Nat) (a11 : Int) (p : PS) : OP := lpN T0 call .prog (FnI.mask form.I) lim (Func.code f19).r1.r1.l1.r1.l1.r1.r1.l1.r1.l1.l1.l1 1 n1 (Kblk 1 (Kseq T0 call .prog (FnI.mask form.I) lim (Func.code f19).r1.r1.l1.r1.l1.r1.r1.l1.r1.r1 0 (Kblk 0 (fin T0 .prog form.I)))) ⟨[(0, .rdr 0), (2, .int a11)], [], STy.enc .prog 0 p, [], 0, []⟩
theorem form.l1_succ (n1 : Nat) (a11 : Int) (p : PS) : form.l1 call lim (n1 + 1) a11 p =
cX call .b .prog taken.n [.rdr 0, .sl .int [60]] p fun (x12 : Bool) (p13 : PS) =>
if x12 then
cX call .b .prog comes.n [.rdr 0, .sl .int [63]] p13 fun (x14 : Bool) (p15 : PS) =>
if (!x14) then
cX call .u .prog Type_.n [.rdr 0] p15 fun _ (p17 : PS) =>
form.l1 call lim n1 a11 p17
else
form.l1 call lim n1 a11 p15
else
cX call .b .prog Expect.n [.rdr 0, .int 63] p13 fun (x18 : Bool) (p19 : PS) =>
cX call .u .prog Close.n [.rdr 0, .int a11, .int 208] p19 fun _ (p21 : PS) =>
some (.undef, p21) := by kernel_rfl
theorem form_eq (p : PS) : evalBody T0 call .prog lim form.I [.rdr 0] p =
cX call .i .prog Mark.n [.rdr 0] p fun (x1 : Int) (p2 : PS) =>
cX call .i .prog Kind.n [.rdr 0] p2 fun (x3 : Int) (p4 : PS) =>
if (decide (x3 = 10)) then
cX call .u .prog qualified.n [.rdr 0] p4 fun _ (p6 : PS) =>
cX call .b .prog taken.n [.rdr 0, .sl .int [58]] p6 fun (x7 : Bool) (p8 : PS) =>
if x7 then
cX call .u .prog Type_.n [.rdr 0] p8 fun _ (p10 : PS) =>
form.l1 call lim lim x1 p10
else
some (.undef, p8)
else
if (decide (x3 = 57)) then
cX call .u .prog Take.n [.rdr 0] p4 fun _ (p23 : PS) =>
cX call .u .prog Type_.n [.rdr 0] p23 fun _ (p25 : PS) =>
cX call .b .prog Expect.n [.rdr 0, .int 62] p25 fun (x26 : Bool) (p27 : PS) =>
cX call .u .prog Close.n [.rdr 0, .int x1, .int 203] p27 fun _ (p29 : PS) =>
some (.undef, p29)
else
if (decide (x3 = 22)) then
cX call .u .prog Take.n [.rdr 0] p4 fun _ (p31 : PS) =>
cX call .u .prog Type_.n [.rdr 0] p31 fun _ (p33 : PS) =>
cX call .u .prog Close.n [.rdr 0, .int x1, .int 205] p33 fun _ (p35 : PS) =>
some (.undef, p35)
else
if (decide (x3 = 79)) then
cX call .u .prog Take.n [.rdr 0] p4 fun _ (p37 : PS) =>
cX call .u .prog Sig.n [.rdr 0] p37 fun _ (p39 : PS) =>
cX call .u .prog Close.n [.rdr 0, .int x1, .int 223] p39 fun _ (p41 : PS) =>
some (.undef, p41)
else
if (decide (x3 = 58)) then
cX call .u .prog Take.n [.rdr 0] p4 fun _ (p43 : PS) =>
cX call .i .prog elements.n [.rdr 0] p43 fun (x44 : Int) (p45 : PS) =>
cX call .u .prog Close.n [.rdr 0, .int x1, .int x44] p45 fun _ (p47 : PS) =>
some (.undef, p47)
else
if (decide (x3 = 83)) then
cX call .u .prog Take.n [.rdr 0] p4 fun _ (p49 : PS) =>
cX call .b .prog Expect.n [.rdr 0, .int 58] p49 fun (x50 : Bool) (p51 : PS) =>
cX call .u .prog Type_.n [.rdr 0] p51 fun _ (p53 : PS) =>
cX call .b .prog Expect.n [.rdr 0, .int 63] p53 fun (x54 : Bool) (p55 : PS) =>
cX call .u .prog Type_.n [.rdr 0] p55 fun _ (p57 : PS) =>
cX call .u .prog Close.n [.rdr 0, .int x1, .int 222] p57 fun _ (p59 : PS) =>
some (.undef, p59)
else
if (decide (x3 = 87)) then
cX call .u .prog Take.n [.rdr 0] p4 fun _ (p61 : PS) =>
cX call .u .prog items.n [.rdr 0, .clos field.n [.rdr 0] []] p61 fun _ (p63 : PS) =>
cX call .u .prog Close.n [.rdr 0, .int x1, .int 224] p63 fun _ (p65 : PS) =>
some (.undef, p65)
else
if (decide (x3 = 82)) then
cX call .u .prog Take.n [.rdr 0] p4 fun _ (p67 : PS) =>
cX call .u .prog items.n [.rdr 0, .clos element.n [.rdr 0] []] p67 fun _ (p69 : PS) =>
cX call .u .prog Close.n [.rdr 0, .int x1, .int 227] p69 fun _ (p71 : PS) =>
some (.undef, p71)
else
cX call .u .prog Fail.n [.rdr 0, .int 201] p4 fun _ (p73 : PS) =>
some (.undef, p73) := by kernel_rfl
noncomputable def taken.I : FnI := { fn := f29, masks := [] }
theorem taken_eq (kinds : List Int) (p : PS) : evalBody T0 call .prog lim taken.I [.rdr 0, .sl .int kinds] p =
cX call .b .prog comes.n [.rdr 0, .sl .int kinds] p fun (x1 : Bool) (p2 : PS) =>
if x1 then
cX call .u .prog Take.n [.rdr 0] p2 fun _ (p4 : PS) =>
some (.bool x1, p4)
else
some (.bool x1, p2) := by kernel_rfl
noncomputable def unless_.I : FnI := { fn := f88, masks := [] }
theorem unless__eq (kinds : List Int) (p : PS) : evalBody T0 call .prog lim unless_.I [.rdr 0, .sl .int kinds] p =
cX call .b .prog comes.n [.rdr 0, .sl .int kinds] p fun (x1 : Bool) (p2 : PS) =>
if x1 then
cX call .u .prog None_.n [.rdr 0] p2 fun _ (p4 : PS) =>
some (.bool true, p4)
else
cX call .u .prog X.n [.rdr 0, .bool false] p2 fun _ (p6 : PS) =>
some (.bool false, p6) := by kernel_rfl
noncomputable def named.I : FnI := { fn := f89, masks := [] }
theorem named_eq (n : Node) (p : Unit) : evalBody T0 call .unit lim named.I [.agg [.int (Node.k n), .int (Node.f n), .int (Node.t n), .sl .node (Node.kids n)]] p =
if (decide ((Node.k n) = 201)) then
some (.bool true, ())
else
if (decide ((Node.k n) = 207)) then
if 0 ≤ 0 then
if 0 < (((Node.kids n)).length : Int) then
some (.bool (decide ((Node.k (List.getD (Node.kids n) (Int.toNat 0) (El.dflt .node))) = 201)), ())
else none
else none
else
some (.bool false, ()) := by kernel_rfl
noncomputable def Params.I : FnI := { fn := f22, masks := [] }
theorem Params_eq (p : PS) : evalBody T0 call .prog lim Params.I [.rdr 0] p =
cX call .u .prog node.n [.rdr 0, .int 232, .clos Params1.n [] [.cbox (.rdr 0)]] p fun _ (p2 : PS) =>
some (.undef, p2) := by kernel_rfl
noncomputable def Params1.I : FnI := { fn := f50, masks := [(0, { t := [0, 1, 2], own := [(1, 22, .ent)] })] }
noncomputable def Params1.l0 (n0 : Nat) (l3 : List Ent) (a4 : Bool) (p : PS) : OP := lpN T0 call .prog (FnI.mask Params1.I) lim (Func.code f50).r1.r1.r1.l1.l1.l1 0 n0 (Kblk 0 (Kseq T0 call .prog (FnI.mask Params1.I) lim (Func.code f50).r1.r1.r1.r1 0 (fin T0 .prog Params1.I))) ⟨[(0, .cbox (.rdr 0)), (1, .own 22 0 .ent l3), (2, .bool a4)], [], STy.enc .prog 0 p, [], 0, []⟩
theorem Params1.l0_succ (n0 : Nat) (l3 : List Ent) (a4 : Bool) (p : PS) : Params1.l0 call lim (n0 + 1) l3 a4 p =
if (!p.failed) then
cX call .b .prog comes.n [.rdr 0, .sl .int [62]] p fun (x5 : Bool) (p6 : PS) =>
if (!x5) then
cX call (.e .ent) .prog entry.n [.rdr 0] p6 fun (x7 : Ent) (p8 : PS) =>
if (l3).length + ([(⟨x7.from_, x7.to_, x7.named⟩ : Ent)]).length < maxRow then
if a4 then
cX call .b .prog taken.n [.rdr 0, .sl .int [60]] p8 fun (x9 : Bool) (p10 : PS) =>
if (!x9) then
cX call .u .prog names.n [.rdr 0, .sl .ent (l3 ++ [(⟨x7.from_, x7.to_, x7.named⟩ : Ent)])] p10 fun _ (p12 : PS) =>
cX call .u .prog group.n [.rdr 0, .sl .ent (l3 ++ [(⟨x7.from_, x7.to_, x7.named⟩ : Ent)]), .bool true] p12 fun _ (p14 : PS) =>
cX call .b .prog Expect.n [.rdr 0, .int 62] p14 fun (x15 : Bool) (p16 : PS) =>
some (.undef, p16)
else
Params1.l0 call lim n0 (l3 ++ [(⟨x7.from_, x7.to_, x7.named⟩ : Ent)]) true p10
else
cX call .b .prog taken.n [.rdr 0, .sl .int [60]] p8 fun (x17 : Bool) (p18 : PS) =>
if (!x17) then
if x7.named then
cX call .u .prog names.n [.rdr 0, .sl .ent (l3 ++ [(⟨x7.from_, x7.to_, x7.named⟩ : Ent)])] p18 fun _ (p20 : PS) =>
cX call .u .prog group.n [.rdr 0, .sl .ent (l3 ++ [(⟨x7.from_, x7.to_, x7.named⟩ : Ent)]), .bool x7.named] p20 fun _ (p22 : PS) =>
cX call .b .prog Expect.n [.rdr 0, .int 62] p22 fun (x23 : Bool) (p24 : PS) =>
some (.undef, p24)
else
cX call .u .prog group.n [.rdr 0, .sl .ent (l3 ++ [(⟨x7.from_, x7.to_, x7.named⟩ : Ent)]), .bool x7.named] p18 fun _ (p26 : PS) =>
cX call .b .prog Expect.n [.rdr 0, .int 62] p26 fun (x27 : Bool) (p28 : PS) =>
some (.undef, p28)
else
Params1.l0 call lim n0 (l3 ++ [(⟨x7.from_, x7.to_, x7.named⟩ : Ent)]) x7.named p18
else none
else
if a4 then
cX call .u .prog names.n [.rdr 0, .sl .ent l3] p6 fun _ (p30 : PS) =>
cX call .u .prog group.n [.rdr 0, .sl .ent l3, .bool a4] p30 fun _ (p32 : PS) =>
cX call .b .prog Expect.n [.rdr 0, .int 62] p32 fun (x33 : Bool) (p34 : PS) =>
some (.undef, p34)
else
cX call .u .prog group.n [.rdr 0, .sl .ent l3, .bool a4] p6 fun _ (p36 : PS) =>
cX call .b .prog Expect.n [.rdr 0, .int 62] p36 fun (x37 : Bool) (p38 : PS) =>
some (.undef, p38)
else
if a4 then
cX call .u .prog names.n [.rdr 0, .sl .ent l3] p fun _ (p40 : PS) =>
cX call .u .prog group.n [.rdr 0, .sl .ent l3, .bool a4] p40 fun _ (p42 : PS) =>
cX call .b .prog Expect.n [.rdr 0, .int 62] p42 fun (x43 : Bool) (p44 : PS) =>
some (.undef, p44)
else
cX call .u .prog group.n [.rdr 0, .sl .ent l3, .bool a4] p fun _ (p46 : PS) =>
cX call .b .prog Expect.n [.rdr 0, .int 62] p46 fun (x47 : Bool) (p48 : PS) =>
some (.undef, p48) := by kernel_rfl
theorem Params1_eq (p : PS) : evalBody T0 call .prog lim Params1.I [.cbox (.rdr 0)] p =
cX call .b .prog Expect.n [.rdr 0, .int 57] p fun (x1 : Bool) (p2 : PS) =>
Params1.l0 call lim lim [] false p2 := by kernel_rfl
noncomputable def entry.I : FnI := { fn := f51, masks := [] }
theorem entry_eq (p : PS) : evalBody T0 call .prog lim entry.I [.rdr 0] p =
cX call .i .prog Mark.n [.rdr 0] p fun (x1 : Int) (p2 : PS) =>
cX call .b .prog hasName.n [.rdr 0] p2 fun (x3 : Bool) (p4 : PS) =>
if x3 then
cX call .u .prog Name.n [.rdr 0] p4 fun _ (p6 : PS) =>
cX call .b .prog comes.n [.rdr 0, .sl .int [56]] p6 fun (x7 : Bool) (p8 : PS) =>
if x7 then
cX call .u .prog node.n [.rdr 0, .int 234, .clos entry1.n [] [.cbox (.rdr 0)]] p8 fun _ (p10 : PS) =>
cX call .i .prog Mark.n [.rdr 0] p10 fun (x11 : Int) (p12 : PS) =>
some (.agg [.int x1, .int x11, .bool x3], p12)
else
cX call .u .prog Type_.n [.rdr 0] p8 fun _ (p14 : PS) =>
cX call .i .prog Mark.n [.rdr 0] p14 fun (x15 : Int) (p16 : PS) =>
some (.agg [.int x1, .int x15, .bool x3], p16)
else
cX call .b .prog comes.n [.rdr 0, .sl .int [56]] p4 fun (x17 : Bool) (p18 : PS) =>
if x17 then
cX call .u .prog node.n [.rdr 0, .int 234, .clos entry1.n [] [.cbox (.rdr 0)]] p18 fun _ (p20 : PS) =>
cX call .i .prog Mark.n [.rdr 0] p20 fun (x21 : Int) (p22 : PS) =>
some (.agg [.int x1, .int x21, .bool x3], p22)
else
cX call .u .prog Type_.n [.rdr 0] p18 fun _ (p24 : PS) =>
cX call .i .prog Mark.n [.rdr 0] p24 fun (x25 : Int) (p26 : PS) =>
some (.agg [.int x1, .int x25, .bool x3], p26) := by kernel_rfl
noncomputable def entry1.I : FnI := { fn := f63, masks := [] }
theorem entry1_eq (p : PS) : evalBody T0 call .prog lim entry1.I [.cbox (.rdr 0)] p =
cX call .u .prog Take.n [.rdr 0] p fun _ (p2 : PS) =>
cX call .u .prog Type_.n [.rdr 0] p2 fun _ (p4 : PS) =>
some (.undef, p4) := by kernel_rfl
noncomputable def names.I : FnI := { fn := f52, masks := [(0, { t := [0, 1, 7, 8, 9] }), (2, { t := [0, 1, 4, 5, 6, 7, 8, 9], b := [(5, [])] })] }
noncomputable def names.l0 (n0 : Nat) (l1 l2 : List Ent) (a3 a4 : Int) (p : PS) : OP := lpN T0 call .prog (FnI.mask names.I) lim (Func.code f52).r1.l1.l1 0 n0 (Kblk 0 (fin T0 .prog names.I)) ⟨[(0, .rdr 0), (1, .sl .ent l1), (7, .sl .ent l2), (8, .int a3), (9, .int a4)], [], STy.enc .prog 0 p, [], 0, []⟩
noncomputable def names.l2 (n0 : Nat) (n2 : Nat) (l5 : List Ent) (a6 a7 : Int) (l8 : List Ent) (a9 a10 a11 a12 : Int) (a13 : Bool) (p : PS) : OP := lpN T0 call .prog (FnI.mask names.I) lim (Func.code f52).r1.l1.l1.r1.r1.l1.l1.r1.r1.r1.l1.l1.l1 2 n2 (Kblk 2 (Kseq T0 call .prog (FnI.mask names.I) lim (Func.code f52).r1.l1.l1.r1.r1.l1.l1.r1.r1.r1.r1 1 (Kblk 1 (Kseq T0 call .prog (FnI.mask names.I) lim (Func.code f52).r1.l1.l1.r1.r1.r1 0 (Klp T0 call .prog (FnI.mask names.I) lim (Func.code f52).r1.l1.l1 0 n0 (Kblk 0 (fin T0 .prog names.I))))))) ⟨[(0, .rdr 0), (1, .sl .ent l5), (4, .int a6), (5, .lbox 5 0), (6, .int a7), (7, .sl .ent l8), (8, .int a9), (9, .int a10)], [(5, [.int a11, .int a12, .bool a13])], STy.enc .prog 0 p, [], 0, []⟩
theorem names.l2_succ (n0 : Nat) (n2 : Nat) (l5 : List Ent) (a6 a7 : Int) (l8 : List Ent) (a9 a10 a11 a12 : Int) (a13 : Bool) (p : PS) : names.l2 call lim n0 (n2 + 1) l5 a6 a7 l8 a9 a10 a11 a12 a13 p =
if (decide (a7 < a12)) then
if (decide (a7 < ((p.row).length : Int))) then
if 0 ≤ a7 then
if a7 < ((p.row).length : Int) then
if (decide ((Node.k ((List.getD p.row (Int.toNat a7) (El.dflt .made)).n)) < 10)) then
names.l2 call lim n0 n2 l5 a6 (IntKind.i64.wrap (a7 + 1)) l8 a9 a10 a11 a12 a13 p
else
if (decide (a6 = (IntKind.i64.wrap (((l5).length : Int) - 1)))) then
cX call .u .prog Fail.n [.rdr 0, .int 201] p fun _ (p15 : PS) =>
some (.undef, p15)
else
if (decide (a7 ≥ ((p.row).length : Int))) then
cX call .u .prog Fail.n [.rdr 0, .int 201] p fun _ (p17 : PS) =>
some (.undef, p17)
else
if 0 ≤ a7 then
if a7 < ((p.row).length : Int) then
if (decide ((Node.k ((List.getD p.row (Int.toNat a7) (El.dflt .made)).n)) ≠ 201)) then
cX call .u .prog Fail.n [.rdr 0, .int 201] p fun _ (p19 : PS) =>
some (.undef, p19)
else
names.l0 call lim n0 l5 l8 a9 (IntKind.i64.wrap (a10 + 1)) p
else none
else none
else none
else none
else
if (decide (a6 = (IntKind.i64.wrap (((l5).length : Int) - 1)))) then
cX call .u .prog Fail.n [.rdr 0, .int 201] p fun _ (p21 : PS) =>
some (.undef, p21)
else
if (decide (a7 ≥ ((p.row).length : Int))) then
cX call .u .prog Fail.n [.rdr 0, .int 201] p fun _ (p23 : PS) =>
some (.undef, p23)
else
if 0 ≤ a7 then
if a7 < ((p.row).length : Int) then
if (decide ((Node.k ((List.getD p.row (Int.toNat a7) (El.dflt .made)).n)) ≠ 201)) then
cX call .u .prog Fail.n [.rdr 0, .int 201] p fun _ (p25 : PS) =>
some (.undef, p25)
else
names.l0 call lim n0 l5 l8 a9 (IntKind.i64.wrap (a10 + 1)) p
else none
else none
else
if (decide (a6 = (IntKind.i64.wrap (((l5).length : Int) - 1)))) then
cX call .u .prog Fail.n [.rdr 0, .int 201] p fun _ (p27 : PS) =>
some (.undef, p27)
else
if (decide (a7 ≥ ((p.row).length : Int))) then
cX call .u .prog Fail.n [.rdr 0, .int 201] p fun _ (p29 : PS) =>
some (.undef, p29)
else
if 0 ≤ a7 then
if a7 < ((p.row).length : Int) then
if (decide ((Node.k ((List.getD p.row (Int.toNat a7) (El.dflt .made)).n)) ≠ 201)) then
cX call .u .prog Fail.n [.rdr 0, .int 201] p fun _ (p31 : PS) =>
some (.undef, p31)
else
names.l0 call lim n0 l5 l8 a9 (IntKind.i64.wrap (a10 + 1)) p
else none
else none := by kernel_rfl
theorem names.l0_succ (n0 : Nat) (l1 l2 : List Ent) (a3 a4 : Int) (p : PS) : names.l0 call lim (n0 + 1) l1 l2 a3 a4 p =
if (decide (a4 < a3)) then
if 0 ≤ a4 then
if a4 < ((l2).length : Int) then
if (List.getD l2 (Int.toNat a4) (El.dflt .ent)).named then
names.l0 call lim n0 l1 l2 a3 (IntKind.i64.wrap (a4 + 1)) p
else
names.l2 call lim n0 lim l1 a4 ((List.getD l2 (Int.toNat a4) (El.dflt .ent)).from_) l2 a3 a4 ((List.getD l2 (Int.toNat a4) (El.dflt .ent)).from_) ((List.getD l2 (Int.toNat a4) (El.dflt .ent)).to_) ((List.getD l2 (Int.toNat a4) (El.dflt .ent)).named) p
else none
else none
else
some (.undef, p) := by kernel_rfl
theorem names_eq (l : List Ent) (p : PS) : evalBody T0 call .prog lim names.I [.rdr 0, .sl .ent l] p =
names.l0 call lim lim l l ((l).length : Int) 0 p := by kernel_rfl
noncomputable def group.I : FnI := { fn := f53, masks := [(0, { t := [0, 1, 2, 6] }), (2, { t := [0, 1, 2, 6, 7] })] }
noncomputable def group.l0 (n0 : Nat) (l1 : List Ent) (a2 : Bool) (a3 : Int) (p : PS) : OP := lpN T0 call .prog (FnI.mask group.I) lim (Func.code f53).r1.r1.l1.l1 0 n0 (Kblk 0 (fin T0 .prog group.I)) ⟨[(0, .rdr 0), (1, .sl .ent l1), (2, .bool a2), (6, .int a3)], [], STy.enc .prog 0 p, [], 0, []⟩
noncomputable def group.l2 (n0 : Nat) (n2 : Nat) (l4 : List Ent) (a5 : Bool) (a6 a7 : Int) (p : PS) : OP := lpN T0 call .prog (FnI.mask group.I) lim (Func.code f53).r1.r1.l1.l1.r1.l1.l1.r1.l1.l1.l1 2 n2 (Kblk 2 (Kseq T0 call .prog (FnI.mask group.I) lim (Func.code f53).r1.r1.l1.l1.r1.l1.l1.r1.r1 1 (Kblk 1 (Kseq T0 call .prog (FnI.mask group.I) lim (Func.code f53).r1.r1.l1.l1.r1.r1 0 (Klp T0 call .prog (FnI.mask group.I) lim (Func.code f53).r1.r1.l1.l1 0 n0 (Kblk 0 (fin T0 .prog group.I))))))) ⟨[(0, .rdr 0), (1, .sl .ent l4), (2, .bool a5), (6, .int a6), (7, .int a7)], [], STy.enc .prog 0 p, [], 0, []⟩
theorem group.l2_succ (n0 : Nat) (n2 : Nat) (l4 : List Ent) (a5 : Bool) (a6 a7 : Int) (p : PS) : group.l2 call lim n0 (n2 + 1) l4 a5 a6 a7 p =
if a5 then
if (decide (a7 > 0)) then
if 0 ≤ (IntKind.i64.wrap (a7 - 1)) then
if (IntKind.i64.wrap (a7 - 1)) < ((l4).length : Int) then
if (!((List.getD l4 (Int.toNat (IntKind.i64.wrap (a7 - 1))) (El.dflt .ent)).named)) then
group.l2 call lim n0 n2 l4 a5 a6 (IntKind.i64.wrap (a7 - 1)) p
else
if 0 ≤ a6 then
if a6 < ((l4).length : Int) then
if 0 ≤ ((List.getD l4 (Int.toNat a6) (El.dflt .ent)).to_) then
if ((List.getD l4 (Int.toNat a6) (El.dflt .ent)).to_) ≤ ((p.row).length : Int) then
if ((List.drop (Int.toNat ((List.getD l4 (Int.toNat a6) (El.dflt .ent)).to_)) p.row)).length < maxRow then
if 0 ≤ a6 then
if a6 < ((l4).length : Int) then
if 0 ≤ ((List.getD l4 (Int.toNat a6) (El.dflt .ent)).to_) then
if ((List.getD l4 (Int.toNat a6) (El.dflt .ent)).to_) ≤ ((p.row).length : Int) then
if 0 ≤ a7 then
if a7 < ((l4).length : Int) then
cX call .u .prog Close.n [.rdr 0, .int ((List.getD l4 (Int.toNat a7) (El.dflt .ent)).from_), .int 233] ({ p with row := (List.take (Int.toNat ((List.getD l4 (Int.toNat a6) (El.dflt .ent)).to_)) p.row) }) fun _ (p9 : PS) =>
if (p9.row).length + ((List.drop (Int.toNat ((List.getD l4 (Int.toNat a6) (El.dflt .ent)).to_)) p.row)).length < maxRow then
group.l0 call lim n0 l4 a5 (IntKind.i64.wrap (a7 - 1)) ({ p9 with row := (p9.row ++ (List.drop (Int.toNat ((List.getD l4 (Int.toNat a6) (El.dflt .ent)).to_)) p.row)) })
else none
else none
else none
else none
else none
else none
else none
else none
else none
else none
else none
else none
else none
else none
else
if 0 ≤ a6 then
if a6 < ((l4).length : Int) then
if 0 ≤ ((List.getD l4 (Int.toNat a6) (El.dflt .ent)).to_) then
if ((List.getD l4 (Int.toNat a6) (El.dflt .ent)).to_) ≤ ((p.row).length : Int) then
if ((List.drop (Int.toNat ((List.getD l4 (Int.toNat a6) (El.dflt .ent)).to_)) p.row)).length < maxRow then
if 0 ≤ a6 then
if a6 < ((l4).length : Int) then
if 0 ≤ ((List.getD l4 (Int.toNat a6) (El.dflt .ent)).to_) then
if ((List.getD l4 (Int.toNat a6) (El.dflt .ent)).to_) ≤ ((p.row).length : Int) then
if 0 ≤ a7 then
if a7 < ((l4).length : Int) then
cX call .u .prog Close.n [.rdr 0, .int ((List.getD l4 (Int.toNat a7) (El.dflt .ent)).from_), .int 233] ({ p with row := (List.take (Int.toNat ((List.getD l4 (Int.toNat a6) (El.dflt .ent)).to_)) p.row) }) fun _ (p11 : PS) =>
if (p11.row).length + ((List.drop (Int.toNat ((List.getD l4 (Int.toNat a6) (El.dflt .ent)).to_)) p.row)).length < maxRow then
group.l0 call lim n0 l4 a5 (IntKind.i64.wrap (a7 - 1)) ({ p11 with row := (p11.row ++ (List.drop (Int.toNat ((List.getD l4 (Int.toNat a6) (El.dflt .ent)).to_)) p.row)) })
else none
else none
else none
else none
else none
else none
else none
else none
else none
else none
else none
else none
else
if 0 ≤ a6 then
if a6 < ((l4).length : Int) then
if 0 ≤ ((List.getD l4 (Int.toNat a6) (El.dflt .ent)).to_) then
if ((List.getD l4 (Int.toNat a6) (El.dflt .ent)).to_) ≤ ((p.row).length : Int) then
if ((List.drop (Int.toNat ((List.getD l4 (Int.toNat a6) (El.dflt .ent)).to_)) p.row)).length < maxRow then
if 0 ≤ a6 then
if a6 < ((l4).length : Int) then
if 0 ≤ ((List.getD l4 (Int.toNat a6) (El.dflt .ent)).to_) then
if ((List.getD l4 (Int.toNat a6) (El.dflt .ent)).to_) ≤ ((p.row).length : Int) then
if 0 ≤ a7 then
if a7 < ((l4).length : Int) then
cX call .u .prog Close.n [.rdr 0, .int ((List.getD l4 (Int.toNat a7) (El.dflt .ent)).from_), .int 233] ({ p with row := (List.take (Int.toNat ((List.getD l4 (Int.toNat a6) (El.dflt .ent)).to_)) p.row) }) fun _ (p13 : PS) =>
if (p13.row).length + ((List.drop (Int.toNat ((List.getD l4 (Int.toNat a6) (El.dflt .ent)).to_)) p.row)).length < maxRow then
group.l0 call lim n0 l4 a5 (IntKind.i64.wrap (a7 - 1)) ({ p13 with row := (p13.row ++ (List.drop (Int.toNat ((List.getD l4 (Int.toNat a6) (El.dflt .ent)).to_)) p.row)) })
else none
else none
else none
else none
else none
else none
else none
else none
else none
else none
else none
else none := by kernel_rfl
theorem group.l0_succ (n0 : Nat) (l1 : List Ent) (a2 : Bool) (a3 : Int) (p : PS) : group.l0 call lim (n0 + 1) l1 a2 a3 p =
if (decide (a3 ≥ 0)) then
group.l2 call lim n0 lim l1 a2 a3 a3 p
else
some (.undef, p) := by kernel_rfl
theorem group_eq (l : List Ent) (any : Bool) (p : PS) : evalBody T0 call .prog lim group.I [.rdr 0, .sl .ent l, .bool any] p =
if p.failed then
some (.undef, p)
else
group.l0 call lim lim l any (IntKind.i64.wrap (((l).length : Int) - 1)) p := by kernel_rfl
noncomputable def TParams.I : FnI := { fn := f9, masks := [] }
theorem TParams_eq (p : PS) : evalBody T0 call .prog lim TParams.I [.rdr 0] p =
cX call .u .prog node.n [.rdr 0, .int 264, .clos TParams1.n [] [.cbox (.rdr 0)]] p fun _ (p2 : PS) =>
some (.undef, p2) := by kernel_rfl
noncomputable def TParams1.I : FnI := { fn := f25, masks := [(0, { t := [0, 1] })] }
noncomputable def TParams1.l0 (n0 : Nat) (a3 : Bool) (p : PS) : OP := lpN T0 call .prog (FnI.mask TParams1.I) lim (Func.code f25).r1.l1.r1.l1.l1 0 n0 (Kblk 0 (Kseq T0 call .prog (FnI.mask TParams1.I) lim (Func.code f25).r1.r1 0 (fin T0 .prog TParams1.I))) ⟨[(0, .cbox (.rdr 0)), (1, .bool a3)], [], STy.enc .prog 0 p, [], 0, []⟩
theorem TParams1.l0_succ (n0 : Nat) (a3 : Bool) (p : PS) : TParams1.l0 call lim (n0 + 1) a3 p =
if a3 then
if (!p.failed) then
cX call .u .prog node.n [.rdr 0, .int 233, .clos TParams11.n [] [.cbox (.rdr 0)]] p fun _ (p5 : PS) =>
cX call .b .prog taken.n [.rdr 0, .sl .int [60]] p5 fun (x6 : Bool) (p7 : PS) =>
if x6 then
cX call .b .prog comes.n [.rdr 0, .sl .int [63]] p7 fun (x8 : Bool) (p9 : PS) =>
TParams1.l0 call lim n0 (!x8) p9
else
TParams1.l0 call lim n0 false p7
else
cX call .b .prog Expect.n [.rdr 0, .int 63] p fun (x10 : Bool) (p11 : PS) =>
some (.undef, p11)
else
cX call .b .prog Expect.n [.rdr 0, .int 63] p fun (x12 : Bool) (p13 : PS) =>
some (.undef, p13) := by kernel_rfl
theorem TParams1_eq (p : PS) : evalBody T0 call .prog lim TParams1.I [.cbox (.rdr 0)] p =
cX call .b .prog Expect.n [.rdr 0, .int 58] p fun (x1 : Bool) (p2 : PS) =>
TParams1.l0 call lim lim true p2 := by kernel_rfl
noncomputable def TParams11.I : FnI := { fn := f27, masks := [(0, { t := [0] })] }
noncomputable def TParams11.l0 (n0 : Nat) (p : PS) : OP := lpN T0 call .prog (FnI.mask TParams11.I) lim (Func.code f27).r1.l1.l1.l1 0 n0 (Kblk 0 (Kseq T0 call .prog (FnI.mask TParams11.I) lim (Func.code f27).r1.r1 0 (fin T0 .prog TParams11.I))) ⟨[(0, .cbox (.rdr 0))], [], STy.enc .prog 0 p, [], 0, []⟩
theorem TParams11.l0_succ (n0 : Nat) (p : PS) : TParams11.l0 call lim (n0 + 1) p =
cX call .b .prog taken.n [.rdr 0, .sl .int [60]] p fun (x3 : Bool) (p4 : PS) =>
if x3 then
cX call .u .prog Name.n [.rdr 0] p4 fun _ (p6 : PS) =>
TParams11.l0 call lim n0 p6
else
cX call .i .prog Mark.n [.rdr 0] p4 fun (x7 : Int) (p8 : PS) =>
cX call .b .prog union.n [.rdr 0] p8 fun (x9 : Bool) (p10 : PS) =>
if x9 then
cX call .u .prog Close.n [.rdr 0, .int x7, .int 229] p10 fun _ (p12 : PS) =>
some (.undef, p12)
else
some (.undef, p10) := by kernel_rfl
theorem TParams11_eq (p : PS) : evalBody T0 call .prog lim TParams11.I [.cbox (.rdr 0)] p =
cX call .u .prog Name.n [.rdr 0] p fun _ (p2 : PS) =>
TParams11.l0 call lim lim p2 := by kernel_rfl
noncomputable def Index.I : FnI := { fn := f64, masks := [(0, { t := [0, 1, 7, 8] })] }
noncomputable def Index.l0 (n0 : Nat) (l1 : List Int) (a2 a3 a4 : Int) (p : Unit) : OU := lpN T0 call .unit (FnI.mask Index.I) lim (Func.code f64).r1.l1.r1.l1.l1 0 n0 (Kblk 0 (Kseq T0 call .unit (FnI.mask Index.I) lim (Func.code f64).r1.r1 0 (fin T0 .unit Index.I))) ⟨[(0, .sl .int l1), (1, .int a2), (7, .int a3), (8, .int a4)], [], STy.enc .unit 0 p, [], 0, []⟩
theorem Index.l0_succ (n0 : Nat) (l1 : List Int) (a2 a3 a4 : Int) (p : Unit) : Index.l0 call lim (n0 + 1) l1 a2 a3 a4 p =
if (decide (a4 < a3)) then
if 0 ≤ a4 then
if a4 < ((l1).length : Int) then
if (decide (a2 = (List.getD l1 (Int.toNat a4) (0 : Int)))) then
some (.int a4, ())
else
Index.l0 call lim n0 l1 a2 a3 (IntKind.i64.wrap (a4 + 1)) ()
else none
else none
else
some (.int (-1), ()) := by kernel_rfl
theorem Index_eq (s : List Int) (v : Int) (p : Unit) : evalBody T0 call .unit lim Index.I [.sl .int s, .int v] p =
Index.l0 call lim lim s v ((s).length : Int) 0 () := by kernel_rfl
noncomputable def Contains.I : FnI := { fn := f56, masks := [] }
theorem Contains_eq (s : List Int) (v : Int) (p : Unit) : evalBody T0 call .unit lim Contains.I [.sl .int s, .int v] p =
cX call .i .unit Index.n [.sl .int s, .int v] () fun (x1 : Int) _ =>
some (.bool (decide (x1 ≥ 0)), ()) := by kernel_rfl
noncomputable def qualified.I : FnI := { fn := f45, masks := [] }
theorem qualified_eq (p : PS) : evalBody T0 call .prog lim qualified.I [.rdr 0] p =
cX call .i .prog Mark.n [.rdr 0] p fun (x1 : Int) (p2 : PS) =>
cX call .u .prog Name.n [.rdr 0] p2 fun _ (p4 : PS) =>
cX call .b .prog taken.n [.rdr 0, .sl .int [61]] p4 fun (x5 : Bool) (p6 : PS) =>
if x5 then
cX call .u .prog Name.n [.rdr 0] p6 fun _ (p8 : PS) =>
cX call .u .prog Close.n [.rdr 0, .int x1, .int 207] p8 fun _ (p10 : PS) =>
some (.undef, p10)
else
some (.undef, p6) := by kernel_rfl
noncomputable def elements.I : FnI := { fn := f46, masks := [] }
theorem elements_eq (p : PS) : evalBody T0 call .prog lim elements.I [.rdr 0] p =
cX call .b .prog taken.n [.rdr 0, .sl .int [63]] p fun (x1 : Bool) (p2 : PS) =>
if x1 then
cX call .u .prog Type_.n [.rdr 0] p2 fun _ (p4 : PS) =>
some (.int 220, p4)
else
cX call .b .prog comes.n [.rdr 0, .sl .int [56]] p2 fun (x5 : Bool) (p6 : PS) =>
if x5 then
cX call .u .prog node.n [.rdr 0, .int 218, .clos Take.n [.rdr 0] []] p6 fun _ (p8 : PS) =>
cX call .b .prog Expect.n [.rdr 0, .int 63] p8 fun (x9 : Bool) (p10 : PS) =>
cX call .u .prog Type_.n [.rdr 0] p10 fun _ (p12 : PS) =>
some (.int 221, p12)
else
cX call .u .prog X.n [.rdr 0, .bool false] p6 fun _ (p14 : PS) =>
cX call .b .prog Expect.n [.rdr 0, .int 63] p14 fun (x15 : Bool) (p16 : PS) =>
cX call .u .prog Type_.n [.rdr 0] p16 fun _ (p18 : PS) =>
some (.int 221, p18) := by kernel_rfl
noncomputable def items.I : FnI := { fn := f47, masks := [(0, { t := [0, 1] })] }
noncomputable def items.l0 (n0 : Nat) (f : Nat) (fa fc : List AV) (p : PS) : OP := lpN T0 call .prog (FnI.mask items.I) lim (Func.code f47).r1.l1.l1.l1 0 n0 (Kblk 0 (Kseq T0 call .prog (FnI.mask items.I) lim (Func.code f47).r1.r1 0 (fin T0 .prog items.I))) ⟨[(0, .rdr 0), (1, .clos f fa fc)], [], STy.enc .prog 0 p, [], 0, []⟩
theorem items.l0_succ (n0 : Nat) (f : Nat) (fa fc : List AV) (p : PS) : items.l0 call lim (n0 + 1) f fa fc p =
if (!p.failed) then
cX call .b .prog comes.n [.rdr 0, .sl .int [64]] p fun (x3 : Bool) (p4 : PS) =>
if (!x3) then
cX call .u .prog f (fa ++ ([] ++ fc)) p4 fun _ (p6 : PS) =>
cX call .b .prog taken.n [.rdr 0, .sl .int [15, 16]] p6 fun (x7 : Bool) (p8 : PS) =>
if (!x7) then
cX call .b .prog Expect.n [.rdr 0, .int 64] p8 fun (x9 : Bool) (p10 : PS) =>
some (.undef, p10)
else
items.l0 call lim n0 f fa fc p8
else
cX call .b .prog Expect.n [.rdr 0, .int 64] p4 fun (x11 : Bool) (p12 : PS) =>
some (.undef, p12)
else
cX call .b .prog Expect.n [.rdr 0, .int 64] p fun (x13 : Bool) (p14 : PS) =>
some (.undef, p14) := by kernel_rfl
theorem items_eq (f : Nat) (fa fc : List AV) (p : PS) : evalBody T0 call .prog lim items.I [.rdr 0, .clos f fa fc] p =
cX call .b .prog Expect.n [.rdr 0, .int 59] p fun (x1 : Bool) (p2 : PS) =>
items.l0 call lim lim f fa fc p2 := by kernel_rfl
noncomputable def field.I : FnI := { fn := f48, masks := [(1, { t := [0, 2] })] }
noncomputable def field.l1 (n1 : Nat) (a21 : Int) (p : PS) : OP := lpN T0 call .prog (FnI.mask field.I) lim (Func.code f48).r1.l1.r1.r1.r1.r1.r1.l1.l1.l1 1 n1 (Kblk 1 (Kseq T0 call .prog (FnI.mask field.I) lim (Func.code f48).r1.l1.r1.r1.r1.r1.r1.r1 0 (Kblk 0 (fin T0 .prog field.I)))) ⟨[(0, .rdr 0), (2, .int a21)], [], STy.enc .prog 0 p, [], 0, []⟩
theorem field.l1_succ (n1 : Nat) (a21 : Int) (p : PS) : field.l1 call lim (n1 + 1) a21 p =
cX call .b .prog taken.n [.rdr 0, .sl .int [60]] p fun (x22 : Bool) (p23 : PS) =>
if x22 then
cX call .u .prog Name.n [.rdr 0] p23 fun _ (p25 : PS) =>
field.l1 call lim n1 a21 p25
else
cX call .u .prog Type_.n [.rdr 0] p23 fun _ (p27 : PS) =>
cX call .u .prog Close.n [.rdr 0, .int a21, .int 225] p27 fun _ (p29 : PS) =>
some (.undef, p29) := by kernel_rfl
theorem field_eq (p : PS) : evalBody T0 call .prog lim field.I [.rdr 0] p =
cX call .i .prog Mark.n [.rdr 0] p fun (x1 : Int) (p2 : PS) =>
cX call .b .prog comes.n [.rdr 0, .sl .int [22]] p2 fun (x3 : Bool) (p4 : PS) =>
if x3 then
cX call .u .prog Take.n [.rdr 0] p4 fun _ (p6 : PS) =>
cX call .u .prog qualified.n [.rdr 0] p6 fun _ (p8 : PS) =>
cX call .u .prog Close.n [.rdr 0, .int x1, .int 205] p8 fun _ (p10 : PS) =>
cX call .u .prog Close.n [.rdr 0, .int x1, .int 226] p10 fun _ (p12 : PS) =>
some (.undef, p12)
else
cX call .b .prog embedded.n [.rdr 0] p4 fun (x13 : Bool) (p14 : PS) =>
if x13 then
cX call .u .prog qualified.n [.rdr 0] p14 fun _ (p16 : PS) =>
cX call .u .prog Close.n [.rdr 0, .int x1, .int 226] p16 fun _ (p18 : PS) =>
some (.undef, p18)
else
cX call .u .prog Name.n [.rdr 0] p14 fun _ (p20 : PS) =>
field.l1 call lim lim x1 p20 := by kernel_rfl
noncomputable def element.I : FnI := { fn := f49, masks := [] }
theorem element_eq (p : PS) : evalBody T0 call .prog lim element.I [.rdr 0] p =
cX call .i .prog Mark.n [.rdr 0] p fun (x1 : Int) (p2 : PS) =>
cX call .i .prog Kind.n [.rdr 0] p2 fun (x3 : Int) (p4 : PS) =>
if (decide (x3 = 10)) then
cX call .i .prog Ahead.n [.rdr 0, .int 1] p4 fun (x5 : Int) (p6 : PS) =>
if (decide (x5 = 57)) then
cX call .u .prog Name.n [.rdr 0] p6 fun _ (p8 : PS) =>
cX call .u .prog Sig.n [.rdr 0] p8 fun _ (p10 : PS) =>
cX call .u .prog Close.n [.rdr 0, .int x1, .int 228] p10 fun _ (p12 : PS) =>
some (.undef, p12)
else
cX call .b .prog union.n [.rdr 0] p6 fun (x13 : Bool) (p14 : PS) =>
cX call .u .prog Close.n [.rdr 0, .int x1, .int 229] p14 fun _ (p16 : PS) =>
some (.undef, p16)
else
cX call .b .prog union.n [.rdr 0] p4 fun (x17 : Bool) (p18 : PS) =>
cX call .u .prog Close.n [.rdr 0, .int x1, .int 229] p18 fun _ (p20 : PS) =>
some (.undef, p20) := by kernel_rfl
noncomputable def embedded.I : FnI := { fn := f61, masks := [] }
theorem embedded_eq (p : PS) : evalBody T0 call .prog lim embedded.I [.rdr 0] p =
cX call .i .prog Ahead.n [.rdr 0, .int 1] p fun (x1 : Int) (p2 : PS) =>
if (decide (x1 = 15)) then
if (decide (x1 = 15)) then
cX call .i .prog Kind.n [.rdr 0] p2 fun (x3 : Int) (p4 : PS) =>
some (.bool (decide (x3 = 10)), p4)
else
some (.bool false, p2)
else
if (decide (x1 = 16)) then
if (decide (x1 = 16)) then
cX call .i .prog Kind.n [.rdr 0] p2 fun (x5 : Int) (p6 : PS) =>
some (.bool (decide (x5 = 10)), p6)
else
some (.bool false, p2)
else
if (decide (x1 = 64)) then
if (decide (x1 = 64)) then
cX call .i .prog Kind.n [.rdr 0] p2 fun (x7 : Int) (p8 : PS) =>
some (.bool (decide (x7 = 10)), p8)
else
some (.bool false, p2)
else
if (decide (x1 = 61)) then
cX call .i .prog Kind.n [.rdr 0] p2 fun (x9 : Int) (p10 : PS) =>
some (.bool (decide (x9 = 10)), p10)
else
some (.bool false, p2) := by kernel_rfl
noncomputable def union.I : FnI := { fn := f31, masks := [(0, { t := [0, 3] })] }
noncomputable def union.l0 (n0 : Nat) (a1 : Bool) (p : PS) : OP := lpN T0 call .prog (FnI.mask union.I) lim (Func.code f31).r1.r1.l1.l1 0 n0 (Kblk 0 (fin T0 .prog union.I)) ⟨[(0, .rdr 0), (3, .bool a1)], [], STy.enc .prog 0 p, [], 0, []⟩
theorem union.l0_succ (n0 : Nat) (a1 : Bool) (p : PS) : union.l0 call lim (n0 + 1) a1 p =
cX call .i .prog Mark.n [.rdr 0] p fun (x2 : Int) (p3 : PS) =>
cX call .b .prog taken.n [.rdr 0, .sl .int [51]] p3 fun (x4 : Bool) (p5 : PS) =>
if x4 then
cX call .u .prog Type_.n [.rdr 0] p5 fun _ (p7 : PS) =>
cX call .u .prog Close.n [.rdr 0, .int x2, .int 230] p7 fun _ (p9 : PS) =>
cX call .b .prog taken.n [.rdr 0, .sl .int [26]] p9 fun (x10 : Bool) (p11 : PS) =>
if (!x10) then
some (.bool true, p11)
else
union.l0 call lim n0 true p11
else
cX call .u .prog Type_.n [.rdr 0] p5 fun _ (p13 : PS) =>
cX call .b .prog taken.n [.rdr 0, .sl .int [26]] p13 fun (x14 : Bool) (p15 : PS) =>
if (!x14) then
some (.bool a1, p15)
else
union.l0 call lim n0 true p15 := by kernel_rfl
theorem union_eq (p : PS) : evalBody T0 call .prog lim union.I [.rdr 0] p =
union.l0 call lim lim false p := by kernel_rfl
noncomputable def hasName.I : FnI := { fn := f62, masks := [] }
noncomputable def hasName.j0 (call : Call) (lim : Nat) (a5 : Int) (a6 : Bool) (p : PS) : OP :=
if a6 then
some (.bool false, p)
else
if (decide (a5 = 58)) then
cX call .i .prog Ahead.n [.rdr 0, .int 2] p fun (x7 : Int) (p8 : PS) =>
if (decide (x7 = 63)) then
some (.bool true, p8)
else
cX call .i .prog partner.n [.rdr 0, .int 1] p8 fun (x9 : Int) (p10 : PS) =>
if (decide (x9 < 0)) then
some (.bool false, p10)
else
cX call .i .prog Ahead.n [.rdr 0, .int (IntKind.i64.wrap (x9 + 1))] p10 fun (x11 : Int) (p12 : PS) =>
if (decide (x11 ≠ 0)) then
if (decide (x11 ≠ 60)) then
some (.bool (decide (x11 ≠ 62)), p12)
else
some (.bool false, p12)
else
some (.bool false, p12)
else
some (.bool true, p)
theorem hasName_eq (p : PS) : evalBody T0 call .prog lim hasName.I [.rdr 0] p =
cX call .i .prog Kind.n [.rdr 0] p fun (x1 : Int) (p2 : PS) =>
if (decide (x1 ≠ 10)) then
some (.bool false, p2)
else
cX call .i .prog Ahead.n [.rdr 0, .int 1] p2 fun (x3 : Int) (p4 : PS) =>
if (decide (x3 = 60)) then
hasName.j0 call lim x3 (decide (x3 = 60)) p4
else
if (decide (x3 = 62)) then
hasName.j0 call lim x3 (decide (x3 = 62)) p4
else
hasName.j0 call lim x3 (decide (x3 = 61)) p4 := by kernel_rfl
noncomputable def partner.I : FnI := { fn := f78, masks := [(0, { t := [0, 1, 5] })] }
noncomputable def partner.l0 (n0 : Nat) (a1 a2 : Int) (p : PS) : OP := lpN T0 call .prog (FnI.mask partner.I) lim (Func.code f78).r1.l1.r1.l1.l1 0 n0 (Kblk 0 (Kseq T0 call .prog (FnI.mask partner.I) lim (Func.code f78).r1.r1 0 (fin T0 .prog partner.I))) ⟨[(0, .rdr 0), (1, .int a1), (5, .int a2)], [], STy.enc .prog 0 p, [], 0, []⟩
theorem partner.l0_succ (n0 : Nat) (a1 a2 : Int) (p : PS) : partner.l0 call lim (n0 + 1) a1 a2 p =
cX call .i .prog Ahead.n [.rdr 0, .int a1] p fun (x3 : Int) (p4 : PS) =>
if (decide (x3 ≠ 0)) then
cX call .i .prog Ahead.n [.rdr 0, .int a1] p4 fun (x5 : Int) (p6 : PS) =>
if (decide (x5 = 58)) then
partner.l0 call lim n0 (IntKind.i64.wrap (a1 + 1)) (IntKind.i64.wrap (a2 + 1)) p6
else
if (decide (x5 = 63)) then
if (decide ((IntKind.i64.wrap (a2 - 1)) = 0)) then
some (.int a1, p6)
else
partner.l0 call lim n0 (IntKind.i64.wrap (a1 + 1)) (IntKind.i64.wrap (a2 - 1)) p6
else
partner.l0 call lim n0 (IntKind.i64.wrap (a1 + 1)) a2 p6
else
some (.int (-1), p4) := by kernel_rfl
theorem partner_eq (n : Int) (p : PS) : evalBody T0 call .prog lim partner.I [.rdr 0, .int n] p =
partner.l0 call lim lim n 0 p := by kernel_rfl
noncomputable def Done.I : FnI := { fn := f11, masks := [(0, { t := [3, 5, 31, 32, 33], own := [(5, 41, .node)], b := [(3, [])] })] }
noncomputable def Done.l0 (n0 : Nat) (l7 : List Node) (l8 : List Made) (a9 a10 a11 a12 a13 : Int) (p : PS) : OP := lpN T0 call .prog (FnI.mask Done.I) lim (Func.code f11).r1.r1.r1.r1.r1.l1.r1.l1.l1 0 n0 (Kblk 0 (Kseq T0 call .prog (FnI.mask Done.I) lim (Func.code f11).r1.r1.r1.r1.r1.r1 0 (fin T0 .prog Done.I))) ⟨[(3, .lbox 3 0), (5, .own 41 0 .node l7), (31, .own 1004 0 .made l8), (32, .int a9), (33, .int a10)], [(3, [.int a11, .int a12, .int a13])], STy.enc .prog 0 p, [], 0, []⟩
theorem Done.l0_succ (n0 : Nat) (l7 : List Node) (l8 : List Made) (a9 a10 a11 a12 a13 : Int) (p : PS) : Done.l0 call lim (n0 + 1) l7 l8 a9 a10 a11 a12 a13 p =
if (decide (a10 < a9)) then
if 0 ≤ a10 then
if a10 < ((l8).length : Int) then
if (l7).length + ([(Node.mk (Node.k ((List.getD l8 (Int.toNat a10) (El.dflt .made)).n)) (Node.f ((List.getD l8 (Int.toNat a10) (El.dflt .made)).n)) (Node.t ((List.getD l8 (Int.toNat a10) (El.dflt .made)).n)) (Node.kids ((List.getD l8 (Int.toNat a10) (El.dflt .made)).n)))]).length < maxRow then
Done.l0 call lim n0 (l7 ++ [(Node.mk (Node.k ((List.getD l8 (Int.toNat a10) (El.dflt .made)).n)) (Node.f ((List.getD l8 (Int.toNat a10) (El.dflt .made)).n)) (Node.t ((List.getD l8 (Int.toNat a10) (El.dflt .made)).n)) (Node.kids ((List.getD l8 (Int.toNat a10) (El.dflt .made)).n)))]) l8 a9 (IntKind.i64.wrap (a10 + 1)) a11 a12 a13 p
else none
else none
else none
else
some (.tup [.sl .node l7, .agg [.int 0, .int 0, .int 0], .bool true], p) := by kernel_rfl
theorem Done_eq (p : PS) : evalBody T0 call .prog lim Done.I [.rdr 0] p =
cX call .i .prog Kind.n [.rdr 0] p fun (x1 : Int) (p2 : PS) =>
if (decide (x1 ≠ 0)) then
cX call .u .prog Fail.n [.rdr 0, .int 201] p2 fun _ (p4 : PS) =>
if p4.failed then
some (.tup [.nil, .agg [.int p4.dc, .int p4.df, .int p4.dt], .bool false], p4)
else
cX call .u .prog leaves.n [.rdr 0, .int ((p4.l).length : Int)] p4 fun _ (p6 : PS) =>
Done.l0 call lim lim [] p6.row ((p6.row).length : Int) 0 0 0 0 p6
else
if p2.failed then
some (.tup [.nil, .agg [.int p2.dc, .int p2.df, .int p2.dt], .bool false], p2)
else
cX call .u .prog leaves.n [.rdr 0, .int ((p2.l).length : Int)] p2 fun _ (p15 : PS) =>
Done.l0 call lim lim [] p15.row ((p15.row).length : Int) 0 0 0 0 p15 := by kernel_rfl
noncomputable def NewReader.I : FnI := { fn := f5, masks := [(0, { t := [3, 10, 11, 12], b := [(9, [(1, 27, .int)])] })] }
noncomputable def NewReader.l0 (n0 : Nat) (l2 : List Tok) (a3 a4 : Int) (l5 : List Tok) (l6 : List Int) (a7 a8 a9 a10 a11 a12 : Int) (a13 : Bool) (p : Unit) : OU := lpN T0 call .unit (FnI.mask NewReader.I) lim (Func.code f5).r1.r1.l1.r1.l1.l1 0 n0 (Kblk 0 (Kseq T0 call .unit (FnI.mask NewReader.I) lim (Func.code f5).r1.r1.r1 0 (fin T0 .unit NewReader.I))) ⟨[(3, .lbox 9 0), (10, .sl .tok l2), (11, .int a3), (12, .int a4)], [(9, [.sl .tok l5, .own 27 0 .int l6, .int a7, .int a8, .nil, .int a9, .int a10, .int a11, .int a12, .bool a13])], STy.enc .unit 0 p, [], 0, []⟩
theorem NewReader.l0_succ (n0 : Nat) (l2 : List Tok) (a3 a4 : Int) (l5 : List Tok) (l6 : List Int) (a7 a8 a9 a10 a11 a12 : Int) (a13 : Bool) (p : Unit) : NewReader.l0 call lim (n0 + 1) l2 a3 a4 l5 l6 a7 a8 a9 a10 a11 a12 a13 p =
if (decide (a4 < a3)) then
if 0 ≤ a4 then
if a4 < ((l2).length : Int) then
if (decide (((List.getD l2 (Int.toNat a4) (⟨0, 0, 0⟩ : Tok)).k) ≥ 10)) then
if (l6).length + ([a4]).length < maxRow then
NewReader.l0 call lim n0 l2 a3 (IntKind.i64.wrap (a4 + 1)) l5 (l6 ++ [a4]) a7 a8 a9 a10 a11 a12 a13 ()
else none
else
NewReader.l0 call lim n0 l2 a3 (IntKind.i64.wrap (a4 + 1)) l5 l6 a7 a8 a9 a10 a11 a12 a13 ()
else none
else none
else
some (.new [.sl .tok l5, .sl .int l6, .int a7, .int a8, .nil, .int a9, .int a10, .int a11, .int a12, .bool a13], ()) := by kernel_rfl
theorem NewReader_eq (l : List Tok) (p : Unit) : evalBody T0 call .unit lim NewReader.I [.sl .tok l] p =
cX call (.s .tok) .unit 15 [.sl .tok l] () fun (x1 : List Tok) _ =>
NewReader.l0 call lim lim l ((l).length : Int) 0 x1 [] 0 0 0 0 0 0 false () := by kernel_rfl
noncomputable def Prec.I : FnI := { fn := f43, masks := [] }
noncomputable def Prec.j1 (call : Call) (lim : Nat) (a3 a4 : Int) (p : Unit) : OU :=
if (decide (a4 = 46)) then
if (decide (a4 = 46)) then
some (.int (IntKind.i64.wrap ((IntKind.i64.wrap ((IntKind.i64.wrap (a3 + 1)) + 1)) + 1)), ())
else
if (decide (a4 = 42)) then
some (.int (IntKind.i64.wrap ((IntKind.i64.wrap (a3 + 1)) + 1)), ())
else
if (decide (a4 = 43)) then
some (.int (IntKind.i64.wrap (a3 + 1)), ())
else
some (.int a3, ())
else
if (decide (a4 = 52)) then
if (decide (a4 = 52)) then
some (.int (IntKind.i64.wrap ((IntKind.i64.wrap ((IntKind.i64.wrap (a3 + 1)) + 1)) + 1)), ())
else
if (decide (a4 = 42)) then
some (.int (IntKind.i64.wrap ((IntKind.i64.wrap (a3 + 1)) + 1)), ())
else
if (decide (a4 = 43)) then
some (.int (IntKind.i64.wrap (a3 + 1)), ())
else
some (.int a3, ())
else
if (decide (a4 = 47)) then
if (decide (a4 = 47)) then
some (.int (IntKind.i64.wrap ((IntKind.i64.wrap ((IntKind.i64.wrap (a3 + 1)) + 1)) + 1)), ())
else
if (decide (a4 = 42)) then
some (.int (IntKind.i64.wrap ((IntKind.i64.wrap (a3 + 1)) + 1)), ())
else
if (decide (a4 = 43)) then
some (.int (IntKind.i64.wrap (a3 + 1)), ())
else
some (.int a3, ())
else
if (decide (a4 = 53)) then
if (decide (a4 = 53)) then
some (.int (IntKind.i64.wrap ((IntKind.i64.wrap ((IntKind.i64.wrap (a3 + 1)) + 1)) + 1)), ())
else
if (decide (a4 = 42)) then
some (.int (IntKind.i64.wrap ((IntKind.i64.wrap (a3 + 1)) + 1)), ())
else
if (decide (a4 = 43)) then
some (.int (IntKind.i64.wrap (a3 + 1)), ())
else
some (.int a3, ())
else
if (decide (a4 = 48)) then
if (decide (a4 = 48)) then
some (.int (IntKind.i64.wrap ((IntKind.i64.wrap ((IntKind.i64.wrap (a3 + 1)) + 1)) + 1)), ())
else
if (decide (a4 = 42)) then
some (.int (IntKind.i64.wrap ((IntKind.i64.wrap (a3 + 1)) + 1)), ())
else
if (decide (a4 = 43)) then
some (.int (IntKind.i64.wrap (a3 + 1)), ())
else
some (.int a3, ())
else
if (decide (a4 = 54)) then
some (.int (IntKind.i64.wrap ((IntKind.i64.wrap ((IntKind.i64.wrap (a3 + 1)) + 1)) + 1)), ())
else
if (decide (a4 = 42)) then
some (.int (IntKind.i64.wrap ((IntKind.i64.wrap (a3 + 1)) + 1)), ())
else
if (decide (a4 = 43)) then
some (.int (IntKind.i64.wrap (a3 + 1)), ())
else
some (.int a3, ())
noncomputable def Prec.j0 (call : Call) (lim : Nat) (a1 a2 : Int) (p : Unit) : OU :=
if (decide (a2 = 20)) then
if (decide (a2 = 20)) then
some (.int (IntKind.i64.wrap ((IntKind.i64.wrap ((IntKind.i64.wrap ((IntKind.i64.wrap (a1 + 1)) + 1)) + 1)) + 1)), ())
else
Prec.j1 call lim a1 a2 ()
else
if (decide (a2 = 21)) then
if (decide (a2 = 21)) then
some (.int (IntKind.i64.wrap ((IntKind.i64.wrap ((IntKind.i64.wrap ((IntKind.i64.wrap (a1 + 1)) + 1)) + 1)) + 1)), ())
else
Prec.j1 call lim a1 a2 ()
else
if (decide (a2 = 26)) then
if (decide (a2 = 26)) then
some (.int (IntKind.i64.wrap ((IntKind.i64.wrap ((IntKind.i64.wrap ((IntKind.i64.wrap (a1 + 1)) + 1)) + 1)) + 1)), ())
else
Prec.j1 call lim a1 a2 ()
else
if (decide (a2 = 27)) then
some (.int (IntKind.i64.wrap ((IntKind.i64.wrap ((IntKind.i64.wrap ((IntKind.i64.wrap (a1 + 1)) + 1)) + 1)) + 1)), ())
else
Prec.j1 call lim a1 a2 ()
theorem Prec_eq (kind : Int) (p : Unit) : evalBody T0 call .unit lim Prec.I [.int kind] p =
if (decide (kind = 22)) then
if (decide (kind = 22)) then
some (.int (IntKind.i64.wrap ((IntKind.i64.wrap ((IntKind.i64.wrap ((IntKind.i64.wrap ((IntKind.i64.wrap (0 + 1)) + 1)) + 1)) + 1)) + 1)), ())
else
Prec.j0 call lim 0 kind ()
else
if (decide (kind = 23)) then
if (decide (kind = 23)) then
some (.int (IntKind.i64.wrap ((IntKind.i64.wrap ((IntKind.i64.wrap ((IntKind.i64.wrap ((IntKind.i64.wrap (0 + 1)) + 1)) + 1)) + 1)) + 1)), ())
else
Prec.j0 call lim 0 kind ()
else
if (decide (kind = 24)) then
if (decide (kind = 24)) then
some (.int (IntKind.i64.wrap ((IntKind.i64.wrap ((IntKind.i64.wrap ((IntKind.i64.wrap ((IntKind.i64.wrap (0 + 1)) + 1)) + 1)) + 1)) + 1)), ())
else
Prec.j0 call lim 0 kind ()
else
if (decide (kind = 28)) then
if (decide (kind = 28)) then
some (.int (IntKind.i64.wrap ((IntKind.i64.wrap ((IntKind.i64.wrap ((IntKind.i64.wrap ((IntKind.i64.wrap (0 + 1)) + 1)) + 1)) + 1)) + 1)), ())
else
Prec.j0 call lim 0 kind ()
else
if (decide (kind = 29)) then
if (decide (kind = 29)) then
some (.int (IntKind.i64.wrap ((IntKind.i64.wrap ((IntKind.i64.wrap ((IntKind.i64.wrap ((IntKind.i64.wrap (0 + 1)) + 1)) + 1)) + 1)) + 1)), ())
else
Prec.j0 call lim 0 kind ()
else
if (decide (kind = 25)) then
if (decide (kind = 25)) then
some (.int (IntKind.i64.wrap ((IntKind.i64.wrap ((IntKind.i64.wrap ((IntKind.i64.wrap ((IntKind.i64.wrap (0 + 1)) + 1)) + 1)) + 1)) + 1)), ())
else
Prec.j0 call lim 0 kind ()
else
if (decide (kind = 30)) then
some (.int (IntKind.i64.wrap ((IntKind.i64.wrap ((IntKind.i64.wrap ((IntKind.i64.wrap ((IntKind.i64.wrap (0 + 1)) + 1)) + 1)) + 1)) + 1)), ())
else
Prec.j0 call lim 0 kind () := by kernel_rfl
noncomputable def s1more.I : FnI := { fn := f96, masks := [] }
theorem s1more_eq (s : ByteArray) (i lo hi : Int) (p : Unit) : evalBody T0 call .unit lim s1more.I [.str s, .int i, .ik .u8 lo, .ik .u8 hi] p =
if (decide (i < ((s).size : Int))) then
if (decide (0 ≤ i) && decide (i < ((s).size : Int))) = true then
if (decide ((bt s i) ≥ lo)) then
if (decide (0 ≤ i) && decide (i < ((s).size : Int))) = true then
some (.bool (decide ((bt s i) ≤ hi)), ())
else none
else
some (.bool false, ())
else none
else
some (.bool false, ()) := by kernel_rfl
noncomputable def Width.I : FnI := { fn := f85, masks := [] }
noncomputable def Width.j1 (call : Call) (lim : Nat) (s5 : ByteArray) (a6 a7 a8 a9 : Int) (p : Unit) : OU :=
cX call .b .unit s1more.n [.str s5, .int (IntKind.i64.wrap (a6 + 1)), .ik .u8 a8, .ik .u8 a9] () fun (x10 : Bool) _ =>
if (!x10) then
some (.int 0, ())
else
cX call .b .unit s1more.n [.str s5, .int (IntKind.i64.wrap (a6 + 2)), .ik .u8 128, .ik .u8 191] () fun (x11 : Bool) _ =>
if (!x11) then
some (.int 0, ())
else
if (decide (a7 < 240)) then
some (.int 3, ())
else
cX call .b .unit s1more.n [.str s5, .int (IntKind.i64.wrap (a6 + 3)), .ik .u8 128, .ik .u8 191] () fun (x12 : Bool) _ =>
if x12 then
some (.int 4, ())
else
some (.int 0, ())
noncomputable def Width.j0 (call : Call) (lim : Nat) (s2 : ByteArray) (a3 a4 : Int) (p : Unit) : OU :=
if (decide (a4 = 224)) then
Width.j1 call lim s2 a3 a4 160 191 ()
else
if (decide (a4 = 237)) then
Width.j1 call lim s2 a3 a4 128 159 ()
else
if (decide (a4 = 240)) then
Width.j1 call lim s2 a3 a4 144 191 ()
else
if (decide (a4 = 244)) then
Width.j1 call lim s2 a3 a4 128 143 ()
else
Width.j1 call lim s2 a3 a4 128 191 ()
theorem Width_eq (s : ByteArray) (i : Int) (p : Unit) : evalBody T0 call .unit lim Width.I [.str s, .int i] p =
if (decide (0 ≤ i) && decide (i < ((s).size : Int))) = true then
if (decide ((bt s i) < 128)) then
some (.int 1, ())
else
if (decide ((bt s i) < 194)) then
some (.int 0, ())
else
if (decide ((bt s i) > 244)) then
some (.int 0, ())
else
if (decide ((bt s i) < 224)) then
cX call .b .unit s1more.n [.str s, .int (IntKind.i64.wrap (i + 1)), .ik .u8 128, .ik .u8 191] () fun (x1 : Bool) _ =>
if x1 then
some (.int 2, ())
else
some (.int 0, ())
else
Width.j0 call lim s i (bt s i) ()
else none := by kernel_rfl
noncomputable def s2cut.I : FnI := { fn := f91, masks := [(0, { t := [0, 3, 4, 5], own := [(3, 26, .str)] })] }
noncomputable def s2cut.l0 (n0 : Nat) (s1 : ByteArray) (l2 : List ByteArray) (s3 : ByteArray) (a4 : Int) (p : Unit) : OU := lpN T0 call .unit (FnI.mask s2cut.I) lim (Func.code f91).r1.r1.r1.l1.r1.l1.l1 0 n0 (Kblk 0 (Kseq T0 call .unit (FnI.mask s2cut.I) lim (Func.code f91).r1.r1.r1.r1 0 (fin T0 .unit s2cut.I))) ⟨[(0, .str s1), (3, .own 26 0 .str l2), (4, .str s3), (5, .int a4)], [], STy.enc .unit 0 p, [], 0, []⟩
theorem s2cut.l0_succ (n0 : Nat) (s1 : ByteArray) (l2 : List ByteArray) (s3 : ByteArray) (a4 : Int) (p : Unit) : s2cut.l0 call lim (n0 + 1) s1 l2 s3 a4 p =
if (decide (a4 < ((s1).size : Int))) then
if (decide (0 ≤ a4) && decide (a4 < ((s1).size : Int))) = true then
if (decide ((bt s1 a4) ≠ 32)) then
if (decide (0 ≤ a4) && (decide (a4 ≤ (IntKind.i64.wrap (a4 + 1))) && decide ((IntKind.i64.wrap (a4 + 1)) ≤ ((s1).size : Int)))) = true then
if decide ((s3).size + ((ByteArray.extract s1 (Int.toNat a4) (Int.toNat (IntKind.i64.wrap (a4 + 1))))).size < 1099511627776) = true then
s2cut.l0 call lim n0 s1 l2 (s3 ++ (ByteArray.extract s1 (Int.toNat a4) (Int.toNat (IntKind.i64.wrap (a4 + 1))))) (IntKind.i64.wrap (a4 + 1)) ()
else none
else none
else
if (l2).length + ([s3]).length < maxRow then
s2cut.l0 call lim n0 s1 (l2 ++ [s3]) (⟨#[]⟩ : ByteArray) (IntKind.i64.wrap (a4 + 1)) ()
else none
else none
else
if (l2).length + ([s3]).length < maxRow then
some (.sl .str (l2 ++ [s3]), ())
else none := by kernel_rfl
theorem s2cut_eq (s : ByteArray) (p : Unit) : evalBody T0 call .unit lim s2cut.I [.str s] p =
s2cut.l0 call lim lim s [] (⟨#[]⟩ : ByteArray) 0 () := by kernel_rfl
noncomputable def Signs.I : FnI := { fn := f95, masks := [] }
theorem Signs_eq (p : Unit) : evalBody T0 call .unit lim Signs.I [] p =
cX call (.s .str) .unit s2cut.n [.str (⟨#[43, 32, 45, 32, 42, 32, 47, 32, 37, 32, 38, 32, 124, 32, 94, 32, 60, 60, 32, 62, 62, 32, 38, 94, 32, 43, 61, 32, 45, 61, 32, 42, 61, 32, 47, 61, 32, 37, 61, 32, 38, 61, 32, 124, 61, 32, 94, 61, 32, 60, 60, 61, 32, 62, 62, 61, 32, 38, 94, 61, 32, 38, 38, 32, 124, 124, 32, 43, 43, 32, 45, 45, 32, 61, 61, 32, 60, 32, 62, 32, 61, 32, 33, 32, 126, 32, 33, 61, 32, 60, 61, 32, 62, 61, 32, 58, 61, 32, 46, 46, 46, 32, 40, 32, 91, 32, 123, 32, 44, 32, 46, 32, 41, 32, 93, 32, 125, 32, 58]⟩ : ByteArray)] () fun (x1 : List ByteArray) _ =>
some (.sl .str x1, ()) := by kernel_rfl
noncomputable def Keywords.I : FnI := { fn := f79, masks := [] }
theorem Keywords_eq (p : Unit) : evalBody T0 call .unit lim Keywords.I [] p =
cX call (.s .str) .unit s2cut.n [.str (⟨#[98, 114, 101, 97, 107, 32, 99, 97, 115, 101, 32, 99, 111, 110, 115, 116, 32, 99, 111, 110, 116, 105, 110, 117, 101, 32, 100, 101, 102, 97, 117, 108, 116, 32, 100, 101, 102, 101, 114, 32, 101, 108, 115, 101, 32, 102, 97, 108, 108, 116, 104, 114, 111, 117, 103, 104, 32, 102, 111, 114, 32, 102, 117, 110, 99, 32, 105, 102, 32, 105, 109, 112, 111, 114, 116, 32, 105, 110, 116, 101, 114, 102, 97, 99, 101, 32, 109, 97, 112, 32, 112, 97, 99, 107, 97, 103, 101, 32, 114, 97, 110, 103, 101, 32, 114, 101, 116, 117, 114, 110, 32, 115, 116, 114, 117, 99, 116, 32, 115, 119, 105, 116, 99, 104, 32, 116, 121, 112, 101, 32, 118, 97, 114]⟩ : ByteArray)] () fun (x1 : List ByteArray) _ =>
some (.sl .str x1, ()) := by kernel_rfl
noncomputable def Keyword.I : FnI := { fn := f68, masks := [(0, { t := [0, 5, 6, 7] })] }
noncomputable def Keyword.l0 (n0 : Nat) (s2 : ByteArray) (l3 : List ByteArray) (a4 a5 : Int) (p : Unit) : OU := lpN T0 call .unit (FnI.mask Keyword.I) lim (Func.code f68).r1.l1.r1.l1.l1 0 n0 (Kblk 0 (Kseq T0 call .unit (FnI.mask Keyword.I) lim (Func.code f68).r1.r1 0 (fin T0 .unit Keyword.I))) ⟨[(0, .str s2), (5, .sl .str l3), (6, .int a4), (7, .int a5)], [], STy.enc .unit 0 p, [], 0, []⟩
theorem Keyword.l0_succ (n0 : Nat) (s2 : ByteArray) (l3 : List ByteArray) (a4 a5 : Int) (p : Unit) : Keyword.l0 call lim (n0 + 1) s2 l3 a4 a5 p =
if (decide (a5 < a4)) then
if 0 ≤ a5 then
if a5 < ((l3).length : Int) then
if (((List.getD l3 (Int.toNat a5) ByteArray.empty)).toList == (s2).toList) then
some (.int (IntKind.i64.wrap (70 + a5)), ())
else
Keyword.l0 call lim n0 s2 l3 a4 (IntKind.i64.wrap (a5 + 1)) ()
else none
else none
else
some (.int 0, ()) := by kernel_rfl
theorem Keyword_eq (s : ByteArray) (p : Unit) : evalBody T0 call .unit lim Keyword.I [.str s] p =
cX call (.s .str) .unit Keywords.n [] () fun (x1 : List ByteArray) _ =>
Keyword.l0 call lim lim s x1 ((x1).length : Int) 0 () := by kernel_rfl
noncomputable def Operator.I : FnI := { fn := f84, masks := [(0, { t := [0, 4, 5, 16, 17, 18] })] }
noncomputable def Operator.l0 (n0 : Nat) (s5 : ByteArray) (a6 a7 : Int) (l8 : List ByteArray) (a9 a10 : Int) (p : Unit) : OU := lpN T0 call .unit (FnI.mask Operator.I) lim (Func.code f84).r1.r1.r1.l1.r1.l1.l1 0 n0 (Kblk 0 (Kseq T0 call .unit (FnI.mask Operator.I) lim (Func.code f84).r1.r1.r1.r1 0 (fin T0 .unit Operator.I))) ⟨[(0, .str s5), (4, .int a6), (5, .int a7), (16, .sl .str l8), (17, .int a9), (18, .int a10)], [], STy.enc .unit 0 p, [], 0, []⟩
theorem Operator.l0_succ (n0 : Nat) (s5 : ByteArray) (a6 a7 : Int) (l8 : List ByteArray) (a9 a10 : Int) (p : Unit) : Operator.l0 call lim (n0 + 1) s5 a6 a7 l8 a9 a10 p =
if (decide (a10 < a9)) then
if 0 ≤ a10 then
if a10 < ((l8).length : Int) then
if (decide ((((List.getD l8 (Int.toNat a10) ByteArray.empty)).size : Int) > a7)) then
if (decide ((((List.getD l8 (Int.toNat a10) ByteArray.empty)).size : Int) ≤ ((s5).size : Int))) then
if (decide (0 ≤ (((List.getD l8 (Int.toNat a10) ByteArray.empty)).size : Int)) && decide ((((List.getD l8 (Int.toNat a10) ByteArray.empty)).size : Int) ≤ ((s5).size : Int))) = true then
if (((ByteArray.extract s5 0 (Int.toNat (((List.getD l8 (Int.toNat a10) ByteArray.empty)).size : Int)))).toList == ((List.getD l8 (Int.toNat a10) ByteArray.empty)).toList) then
Operator.l0 call lim n0 s5 (IntKind.i64.wrap (20 + a10)) (((List.getD l8 (Int.toNat a10) ByteArray.empty)).size : Int) l8 a9 (IntKind.i64.wrap (a10 + 1)) ()
else
Operator.l0 call lim n0 s5 a6 a7 l8 a9 (IntKind.i64.wrap (a10 + 1)) ()
else none
else
Operator.l0 call lim n0 s5 a6 a7 l8 a9 (IntKind.i64.wrap (a10 + 1)) ()
else
Operator.l0 call lim n0 s5 a6 a7 l8 a9 (IntKind.i64.wrap (a10 + 1)) ()
else none
else none
else
some (.tup [.int a6, .int a7], ()) := by kernel_rfl
noncomputable def Operator.j0 (call : Call) (lim : Nat) (s1 : ByteArray) (a2 a3 : Int) (p : Unit) : OU :=
cX call (.s .str) .unit Signs.n [] () fun (x4 : List ByteArray) _ =>
Operator.l0 call lim lim s1 a2 a3 x4 ((x4).length : Int) 0 ()
theorem Operator_eq (s : ByteArray) (p : Unit) : evalBody T0 call .unit lim Operator.I [.str s] p =
if (decide (((s).size : Int) > 0)) then
if (decide (0 ≤ 0) && decide (0 < ((s).size : Int))) = true then
if (decide ((bt s 0) = 59)) then
some (.tup [.int 15, .int 1], ())
else
Operator.j0 call lim s 0 0 ()
else none
else
Operator.j0 call lim s 0 0 () := by kernel_rfl
noncomputable def sEnds.I : FnI := { fn := f38, masks := [] }
theorem sEnds_eq (kind : Int) (p : Unit) : evalBody T0 call .unit lim sEnds.I [.int kind] p =
if (decide (kind = 10)) then
if (decide (kind = 10)) then
some (.bool true, ())
else
some (.bool false, ())
else
if (decide (kind = 11)) then
if (decide (kind = 11)) then
some (.bool true, ())
else
some (.bool false, ())
else
if (decide (kind = 12)) then
if (decide (kind = 12)) then
some (.bool true, ())
else
some (.bool false, ())
else
if (decide (kind = 13)) then
if (decide (kind = 13)) then
some (.bool true, ())
else
some (.bool false, ())
else
if (decide (kind = 14)) then
if (decide (kind = 14)) then
some (.bool true, ())
else
some (.bool false, ())
else
if (decide (kind = 70)) then
if (decide (kind = 70)) then
some (.bool true, ())
else
some (.bool false, ())
else
if (decide (kind = 73)) then
if (decide (kind = 73)) then
some (.bool true, ())
else
some (.bool false, ())
else
if (decide (kind = 77)) then
if (decide (kind = 77)) then
some (.bool true, ())
else
some (.bool false, ())
else
if (decide (kind = 86)) then
if (decide (kind = 86)) then
some (.bool true, ())
else
some (.bool false, ())
else
if (decide (kind = 44)) then
if (decide (kind = 44)) then
some (.bool true, ())
else
some (.bool false, ())
else
if (decide (kind = 45)) then
if (decide (kind = 45)) then
some (.bool true, ())
else
some (.bool false, ())
else
if (decide (kind = 62)) then
if (decide (kind = 62)) then
some (.bool true, ())
else
some (.bool false, ())
else
if (decide (kind = 63)) then
if (decide (kind = 63)) then
some (.bool true, ())
else
some (.bool false, ())
else
if (decide (kind = 64)) then
some (.bool true, ())
else
some (.bool false, ()) := by kernel_rfl
noncomputable def sDigit.I : FnI := { fn := f92, masks := [] }
noncomputable def sDigit.j1 (call : Call) (lim : Nat) (a3 : Int) (a4 : Bool) (p : Unit) : OU :=
if a4 then
some (.int (IntKind.i64.wrap ((IntKind.i64.wrap (IntKind.u8.wrap (a3 - 97))) + 10)), ())
else
if (decide (a3 ≥ 65)) then
if (decide (a3 ≤ 70)) then
some (.int (IntKind.i64.wrap ((IntKind.i64.wrap (IntKind.u8.wrap (a3 - 65))) + 10)), ())
else
some (.int 99, ())
else
some (.int 99, ())
noncomputable def sDigit.j0 (call : Call) (lim : Nat) (a1 : Int) (a2 : Bool) (p : Unit) : OU :=
if a2 then
some (.int (IntKind.i64.wrap (IntKind.u8.wrap (a1 - 48))), ())
else
if (decide (a1 ≥ 97)) then
sDigit.j1 call lim a1 (decide (a1 ≤ 102)) ()
else
sDigit.j1 call lim a1 false ()
theorem sDigit_eq (c : Int) (p : Unit) : evalBody T0 call .unit lim sDigit.I [.ik .u8 c] p =
if (decide (c ≥ 48)) then
sDigit.j0 call lim c (decide (c ≤ 57)) ()
else
sDigit.j0 call lim c false () := by kernel_rfl
noncomputable def srow.I : FnI := { fn := f80, masks := [(0, { t := [0, 1, 8, 9] })] }
noncomputable def srow.l0 (n0 : Nat) (s3 : ByteArray) (a4 : Int) (s5 : ByteArray) (a6 : Int) (p : Unit) : OU := lpN T0 call .unit (FnI.mask srow.I) lim (Func.code f80).r1.r1.r1.l1.r1.l1.l1 0 n0 (Kblk 0 (Kseq T0 call .unit (FnI.mask srow.I) lim (Func.code f80).r1.r1.r1.r1 0 (fin T0 .unit srow.I))) ⟨[(0, .str s3), (1, .int a4), (8, .str s5), (9, .int a6)], [], STy.enc .unit 0 p, [], 0, []⟩
noncomputable def srow.j1 (call : Call) (lim : Nat) (n0 : Nat) (s7 : ByteArray) (a8 : Int) (s9 : ByteArray) (a10 : Int) (p : Unit) : OU :=
if (decide (0 ≤ a10) && decide (a10 < ((s7).size : Int))) = true then
cX call .i .unit sDigit.n [.ik .u8 (bt s7 a10)] () fun (x11 : Int) _ =>
if (decide (x11 ≥ a8)) then
some (.tup [.str (⟨#[]⟩ : ByteArray), .bool false], ())
else
if (decide (0 ≤ a10) && (decide (a10 ≤ (IntKind.i64.wrap (a10 + 1))) && decide ((IntKind.i64.wrap (a10 + 1)) ≤ ((s7).size : Int)))) = true then
if decide ((s9).size + ((ByteArray.extract s7 (Int.toNat a10) (Int.toNat (IntKind.i64.wrap (a10 + 1))))).size < 1099511627776) = true then
srow.l0 call lim n0 s7 a8 (s9 ++ (ByteArray.extract s7 (Int.toNat a10) (Int.toNat (IntKind.i64.wrap (a10 + 1))))) (IntKind.i64.wrap (a10 + 1)) ()
else none
else none
else none
theorem srow.l0_succ (n0 : Nat) (s3 : ByteArray) (a4 : Int) (s5 : ByteArray) (a6 : Int) (p : Unit) : srow.l0 call lim (n0 + 1) s3 a4 s5 a6 p =
if (decide (a6 < ((s3).size : Int))) then
if (decide (0 ≤ a6) && decide (a6 < ((s3).size : Int))) = true then
if (decide ((bt s3 a6) = 95)) then
if (decide (a6 > 0)) then
if (decide (0 ≤ (IntKind.i64.wrap (a6 - 1))) && decide ((IntKind.i64.wrap (a6 - 1)) < ((s3).size : Int))) = true then
if (decide ((bt s3 (IntKind.i64.wrap (a6 - 1))) ≠ 95)) then
if (decide ((IntKind.i64.wrap (a6 + 1)) < ((s3).size : Int))) then
srow.l0 call lim n0 s3 a4 s5 (IntKind.i64.wrap (a6 + 1)) ()
else
srow.j1 call lim n0 s3 a4 s5 a6 ()
else
srow.j1 call lim n0 s3 a4 s5 a6 ()
else none
else
srow.j1 call lim n0 s3 a4 s5 a6 ()
else
srow.j1 call lim n0 s3 a4 s5 a6 ()
else none
else
some (.tup [.str s5, .bool (!((s5).toList == ((⟨#[]⟩ : ByteArray)).toList))], ()) := by kernel_rfl
noncomputable def srow.j0 (call : Call) (lim : Nat) (s1 : ByteArray) (a2 : Int) (p : Unit) : OU :=
srow.l0 call lim lim s1 a2 (⟨#[]⟩ : ByteArray) 0 ()
theorem srow_eq (s : ByteArray) (base : Int) (ahead : Bool) (p : Unit) : evalBody T0 call .unit lim srow.I [.str s, .int base, .bool ahead] p =
if ahead then
if (decide (((s).size : Int) > 0)) then
if (decide (0 ≤ 0) && decide (0 < ((s).size : Int))) = true then
if (decide ((bt s 0) = 95)) then
if (decide (0 ≤ 1) && decide (1 ≤ ((s).size : Int))) = true then
srow.j0 call lim (ByteArray.extract s (Int.toNat 1) (s).size) base ()
else none
else
srow.j0 call lim s base ()
else none
else
srow.j0 call lim s base ()
else
srow.j0 call lim s base () := by kernel_rfl
noncomputable def Digits.I : FnI := { fn := f69, masks := [] }
noncomputable def Digits.j2 (call : Call) (lim : Nat) (s10 : ByteArray) (a11 a12 : Int) (p : Unit) : OU :=
if (decide (0 ≤ a12) && decide (a12 ≤ ((s10).size : Int))) = true then
cX call (.t2 .str .b) .unit srow.n [.str (ByteArray.extract s10 (Int.toNat a12) (s10).size), .int a11, .bool (decide (a12 > 0))] () fun (x13 : (ByteArray × Bool)) _ =>
if (!x13.2) then
some (.tup [.int 0, .str (⟨#[]⟩ : ByteArray), .bool false], ())
else
some (.tup [.int a11, .str x13.1, .bool true], ())
else none
noncomputable def Digits.j1 (call : Call) (lim : Nat) (s5 : ByteArray) (a6 a7 a8 : Int) (a9 : Bool) (p : Unit) : OU :=
if a9 then
Digits.j2 call lim s5 2 2 ()
else
if (decide (a8 = 111)) then
if (decide (a8 = 111)) then
Digits.j2 call lim s5 a6 2 ()
else
if (decide (a8 = 120)) then
if (decide (a8 = 120)) then
Digits.j2 call lim s5 16 2 ()
else
Digits.j2 call lim s5 a6 a7 ()
else
if (decide (a8 = 88)) then
Digits.j2 call lim s5 16 2 ()
else
Digits.j2 call lim s5 a6 a7 ()
else
if (decide (a8 = 79)) then
Digits.j2 call lim s5 a6 2 ()
else
if (decide (a8 = 120)) then
if (decide (a8 = 120)) then
Digits.j2 call lim s5 16 2 ()
else
Digits.j2 call lim s5 a6 a7 ()
else
if (decide (a8 = 88)) then
Digits.j2 call lim s5 16 2 ()
else
Digits.j2 call lim s5 a6 a7 ()
noncomputable def Digits.j0 (call : Call) (lim : Nat) (s1 : ByteArray) (a2 a3 : Int) (a4 : Bool) (p : Unit) : OU :=
if a4 then
if (decide (0 ≤ 1) && decide (1 < ((s1).size : Int))) = true then
if (decide ((bt s1 1) = 98)) then
Digits.j1 call lim s1 8 1 (bt s1 1) (decide ((bt s1 1) = 98)) ()
else
Digits.j1 call lim s1 8 1 (bt s1 1) (decide ((bt s1 1) = 66)) ()
else none
else
Digits.j2 call lim s1 a2 a3 ()
theorem Digits_eq (s : ByteArray) (p : Unit) : evalBody T0 call .unit lim Digits.I [.str s] p =
if ((s).toList == ((⟨#[48]⟩ : ByteArray)).toList) then
some (.tup [.int 10, .str (⟨#[48]⟩ : ByteArray), .bool true], ())
else
if (decide (((s).size : Int) > 1)) then
if (decide (0 ≤ 0) && decide (0 < ((s).size : Int))) = true then
Digits.j0 call lim s 10 0 (decide ((bt s 0) = 48)) ()
else none
else
Digits.j0 call lim s 10 0 false () := by kernel_rfl
noncomputable def number.I : FnI := { fn := f98, masks := [(0, { t := [0, 1, 2, 3, 9, 10] })] }
noncomputable def number.l0 (n0 : Nat) (s1 : ByteArray) (a2 a3 a4 a5 a6 : Int) (p : Unit) : OU := lpN T0 call .unit (FnI.mask number.I) lim (Func.code f98).r1.r1.r1.l1.r1.l1.l1 0 n0 (Kblk 0 (Kseq T0 call .unit (FnI.mask number.I) lim (Func.code f98).r1.r1.r1.r1 0 (fin T0 .unit number.I))) ⟨[(0, .str s1), (1, .int a2), (2, .int a3), (3, .int a4), (9, .int a5), (10, .int a6)], [], STy.enc .unit 0 p, [], 0, []⟩
theorem number.l0_succ (n0 : Nat) (s1 : ByteArray) (a2 a3 a4 a5 a6 : Int) (p : Unit) : number.l0 call lim (n0 + 1) s1 a2 a3 a4 a5 a6 p =
if (decide (a6 < (IntKind.i64.wrap (a2 + a3)))) then
if (decide (0 ≤ a6) && decide (a6 < ((s1).size : Int))) = true then
cX call .i .unit sDigit.n [.ik .u8 (bt s1 a6)] () fun (x7 : Int) _ =>
if (decide (x7 ≥ a4)) then
some (.int (-1), ())
else
if (decide (0 ≤ a6) && decide (a6 < ((s1).size : Int))) = true then
cX call .i .unit sDigit.n [.ik .u8 (bt s1 a6)] () fun (x8 : Int) _ =>
number.l0 call lim n0 s1 a2 a3 a4 (IntKind.i64.wrap ((IntKind.i64.wrap (a5 * a4)) + x8)) (IntKind.i64.wrap (a6 + 1)) ()
else none
else none
else
some (.int a5, ()) := by kernel_rfl
theorem number_eq (s : ByteArray) (at_ many base : Int) (p : Unit) : evalBody T0 call .unit lim number.I [.str s, .int at_, .int many, .int base] p =
if (decide ((IntKind.i64.wrap (at_ + many)) > ((s).size : Int))) then
some (.int (-1), ())
else
number.l0 call lim lim s at_ many base 0 at_ () := by kernel_rfl
noncomputable def UTF8.I : FnI := { fn := f99, masks := [] }
theorem UTF8_eq (u : Int) (p : Unit) : evalBody T0 call .unit lim UTF8.I [.int u] p =
if (decide (u < 128)) then
some (.str (strOfL [(IntKind.u8.wrap u)]), ())
else
if (decide (u < 2048)) then
some (.str (strOfL [(IntKind.u8.wrap (IntKind.i64.wrap (192 + (shrI .i64 u 6)))), (IntKind.u8.wrap (IntKind.i64.wrap (128 + (andI .i64 u 63))))]), ())
else
if (decide (u < 65536)) then
some (.str (strOfL [(IntKind.u8.wrap (IntKind.i64.wrap (224 + (shrI .i64 u 12)))), (IntKind.u8.wrap (IntKind.i64.wrap (128 + (andI .i64 (shrI .i64 u 6) 63)))), (IntKind.u8.wrap (IntKind.i64.wrap (128 + (andI .i64 u 63))))]), ())
else
some (.str (strOfL [(IntKind.u8.wrap (IntKind.i64.wrap (240 + (shrI .i64 u 18)))), (IntKind.u8.wrap (IntKind.i64.wrap (128 + (andI .i64 (shrI .i64 u 12) 63)))), (IntKind.u8.wrap (IntKind.i64.wrap (128 + (andI .i64 (shrI .i64 u 6) 63)))), (IntKind.u8.wrap (IntKind.i64.wrap (128 + (andI .i64 u 63))))]), ()) := by kernel_rfl
noncomputable def Escape.I (φ : Int → Int) : FnI := { fn := Func.hid φ f93, masks := [(0, { t := [0, 1, 9, 10, 11, 12] })] }
noncomputable def Escape.l0 (φ : Int → Int) (call : Call) (lim : Nat) (n0 : Nat) (s1 : ByteArray) (a2 a3 : Int) (s4 : ByteArray) (l5 : List Int) (a6 : Int) (p : Unit) : OU := lpN T0 call .unit (FnI.mask (Escape.I φ)) lim (Func.code (Func.hid φ f93)).r1.r1.r1.r1.r1.r1.l1.r1.l1.l1 0 n0 (Kblk 0 (Kseq T0 call .unit (FnI.mask (Escape.I φ)) lim (Func.code (Func.hid φ f93)).r1.r1.r1.r1.r1.r1.r1 0 (fin T0 .unit (Escape.I φ)))) ⟨[(0, .str s1), (1, .int a2), (9, .ik .u8 a3), (10, .str s4), (11, .sl .int l5), (12, .int a6)], [], STy.enc .unit 0 p, [], 0, []⟩
noncomputable def Escape.j1 (φ : Int → Int) (call : Call) (lim : Nat) (a10 a11 : Int) (p : Unit) : OU :=
if (decide (a11 = 4)) then
some (.tup [.int a10, .str (strOfL [(IntKind.u8.wrap a10)]), .int 4], ())
else
cX call .str .unit UTF8.n [.int a10] () fun (x12 : ByteArray) _ =>
some (.tup [.int a10, .str x12, .int a11], ())
noncomputable def Escape.j0 (φ : Int → Int) (call : Call) (lim : Nat) (a8 a9 : Int) (p : Unit) : OU :=
if (decide (a8 < 0)) then
some (.tup [.int 0, .str (⟨#[]⟩ : ByteArray), .int 0], ())
else
if (decide (a9 = 4)) then
if (decide (a8 > (φ 255))) then
some (.tup [.int 0, .str (⟨#[]⟩ : ByteArray), .int 0], ())
else
if (decide (a8 > (φ 1114111))) then
some (.tup [.int 0, .str (⟨#[]⟩ : ByteArray), .int 0], ())
else
if (decide (a9 > 4)) then
if (decide (a8 ≥ (φ 55296))) then
if (decide (a8 ≤ (φ 57343))) then
some (.tup [.int 0, .str (⟨#[]⟩ : ByteArray), .int 0], ())
else
Escape.j1 φ call lim a8 a9 ()
else
Escape.j1 φ call lim a8 a9 ()
else
Escape.j1 φ call lim a8 a9 ()
else
if (decide (a8 > (φ 1114111))) then
some (.tup [.int 0, .str (⟨#[]⟩ : ByteArray), .int 0], ())
else
if (decide (a9 > 4)) then
if (decide (a8 ≥ (φ 55296))) then
if (decide (a8 ≤ (φ 57343))) then
some (.tup [.int 0, .str (⟨#[]⟩ : ByteArray), .int 0], ())
else
Escape.j1 φ call lim a8 a9 ()
else
Escape.j1 φ call lim a8 a9 ()
else
Escape.j1 φ call lim a8 a9 ()
theorem Escape.l0_succ (φ : Int → Int) (call : Call) (lim : Nat) (n0 : Nat) (s1 : ByteArray) (a2 a3 : Int) (s4 : ByteArray) (l5 : List Int) (a6 : Int) (p : Unit) : Escape.l0 φ call lim (n0 + 1) s1 a2 a3 s4 l5 a6 p =
if (decide (a6 < ((s4).size : Int))) then
if (decide (0 ≤ a6) && decide (a6 < ((s4).size : Int))) = true then
if (decide (a3 = (bt s4 a6))) then
if 0 ≤ a6 then
if a6 < ((l5).length : Int) then
if 0 ≤ a6 then
if a6 < ((l5).length : Int) then
some (.tup [.int (List.getD l5 (Int.toNat a6) (0 : Int)), .str (strOfL [(IntKind.u8.wrap (List.getD l5 (Int.toNat a6) (0 : Int)))]), .int 2], ())
else none
else none
else none
else none
else
Escape.l0 φ call lim n0 s1 a2 a3 s4 l5 (IntKind.i64.wrap (a6 + 1)) ()
else none
else
if (decide (a3 = 120)) then
cX call .i .unit number.n [.str s1, .int (IntKind.i64.wrap (a2 + 2)), .int 2, .int 16] () fun (x7 : Int) _ =>
Escape.j0 φ call lim x7 4 ()
else
if (decide (a3 = 117)) then
cX call .i .unit number.n [.str s1, .int (IntKind.i64.wrap (a2 + 2)), .int 4, .int 16] () fun (x13 : Int) _ =>
Escape.j0 φ call lim x13 6 ()
else
if (decide (a3 = 85)) then
cX call .i .unit number.n [.str s1, .int (IntKind.i64.wrap (a2 + 2)), .int 8, .int 16] () fun (x14 : Int) _ =>
Escape.j0 φ call lim x14 10 ()
else
cX call .i .unit number.n [.str s1, .int (IntKind.i64.wrap (a2 + 1)), .int 3, .int 8] () fun (x15 : Int) _ =>
Escape.j0 φ call lim x15 4 () := by kernel_rfl
theorem Escape_eq (φ : Int → Int) (call : Call) (lim : Nat) (s : ByteArray) (at_ quote : Int) (p : Unit) : evalBody T0 call .unit lim (Escape.I φ) [.str s, .int at_, .ik .u8 quote] p =
if (decide ((IntKind.i64.wrap (at_ + 1)) ≥ ((s).size : Int))) then
some (.tup [.int 0, .str (⟨#[]⟩ : ByteArray), .int 0], ())
else
if (decide (0 ≤ (IntKind.i64.wrap (at_ + 1))) && decide ((IntKind.i64.wrap (at_ + 1)) < ((s).size : Int))) = true then
if (decide ((bt s (IntKind.i64.wrap (at_ + 1))) = quote)) then
some (.tup [.int (IntKind.i64.wrap (bt s (IntKind.i64.wrap (at_ + 1)))), .str (strOfL [(bt s (IntKind.i64.wrap (at_ + 1)))]), .int 2], ())
else
Escape.l0 φ call lim lim s at_ (bt s (IntKind.i64.wrap (at_ + 1))) (⟨#[97, 98, 102, 110, 114, 116, 118, 92]⟩ : ByteArray) [7, 8, 12, 10, 13, 9, 11, 92] 0 ()
else none := by kernel_rfl
noncomputable def Unquote.I : FnI := { fn := f82, masks := [(0, { t := [0, 5, 6] }), (2, { t := [0, 5, 7] })] }
noncomputable def Unquote.l0 (n0 : Nat) (s4 s5 : ByteArray) (a6 : Int) (p : Unit) : OU := lpN T0 call .unit (FnI.mask Unquote.I) lim (Func.code f82).r1.r1.l1.r1.l1.l1.r1.l1.l1 0 n0 (Kblk 0 (Kseq T0 call .unit (FnI.mask Unquote.I) lim (Func.code f82).r1.r1.l1.r1.l1.r1 0 (Kseq T0 call .unit (FnI.mask Unquote.I) lim (Func.code f82).r1.r1.r1 0 (fin T0 .unit Unquote.I)))) ⟨[(0, .str s4), (5, .str s5), (6, .int a6)], [], STy.enc .unit 0 p, [], 0, []⟩
noncomputable def Unquote.j1 (call : Call) (lim : Nat) (n0 : Nat) (s7 s8 : ByteArray) (a9 : Int) (p : Unit) : OU :=
if (decide (0 ≤ a9) && decide (a9 < ((s7).size : Int))) = true then
if (decide ((bt s7 a9) = 96)) then
some (.tup [.str (⟨#[]⟩ : ByteArray), .int 106, .int 0], ())
else
if (decide (0 ≤ a9) && decide (a9 < ((s7).size : Int))) = true then
if (decide ((bt s7 a9) ≠ 13)) then
if (decide (0 ≤ a9) && (decide (a9 ≤ (IntKind.i64.wrap (a9 + 1))) && decide ((IntKind.i64.wrap (a9 + 1)) ≤ ((s7).size : Int)))) = true then
if decide ((s8).size + ((ByteArray.extract s7 (Int.toNat a9) (Int.toNat (IntKind.i64.wrap (a9 + 1))))).size < 1099511627776) = true then
Unquote.l0 call lim n0 s7 (s8 ++ (ByteArray.extract s7 (Int.toNat a9) (Int.toNat (IntKind.i64.wrap (a9 + 1))))) (IntKind.i64.wrap (a9 + 1)) ()
else none
else none
else
Unquote.l0 call lim n0 s7 s8 (IntKind.i64.wrap (a9 + 1)) ()
else none
else none
theorem Unquote.l0_succ (n0 : Nat) (s4 s5 : ByteArray) (a6 : Int) (p : Unit) : Unquote.l0 call lim (n0 + 1) s4 s5 a6 p =
if (decide (a6 < ((s4).size : Int))) then
if (decide (0 ≤ a6) && decide (a6 < ((s4).size : Int))) = true then
if (decide ((bt s4 a6) = 96)) then
if (decide ((IntKind.i64.wrap (a6 + 1)) = ((s4).size : Int))) then
some (.tup [.str s5, .int 0, .int 0], ())
else
Unquote.j1 call lim n0 s4 s5 a6 ()
else
Unquote.j1 call lim n0 s4 s5 a6 ()
else none
else
some (.tup [.str (⟨#[]⟩ : ByteArray), .int 106, .int 0], ()) := by kernel_rfl
noncomputable def Unquote.l2 (n2 : Nat) (s14 s15 : ByteArray) (a16 : Int) (p : Unit) : OU := lpN T0 call .unit (FnI.mask Unquote.I) lim (Func.code f82).r1.r1.r1.r1.l1.r1.l1.l1 2 n2 (Kblk 2 (Kseq T0 call .unit (FnI.mask Unquote.I) lim (Func.code f82).r1.r1.r1.r1.r1 0 (fin T0 .unit Unquote.I))) ⟨[(0, .str s14), (5, .str s15), (7, .int a16)], [], STy.enc .unit 0 p, [], 0, []⟩
noncomputable def Unquote.j4 (call : Call) (lim : Nat) (n2 : Nat) (s17 s18 : ByteArray) (a19 : Int) (p : Unit) : OU :=
if (decide (0 ≤ a19) && decide (a19 < ((s17).size : Int))) = true then
if (decide ((bt s17 a19) = 34)) then
if (decide ((IntKind.i64.wrap (a19 + 1)) = ((s17).size : Int))) then
some (.tup [.str s18, .int 0, .int 0], ())
else
some (.tup [.str (⟨#[]⟩ : ByteArray), .int 106, .int 0], ())
else
if (decide ((bt s17 a19) = 92)) then
cX call (.t3 .i .str .i) .unit Escape.n [.str s17, .int a19, .ik .u8 34] () fun (x20 : (Int × ByteArray × Int)) _ =>
if (decide (x20.2.2 = 0)) then
some (.tup [.str (⟨#[]⟩ : ByteArray), .int 108, .int a19], ())
else
if decide ((s18).size + (x20.2.1).size < 1099511627776) = true then
Unquote.l2 call lim n2 s17 (s18 ++ x20.2.1) (IntKind.i64.wrap (a19 + x20.2.2)) ()
else none
else
if (decide (0 ≤ a19) && (decide (a19 ≤ (IntKind.i64.wrap (a19 + 1))) && decide ((IntKind.i64.wrap (a19 + 1)) ≤ ((s17).size : Int)))) = true then
if decide ((s18).size + ((ByteArray.extract s17 (Int.toNat a19) (Int.toNat (IntKind.i64.wrap (a19 + 1))))).size < 1099511627776) = true then
Unquote.l2 call lim n2 s17 (s18 ++ (ByteArray.extract s17 (Int.toNat a19) (Int.toNat (IntKind.i64.wrap (a19 + 1))))) (IntKind.i64.wrap (a19 + 1)) ()
else none
else none
else none
theorem Unquote.l2_succ (n2 : Nat) (s14 s15 : ByteArray) (a16 : Int) (p : Unit) : Unquote.l2 call lim (n2 + 1) s14 s15 a16 p =
if (decide (a16 < ((s14).size : Int))) then
if (decide (0 ≤ a16) && decide (a16 < ((s14).size : Int))) = true then
if (decide ((bt s14 a16) ≠ 10)) then
Unquote.j4 call lim n2 s14 s15 a16 ()
else
some (.tup [.str (⟨#[]⟩ : ByteArray), .int 106, .int 0], ())
else none
else
some (.tup [.str (⟨#[]⟩ : ByteArray), .int 106, .int 0], ()) := by kernel_rfl
noncomputable def Unquote.j3 (call : Call) (lim : Nat) (s12 s13 : ByteArray) (p : Unit) : OU :=
Unquote.l2 call lim lim s12 s13 1 ()
noncomputable def Unquote.j2 (call : Call) (lim : Nat) (s10 s11 : ByteArray) (p : Unit) : OU :=
if (decide (((s10).size : Int) = 0)) then
some (.tup [.str (⟨#[]⟩ : ByteArray), .int 106, .int 0], ())
else
if (decide (0 ≤ 0) && decide (0 < ((s10).size : Int))) = true then
if (decide ((bt s10 0) ≠ 34)) then
some (.tup [.str (⟨#[]⟩ : ByteArray), .int 106, .int 0], ())
else
Unquote.j3 call lim s10 s11 ()
else none
noncomputable def Unquote.j0 (call : Call) (lim : Nat) (s1 s2 : ByteArray) (a3 : Bool) (p : Unit) : OU :=
if a3 then
Unquote.l0 call lim lim s1 s2 1 ()
else
Unquote.j2 call lim s1 s2 ()
theorem Unquote_eq (s : ByteArray) (p : Unit) : evalBody T0 call .unit lim Unquote.I [.str s] p =
if (decide (((s).size : Int) > 0)) then
if (decide (0 ≤ 0) && decide (0 < ((s).size : Int))) = true then
Unquote.j0 call lim s (⟨#[]⟩ : ByteArray) (decide ((bt s 0) = 96)) ()
else none
else
Unquote.j0 call lim s (⟨#[]⟩ : ByteArray) false () := by kernel_rfl
noncomputable def sChar.I : FnI := { fn := f94, masks := [(0, { t := [0, 1, 6, 7] }), (2, { t := [0, 1, 6, 7, 9, 10, 11] })] }
noncomputable def sChar.l0 (n0 : Nat) (s1 : ByteArray) (a2 a3 a4 : Int) (p : Unit) : OU := lpN T0 call .unit (FnI.mask sChar.I) lim (Func.code f94).r1.r1.r1.r1.l1.r1.l1.l1 0 n0 (Kblk 0 (Kseq T0 call .unit (FnI.mask sChar.I) lim (Func.code f94).r1.r1.r1.r1.r1 0 (fin T0 .unit sChar.I))) ⟨[(0, .str s1), (1, .int a2), (6, .int a3), (7, .int a4)], [], STy.enc .unit 0 p, [], 0, []⟩
noncomputable def sChar.l2 (n0 : Nat) (n2 : Nat) (s15 : ByteArray) (a16 a17 a18 a19 : Int) (a20 : Bool) (a21 : Int) (p : Unit) : OU := lpN T0 call .unit (FnI.mask sChar.I) lim (Func.code f94).r1.r1.r1.r1.l1.r1.l1.l1.r1.l1.l1.r1.r1.r1.l1.r1.l1.l1 2 n2 (Kblk 2 (Kseq T0 call .unit (FnI.mask sChar.I) lim (Func.code f94).r1.r1.r1.r1.l1.r1.l1.l1.r1.l1.l1.r1.r1.r1.r1 1 (Kblk 1 (Kseq T0 call .unit (FnI.mask sChar.I) lim (Func.code f94).r1.r1.r1.r1.l1.r1.l1.l1.r1.r1 0 (Klp T0 call .unit (FnI.mask sChar.I) lim (Func.code f94).r1.r1.r1.r1.l1.r1.l1.l1 0 n0 (Kblk 0 (Kseq T0 call .unit (FnI.mask sChar.I) lim (Func.code f94).r1.r1.r1.r1.r1 0 (fin T0 .unit sChar.I)))))))) ⟨[(0, .str s15), (1, .int a16), (6, .int a17), (7, .int a18), (9, .int a19), (10, .bool a20), (11, .int a21)], [], STy.enc .unit 0 p, [], 0, []⟩
theorem sChar.l2_succ (n0 : Nat) (n2 : Nat) (s15 : ByteArray) (a16 a17 a18 a19 : Int) (a20 : Bool) (a21 : Int) (p : Unit) : sChar.l2 call lim n0 (n2 + 1) s15 a16 a17 a18 a19 a20 a21 p =
if (decide (a21 < (IntKind.i64.wrap (a16 + a18)))) then
if a20 then
if (decide (0 ≤ a21) && decide (a21 < ((s15).size : Int))) = true then
if (decide (0 ≤ a21) && decide (a21 < ((s15).size : Int))) = true then
sChar.l2 call lim n0 n2 s15 a16 a17 a18 (IntKind.i64.wrap ((shlI .i64 a19 6) + (IntKind.i64.wrap (andI .u8 (bt s15 a21) 63)))) (decide ((andI .u8 (bt s15 a21) 192) = 128)) (IntKind.i64.wrap (a21 + 1)) ()
else none
else none
else
if (decide (0 ≤ a21) && decide (a21 < ((s15).size : Int))) = true then
sChar.l2 call lim n0 n2 s15 a16 a17 a18 (IntKind.i64.wrap ((shlI .i64 a19 6) + (IntKind.i64.wrap (andI .u8 (bt s15 a21) 63)))) false (IntKind.i64.wrap (a21 + 1)) ()
else none
else
if a20 then
if (decide (a19 ≤ 1114111)) then
if (decide (a19 < 55296)) then
if 0 ≤ (IntKind.i64.wrap (a18 - 2)) then
if (IntKind.i64.wrap (a18 - 2)) < (([128, 2048, 65536]).length : Int) then
if (decide (a19 ≥ (List.getD [128, 2048, 65536] (Int.toNat (IntKind.i64.wrap (a18 - 2))) (0 : Int)))) then
some (.tup [.int a19, .int a18], ())
else
sChar.l0 call lim n0 s15 a16 a17 (IntKind.i64.wrap (a18 + 1)) ()
else none
else none
else
if (decide (a19 > 57343)) then
if 0 ≤ (IntKind.i64.wrap (a18 - 2)) then
if (IntKind.i64.wrap (a18 - 2)) < (([128, 2048, 65536]).length : Int) then
if (decide (a19 ≥ (List.getD [128, 2048, 65536] (Int.toNat (IntKind.i64.wrap (a18 - 2))) (0 : Int)))) then
some (.tup [.int a19, .int a18], ())
else
sChar.l0 call lim n0 s15 a16 a17 (IntKind.i64.wrap (a18 + 1)) ()
else none
else none
else
sChar.l0 call lim n0 s15 a16 a17 (IntKind.i64.wrap (a18 + 1)) ()
else
sChar.l0 call lim n0 s15 a16 a17 (IntKind.i64.wrap (a18 + 1)) ()
else
sChar.l0 call lim n0 s15 a16 a17 (IntKind.i64.wrap (a18 + 1)) () := by kernel_rfl
noncomputable def sChar.j1 (call : Call) (lim : Nat) (n0 : Nat) (s9 : ByteArray) (a10 a11 a12 a13 : Int) (a14 : Bool) (p : Unit) : OU :=
sChar.l2 call lim n0 lim s9 a10 a11 a12 a13 a14 (IntKind.i64.wrap (a10 + 1)) ()
noncomputable def sChar.j0 (call : Call) (lim : Nat) (n0 : Nat) (s5 : ByteArray) (a6 a7 a8 : Int) (p : Unit) : OU :=
if 0 ≤ (IntKind.i64.wrap (a8 - 2)) then
if (IntKind.i64.wrap (a8 - 2)) < (([192, 224, 240]).length : Int) then
if (decide ((IntKind.i64.wrap (a7 - (List.getD [192, 224, 240] (Int.toNat (IntKind.i64.wrap (a8 - 2))) (0 : Int)))) ≥ 0)) then
if decide (0 ≤ (IntKind.i64.wrap (7 - a8))) = true then
sChar.j1 call lim n0 s5 a6 a7 a8 (IntKind.i64.wrap (a7 - (List.getD [192, 224, 240] (Int.toNat (IntKind.i64.wrap (a8 - 2))) (0 : Int)))) (decide ((IntKind.i64.wrap (a7 - (List.getD [192, 224, 240] (Int.toNat (IntKind.i64.wrap (a8 - 2))) (0 : Int)))) < (shlI .i64 1 (IntKind.i64.wrap (7 - a8))))) ()
else none
else
sChar.j1 call lim n0 s5 a6 a7 a8 (IntKind.i64.wrap (a7 - (List.getD [192, 224, 240] (Int.toNat (IntKind.i64.wrap (a8 - 2))) (0 : Int)))) false ()
else none
else none
theorem sChar.l0_succ (n0 : Nat) (s1 : ByteArray) (a2 a3 a4 : Int) (p : Unit) : sChar.l0 call lim (n0 + 1) s1 a2 a3 a4 p =
if (decide (a4 ≤ 4)) then
if (decide ((IntKind.i64.wrap (a2 + a4)) ≤ ((s1).size : Int))) then
sChar.j0 call lim n0 s1 a2 a3 a4 ()
else
some (.tup [.int 0, .int 0], ())
else
some (.tup [.int 0, .int 0], ()) := by kernel_rfl
theorem sChar_eq (s : ByteArray) (at_ : Int) (p : Unit) : evalBody T0 call .unit lim sChar.I [.str s, .int at_] p =
if (decide (at_ ≥ ((s).size : Int))) then
some (.tup [.int 0, .int 0], ())
else
if (decide (0 ≤ at_) && decide (at_ < ((s).size : Int))) = true then
if (decide ((IntKind.i64.wrap (bt s at_)) < 128)) then
some (.tup [.int (IntKind.i64.wrap (bt s at_)), .int 1], ())
else
sChar.l0 call lim lim s at_ (IntKind.i64.wrap (bt s at_)) 2 ()
else none := by kernel_rfl
noncomputable def sRune.I : FnI := { fn := f83, masks := [] }
noncomputable def sRune.j1 (call : Call) (lim : Nat) (s4 : ByteArray) (a5 a6 : Int) (p : Unit) : OU :=
if (decide (a6 = 0)) then
some (.tup [.int 0, .int 107, .int 0], ())
else
if (decide (0 ≤ 1) && decide (1 < ((s4).size : Int))) = true then
if (decide ((bt s4 1) = 39)) then
some (.tup [.int 0, .int 107, .int 0], ())
else
if (decide (0 ≤ 1) && decide (1 < ((s4).size : Int))) = true then
if (decide ((bt s4 1) = 10)) then
some (.tup [.int 0, .int 107, .int 0], ())
else
if (decide (((s4).size : Int) ≠ (IntKind.i64.wrap (a6 + 2)))) then
some (.tup [.int 0, .int 107, .int 0], ())
else
if (decide (0 ≤ (IntKind.i64.wrap (a6 + 1))) && decide ((IntKind.i64.wrap (a6 + 1)) < ((s4).size : Int))) = true then
if (decide ((bt s4 (IntKind.i64.wrap (a6 + 1))) ≠ 39)) then
some (.tup [.int 0, .int 107, .int 0], ())
else
some (.tup [.int a5, .int 0, .int 0], ())
else none
else none
else none
noncomputable def sRune.j0 (call : Call) (lim : Nat) (s1 : ByteArray) (p : Unit) : OU :=
cX call (.t2 .i .i) .unit sChar.n [.str s1, .int 1] () fun (x2 : (Int × Int)) _ =>
if (decide (0 ≤ 1) && decide (1 < ((s1).size : Int))) = true then
if (decide ((bt s1 1) = 92)) then
cX call (.t3 .i .str .i) .unit Escape.n [.str s1, .int 1, .ik .u8 39] () fun (x3 : (Int × ByteArray × Int)) _ =>
if (decide (x3.2.2 = 0)) then
some (.tup [.int 0, .int 108, .int 1], ())
else
sRune.j1 call lim s1 x3.1 x3.2.2 ()
else
sRune.j1 call lim s1 x2.1 x2.2 ()
else none
theorem sRune_eq (s : ByteArray) (p : Unit) : evalBody T0 call .unit lim sRune.I [.str s] p =
if (decide (((s).size : Int) < 2)) then
some (.tup [.int 0, .int 107, .int 0], ())
else
if (decide (0 ≤ 0) && decide (0 < ((s).size : Int))) = true then
if (decide ((bt s 0) ≠ 39)) then
some (.tup [.int 0, .int 107, .int 0], ())
else
sRune.j0 call lim s ()
else none := by kernel_rfl
noncomputable def letter.I : FnI := { fn := f66, masks := [] }
theorem letter_eq (c : Int) (p : Unit) : evalBody T0 call .unit lim letter.I [.ik .u8 c] p =
if (decide (c ≥ 97)) then
if (decide (c ≤ 122)) then
some (.bool true, ())
else
if (decide (c ≥ 65)) then
if (decide (c ≤ 90)) then
some (.bool true, ())
else
some (.bool (decide (c = 95)), ())
else
some (.bool (decide (c = 95)), ())
else
if (decide (c ≥ 65)) then
if (decide (c ≤ 90)) then
some (.bool true, ())
else
some (.bool (decide (c = 95)), ())
else
some (.bool (decide (c = 95)), ()) := by kernel_rfl
noncomputable def digit.I : FnI := { fn := f67, masks := [] }
theorem digit_eq (c : Int) (p : Unit) : evalBody T0 call .unit lim digit.I [.ik .u8 c] p =
if (decide (c ≥ 48)) then
some (.bool (decide (c ≤ 57)), ())
else
some (.bool false, ()) := by kernel_rfl
noncomputable def blank.I : FnI := { fn := f65, masks := [] }
theorem blank_eq (c : Int) (p : Unit) : evalBody T0 call .unit lim blank.I [.ik .u8 c] p =
if (decide (c = 32)) then
some (.bool true, ())
else
if (decide (c = 9)) then
some (.bool true, ())
else
some (.bool (decide (c = 13)), ()) := by kernel_rfl
noncomputable def sfind.I : FnI := { fn := f58, masks := [(0, { t := [0, 2, 7] })] }
noncomputable def sfind.l0 (n0 : Nat) (s1 s2 : ByteArray) (a3 : Int) (p : Unit) : OU := lpN T0 call .unit (FnI.mask sfind.I) lim (Func.code f58).r1.l1.r1.l1.l1 0 n0 (Kblk 0 (Kseq T0 call .unit (FnI.mask sfind.I) lim (Func.code f58).r1.r1 0 (fin T0 .unit sfind.I))) ⟨[(0, .str s1), (2, .str s2), (7, .int a3)], [], STy.enc .unit 0 p, [], 0, []⟩
theorem sfind.l0_succ (n0 : Nat) (s1 s2 : ByteArray) (a3 : Int) (p : Unit) : sfind.l0 call lim (n0 + 1) s1 s2 a3 p =
if (decide ((IntKind.i64.wrap (a3 + ((s2).size : Int))) ≤ ((s1).size : Int))) then
if (decide (0 ≤ a3) && (decide (a3 ≤ (IntKind.i64.wrap (a3 + ((s2).size : Int)))) && decide ((IntKind.i64.wrap (a3 + ((s2).size : Int))) ≤ ((s1).size : Int)))) = true then
if (((ByteArray.extract s1 (Int.toNat a3) (Int.toNat (IntKind.i64.wrap (a3 + ((s2).size : Int)))))).toList == (s2).toList) then
some (.int a3, ())
else
sfind.l0 call lim n0 s1 s2 (IntKind.i64.wrap (a3 + 1)) ()
else none
else
some (.int ((s1).size : Int), ()) := by kernel_rfl
theorem sfind_eq (s : ByteArray) (from_ : Int) (what : ByteArray) (p : Unit) : evalBody T0 call .unit lim sfind.I [.str s, .int from_, .str what] p =
sfind.l0 call lim lim s what from_ () := by kernel_rfl
noncomputable def quoted.I : FnI := { fn := f81, masks := [(0, { t := [0, 1, 6] })] }
noncomputable def quoted.l0 (n0 : Nat) (s1 : ByteArray) (a2 a3 : Int) (p : Unit) : OU := lpN T0 call .unit (FnI.mask quoted.I) lim (Func.code f81).r1.r1.r1.l1.l1.l1 0 n0 (Kblk 0 (Kseq T0 call .unit (FnI.mask quoted.I) lim (Func.code f81).r1.r1.r1.r1 0 (fin T0 .unit quoted.I))) ⟨[(0, .str s1), (1, .int a2), (6, .ik .u8 a3)], [], STy.enc .unit 0 p, [], 0, []⟩
noncomputable def quoted.j0 (call : Call) (lim : Nat) (n0 : Nat) (s4 : ByteArray) (a5 a6 : Int) (p : Unit) : OU :=
if (decide (0 ≤ a5) && decide (a5 < ((s4).size : Int))) = true then
if (decide ((bt s4 a5) = a6)) then
some (.tup [.int (IntKind.i64.wrap (a5 + 1)), .bool true], ())
else
if (decide (0 ≤ a5) && decide (a5 < ((s4).size : Int))) = true then
if (decide ((bt s4 a5) = 92)) then
if (decide ((IntKind.i64.wrap (a5 + 1)) < ((s4).size : Int))) then
if (decide (0 ≤ (IntKind.i64.wrap (a5 + 1))) && decide ((IntKind.i64.wrap (a5 + 1)) < ((s4).size : Int))) = true then
if (decide ((bt s4 (IntKind.i64.wrap (a5 + 1))) ≠ 10)) then
quoted.l0 call lim n0 s4 (IntKind.i64.wrap ((IntKind.i64.wrap (a5 + 1)) + 1)) a6 ()
else
quoted.l0 call lim n0 s4 (IntKind.i64.wrap (a5 + 1)) a6 ()
else none
else
quoted.l0 call lim n0 s4 (IntKind.i64.wrap (a5 + 1)) a6 ()
else
quoted.l0 call lim n0 s4 (IntKind.i64.wrap (a5 + 1)) a6 ()
else none
else none
theorem quoted.l0_succ (n0 : Nat) (s1 : ByteArray) (a2 a3 : Int) (p : Unit) : quoted.l0 call lim (n0 + 1) s1 a2 a3 p =
if (decide (a2 < ((s1).size : Int))) then
if (decide (0 ≤ a2) && decide (a2 < ((s1).size : Int))) = true then
if (decide ((bt s1 a2) ≠ 10)) then
quoted.j0 call lim n0 s1 a2 a3 ()
else
some (.tup [.int a2, .bool false], ())
else none
else
some (.tup [.int a2, .bool false], ()) := by kernel_rfl
theorem quoted_eq (s : ByteArray) (i : Int) (p : Unit) : evalBody T0 call .unit lim quoted.I [.str s, .int i] p =
if (decide (0 ≤ i) && decide (i < ((s).size : Int))) = true then
quoted.l0 call lim lim s (IntKind.i64.wrap (i + 1)) (bt s i) ()
else none := by kernel_rfl
noncomputable def said.I : FnI := { fn := f86, masks := [] }
theorem said_eq (s : ByteArray) (i : Int) (p : Unit) : evalBody T0 call .unit lim said.I [.str s, .int i] p =
cX call .i .unit Width.n [.str s, .int i] () fun (x1 : Int) _ =>
if (decide (x1 = 0)) then
some (.bool true, ())
else
if (decide (0 ≤ i) && decide (i < ((s).size : Int))) = true then
if (decide ((bt s i) = 0)) then
some (.bool true, ())
else
if (decide (0 ≤ i) && (decide (i ≤ (IntKind.i64.wrap (i + x1))) && decide ((IntKind.i64.wrap (i + x1)) ≤ ((s).size : Int)))) = true then
some (.bool (((ByteArray.extract s (Int.toNat i) (Int.toNat (IntKind.i64.wrap (i + x1))))).toList == ((⟨#[239, 187, 191]⟩ : ByteArray)).toList), ())
else none
else none := by kernel_rfl
noncomputable def sNext.I : FnI := { fn := f57, masks := [(1, { t := [0, 4, 5, 6, 7], b := [(4, []), (5, []), (6, []), (7, [])] }), (3, { t := [0, 1, 4, 5, 6, 7], b := [(4, []), (5, []), (6, []), (7, [])] }), (5, { t := [0, 1, 4, 5, 6, 7], b := [(4, []), (5, []), (6, []), (7, [])] })] }
noncomputable def sNext.l1 (n1 : Nat) (s18 : ByteArray) (a19 a20 a21 a22 a23 a24 a25 a26 a27 a28 a29 a30 : Int) (p : Unit) : OU := lpN T0 call .unit (FnI.mask sNext.I) lim (Func.code f57).r1.r1.r1.r1.l1.l1.r1.r1.r1.l1.r1.l1.l1 1 n1 (Kblk 1 (Kblk 0 (Kseq T0 call .unit (FnI.mask sNext.I) lim (Func.code f57).r1.r1.r1.r1.r1 0 (fin T0 .unit sNext.I)))) ⟨[(0, .str s18), (4, .lbox 4 0), (5, .lbox 5 0), (6, .lbox 6 0), (7, .lbox 7 0)], [(4, [.int a19, .int a20, .int a21]), (5, [.int a22, .int a23, .int a24]), (6, [.int a25, .int a26, .int a27]), (7, [.int a28, .int a29, .int a30])], STy.enc .unit 0 p, [], 0, []⟩
theorem sNext.l1_succ (n1 : Nat) (s18 : ByteArray) (a19 a20 a21 a22 a23 a24 a25 a26 a27 a28 a29 a30 : Int) (p : Unit) : sNext.l1 call lim (n1 + 1) s18 a19 a20 a21 a22 a23 a24 a25 a26 a27 a28 a29 a30 p =
if (decide (a27 < ((s18).size : Int))) then
if (decide (0 ≤ a27) && decide (a27 < ((s18).size : Int))) = true then
cX call .b .unit blank.n [.ik .u8 (bt s18 a27)] () fun (x31 : Bool) _ =>
if x31 then
sNext.l1 call lim n1 s18 a19 a20 a21 a22 a23 a24 a25 a26 (IntKind.i64.wrap (a27 + 1)) a28 a29 a30 ()
else
some (.tup [.agg [.int a25, .int a26, .int a27], .agg [.int a28, .int a29, .int a27]], ())
else none
else
some (.tup [.agg [.int a25, .int a26, .int a27], .agg [.int a28, .int a29, .int a27]], ()) := by kernel_rfl
noncomputable def sNext.l3 (n3 : Nat) (s67 : ByteArray) (a68 a69 a70 a71 a72 a73 a74 a75 a76 a77 a78 a79 a80 : Int) (p : Unit) : OU := lpN T0 call .unit (FnI.mask sNext.I) lim (Func.code f57).r1.r1.r1.r1.l1.l1.r1.r1.r1.r1.r1.r1.r1.r1.r1.r1.r1.l1.l1.l1.l1 3 n3 (Kblk 3 (Kseq T0 call .unit (FnI.mask sNext.I) lim (Func.code f57).r1.r1.r1.r1.l1.l1.r1.r1.r1.r1.r1.r1.r1.r1.r1.r1.r1.l1.r1 0 (Kblk 0 (Kseq T0 call .unit (FnI.mask sNext.I) lim (Func.code f57).r1.r1.r1.r1.r1 0 (fin T0 .unit sNext.I))))) ⟨[(0, .str s67), (1, .int a68), (4, .lbox 4 0), (5, .lbox 5 0), (6, .lbox 6 0), (7, .lbox 7 0)], [(4, [.int a69, .int a70, .int a71]), (5, [.int a72, .int a73, .int a74]), (6, [.int a75, .int a76, .int a77]), (7, [.int a78, .int a79, .int a80])], STy.enc .unit 0 p, [], 0, []⟩
theorem sNext.l3_succ (n3 : Nat) (s67 : ByteArray) (a68 a69 a70 a71 a72 a73 a74 a75 a76 a77 a78 a79 a80 : Int) (p : Unit) : sNext.l3 call lim (n3 + 1) s67 a68 a69 a70 a71 a72 a73 a74 a75 a76 a77 a78 a79 a80 p =
if (decide (a77 < ((s67).size : Int))) then
if (decide (0 ≤ a77) && decide (a77 < ((s67).size : Int))) = true then
cX call .b .unit letter.n [.ik .u8 (bt s67 a77)] () fun (x81 : Bool) _ =>
if x81 then
sNext.l3 call lim n3 s67 a68 a69 a70 a71 a72 a73 a74 a75 a76 (IntKind.i64.wrap (a77 + 1)) a78 a79 a80 ()
else
if (decide (0 ≤ a77) && decide (a77 < ((s67).size : Int))) = true then
cX call .b .unit digit.n [.ik .u8 (bt s67 a77)] () fun (x82 : Bool) _ =>
if x82 then
sNext.l3 call lim n3 s67 a68 a69 a70 a71 a72 a73 a74 a75 a76 (IntKind.i64.wrap (a77 + 1)) a78 a79 a80 ()
else
if (decide (0 ≤ a68) && (decide (a68 ≤ a77) && decide (a77 ≤ ((s67).size : Int)))) = true then
cX call .i .unit Keyword.n [.str (ByteArray.extract s67 (Int.toNat a68) (Int.toNat a77))] () fun (x83 : Int) _ =>
if (decide (x83 = 0)) then
some (.tup [.agg [.int 10, .int a76, .int a77], .agg [.int a78, .int a79, .int a77]], ())
else
some (.tup [.agg [.int x83, .int a76, .int a77], .agg [.int a78, .int a79, .int a77]], ())
else none
else none
else none
else
if (decide (0 ≤ a68) && (decide (a68 ≤ a77) && decide (a77 ≤ ((s67).size : Int)))) = true then
cX call .i .unit Keyword.n [.str (ByteArray.extract s67 (Int.toNat a68) (Int.toNat a77))] () fun (x84 : Int) _ =>
if (decide (x84 = 0)) then
some (.tup [.agg [.int 10, .int a76, .int a77], .agg [.int a78, .int a79, .int a77]], ())
else
some (.tup [.agg [.int x84, .int a76, .int a77], .agg [.int a78, .int a79, .int a77]], ())
else none := by kernel_rfl
noncomputable def sNext.l5 (n5 : Nat) (s86 : ByteArray) (a87 a88 a89 a90 a91 a92 a93 a94 a95 a96 a97 a98 a99 : Int) (p : Unit) : OU := lpN T0 call .unit (FnI.mask sNext.I) lim (Func.code f57).r1.r1.r1.r1.l1.l1.r1.r1.r1.r1.r1.r1.r1.r1.r1.r1.r1.r1.r1.l1.r1.l1.l1.l1 5 n5 (Kblk 5 (Kseq T0 call .unit (FnI.mask sNext.I) lim (Func.code f57).r1.r1.r1.r1.l1.l1.r1.r1.r1.r1.r1.r1.r1.r1.r1.r1.r1.r1.r1.l1.r1.r1 0 (Kblk 0 (Kseq T0 call .unit (FnI.mask sNext.I) lim (Func.code f57).r1.r1.r1.r1.r1 0 (fin T0 .unit sNext.I))))) ⟨[(0, .str s86), (1, .int a87), (4, .lbox 4 0), (5, .lbox 5 0), (6, .lbox 6 0), (7, .lbox 7 0)], [(4, [.int a88, .int a89, .int a90]), (5, [.int a91, .int a92, .int a93]), (6, [.int a94, .int a95, .int a96]), (7, [.int a97, .int a98, .int a99])], STy.enc .unit 0 p, [], 0, []⟩
theorem sNext.l5_succ (n5 : Nat) (s86 : ByteArray) (a87 a88 a89 a90 a91 a92 a93 a94 a95 a96 a97 a98 a99 : Int) (p : Unit) : sNext.l5 call lim (n5 + 1) s86 a87 a88 a89 a90 a91 a92 a93 a94 a95 a96 a97 a98 a99 p =
if (decide (a96 < ((s86).size : Int))) then
if (decide (0 ≤ a96) && decide (a96 < ((s86).size : Int))) = true then
cX call .b .unit letter.n [.ik .u8 (bt s86 a96)] () fun (x100 : Bool) _ =>
if x100 then
sNext.l5 call lim n5 s86 a87 a88 a89 a90 a91 a92 a93 a94 a95 (IntKind.i64.wrap (a96 + 1)) a97 a98 a99 ()
else
if (decide (0 ≤ a96) && decide (a96 < ((s86).size : Int))) = true then
cX call .b .unit digit.n [.ik .u8 (bt s86 a96)] () fun (x101 : Bool) _ =>
if x101 then
sNext.l5 call lim n5 s86 a87 a88 a89 a90 a91 a92 a93 a94 a95 (IntKind.i64.wrap (a96 + 1)) a97 a98 a99 ()
else
if (decide (0 ≤ a87) && (decide (a87 ≤ a96) && decide (a96 ≤ ((s86).size : Int)))) = true then
cX call (.t3 .i .str .b) .unit Digits.n [.str (ByteArray.extract s86 (Int.toNat a87) (Int.toNat a96))] () fun (x102 : (Int × ByteArray × Bool)) _ =>
if (!x102.2.2) then
some (.tup [.agg [.int a94, .int a95, .int a96], .agg [.int 109, .int a98, .int a96]], ())
else
some (.tup [.agg [.int a94, .int a95, .int a96], .agg [.int a97, .int a98, .int a96]], ())
else none
else none
else none
else
if (decide (0 ≤ a87) && (decide (a87 ≤ a96) && decide (a96 ≤ ((s86).size : Int)))) = true then
cX call (.t3 .i .str .b) .unit Digits.n [.str (ByteArray.extract s86 (Int.toNat a87) (Int.toNat a96))] () fun (x103 : (Int × ByteArray × Bool)) _ =>
if (!x103.2.2) then
some (.tup [.agg [.int a94, .int a95, .int a96], .agg [.int 109, .int a98, .int a96]], ())
else
some (.tup [.agg [.int a94, .int a95, .int a96], .agg [.int a97, .int a98, .int a96]], ())
else none := by kernel_rfl
noncomputable def sNext.j3 (call : Call) (lim : Nat) (s104 : ByteArray) (a105 a106 : Int) (a107 : Bool) (a108 a109 a110 a111 a112 a113 a114 a115 a116 a117 a118 a119 : Int) (p : Unit) : OU :=
if a107 then
cX call (.t2 (.e .tok) (.e .diag)) .unit stext.n [.str s104, .int a105] () fun (x120 : (Tok × Diag)) _ =>
some (.tup [.agg [.int x120.1.k, .int x120.1.f, .int x120.1.t], .agg [.int x120.2.c, .int x120.2.f, .int x120.2.t]], ())
else
if (decide (a106 = 96)) then
cX call .i .unit sfind.n [.str s104, .int (IntKind.i64.wrap (a105 + 1)), .str (⟨#[96]⟩ : ByteArray)] () fun (x121 : Int) _ =>
if (decide (x121 = ((s104).size : Int))) then
some (.tup [.agg [.int 14, .int a115, .int x121], .agg [.int 106, .int a118, .int x121]], ())
else
some (.tup [.agg [.int 14, .int a115, .int (IntKind.i64.wrap (x121 + 1))], .agg [.int a117, .int a118, .int (IntKind.i64.wrap (x121 + 1))]], ())
else
cX call (.t2 (.e .tok) (.e .diag)) .unit sother.n [.str s104, .int a105] () fun (x122 : (Tok × Diag)) _ =>
some (.tup [.agg [.int x122.1.k, .int x122.1.f, .int x122.1.t], .agg [.int x122.2.c, .int x122.2.f, .int x122.2.t]], ())
noncomputable def sNext.j2 (call : Call) (lim : Nat) (s49 : ByteArray) (a50 a51 : Int) (a52 : Bool) (a53 a54 a55 a56 a57 a58 a59 a60 a61 a62 a63 a64 : Int) (p : Unit) : OU :=
if a52 then
cX call .i .unit sfind.n [.str s49, .int (IntKind.i64.wrap (a50 + 2)), .str (⟨#[42, 47]⟩ : ByteArray)] () fun (x65 : Int) _ =>
if (decide (x65 = ((s49).size : Int))) then
some (.tup [.agg [.int 4, .int a60, .int x65], .agg [.int 105, .int a63, .int x65]], ())
else
some (.tup [.agg [.int 4, .int a60, .int (IntKind.i64.wrap (x65 + 2))], .agg [.int a62, .int a63, .int (IntKind.i64.wrap (x65 + 2))]], ())
else
cX call .b .unit letter.n [.ik .u8 a51] () fun (x66 : Bool) _ =>
if x66 then
sNext.l3 call lim lim s49 a50 a53 a54 a55 a56 a57 a58 a59 a60 a61 a62 a63 a64 ()
else
cX call .b .unit digit.n [.ik .u8 a51] () fun (x85 : Bool) _ =>
if x85 then
sNext.l5 call lim lim s49 a50 a53 a54 a55 a56 a57 a58 11 a60 a61 a62 a63 a64 ()
else
if (decide (a51 = 34)) then
sNext.j3 call lim s49 a50 a51 true a53 a54 a55 a56 a57 a58 a59 a60 a61 a62 a63 a64 ()
else
sNext.j3 call lim s49 a50 a51 (decide (a51 = 39)) a53 a54 a55 a56 a57 a58 a59 a60 a61 a62 a63 a64 ()
noncomputable def sNext.j1 (call : Call) (lim : Nat) (s32 : ByteArray) (a33 a34 : Int) (a35 : Bool) (a36 a37 a38 a39 a40 a41 a42 a43 a44 a45 a46 a47 : Int) (p : Unit) : OU :=
if a35 then
cX call .i .unit sfind.n [.str s32, .int a33, .str (⟨#[10]⟩ : ByteArray)] () fun (x48 : Int) _ =>
some (.tup [.agg [.int 3, .int a43, .int x48], .agg [.int a45, .int a46, .int x48]], ())
else
if (decide (a34 = 47)) then
if (decide ((IntKind.i64.wrap (a33 + 1)) < ((s32).size : Int))) then
if (decide (0 ≤ (IntKind.i64.wrap (a33 + 1))) && decide ((IntKind.i64.wrap (a33 + 1)) < ((s32).size : Int))) = true then
sNext.j2 call lim s32 a33 a34 (decide ((bt s32 (IntKind.i64.wrap (a33 + 1))) = 42)) a36 a37 a38 a39 a40 a41 a42 a43 a44 a45 a46 a47 ()
else none
else
sNext.j2 call lim s32 a33 a34 false a36 a37 a38 a39 a40 a41 a42 a43 a44 a45 a46 a47 ()
else
sNext.j2 call lim s32 a33 a34 false a36 a37 a38 a39 a40 a41 a42 a43 a44 a45 a46 a47 ()
noncomputable def sNext.j0 (call : Call) (lim : Nat) (s1 : ByteArray) (a2 a3 : Int) (a4 : Bool) (a5 a6 a7 a8 a9 a10 a11 a12 a13 a14 a15 a16 : Int) (p : Unit) : OU :=
if a4 then
some (.tup [.agg [.int 1, .int a12, .int 3], .agg [.int a14, .int a15, .int 3]], ())
else
cX call .b .unit blank.n [.ik .u8 a3] () fun (x17 : Bool) _ =>
if x17 then
sNext.l1 call lim lim s1 a5 a6 a7 a8 a9 a10 1 a12 a13 a14 a15 a16 ()
else
if (decide (a3 = 10)) then
some (.tup [.agg [.int 2, .int a12, .int a13], .agg [.int a14, .int a15, .int a13]], ())
else
if (decide (a3 = 47)) then
if (decide ((IntKind.i64.wrap (a2 + 1)) < ((s1).size : Int))) then
if (decide (0 ≤ (IntKind.i64.wrap (a2 + 1))) && decide ((IntKind.i64.wrap (a2 + 1)) < ((s1).size : Int))) = true then
sNext.j1 call lim s1 a2 a3 (decide ((bt s1 (IntKind.i64.wrap (a2 + 1))) = 47)) a5 a6 a7 a8 a9 a10 a11 a12 a13 a14 a15 a16 ()
else none
else
sNext.j1 call lim s1 a2 a3 false a5 a6 a7 a8 a9 a10 a11 a12 a13 a14 a15 a16 ()
else
sNext.j1 call lim s1 a2 a3 false a5 a6 a7 a8 a9 a10 a11 a12 a13 a14 a15 a16 ()
theorem sNext_eq (s : ByteArray) (i : Int) (p : Unit) : evalBody T0 call .unit lim sNext.I [.str s, .int i] p =
if (decide (0 ≤ i) && decide (i < ((s).size : Int))) = true then
if (decide (i = 0)) then
if (decide (((s).size : Int) ≥ 3)) then
if (decide (0 ≤ 3) && decide (3 ≤ ((s).size : Int))) = true then
sNext.j0 call lim s i (bt s i) (((ByteArray.extract s 0 (Int.toNat 3))).toList == ((⟨#[239, 187, 191]⟩ : ByteArray)).toList) 0 0 0 0 0 0 0 i (IntKind.i64.wrap (i + 1)) 0 i 0 ()
else none
else
sNext.j0 call lim s i (bt s i) false 0 0 0 0 0 0 0 i (IntKind.i64.wrap (i + 1)) 0 i 0 ()
else
sNext.j0 call lim s i (bt s i) false 0 0 0 0 0 0 0 i (IntKind.i64.wrap (i + 1)) 0 i 0 ()
else none := by kernel_rfl
noncomputable def stext.I : FnI := { fn := f70, masks := [] }
noncomputable def stext.j0 (call : Call) (lim : Nat) (s2 : ByteArray) (a3 a4 : Int) (a5 : Bool) (a6 a7 a8 a9 a10 a11 a12 a13 a14 a15 a16 a17 : Int) (p : Unit) : OU :=
if (!a5) then
some (.tup [.agg [.int a12, .int a13, .int a14], .agg [.int a15, .int a16, .int a17]], ())
else
if (decide (a12 = 13)) then
if (decide (0 ≤ a3) && (decide (a3 ≤ a4) && decide (a4 ≤ ((s2).size : Int)))) = true then
cX call (.t3 .str .i .i) .unit Unquote.n [.str (ByteArray.extract s2 (Int.toNat a3) (Int.toNat a4))] () fun (x18 : (ByteArray × Int × Int)) _ =>
some (.tup [.agg [.int a12, .int a13, .int a14], .agg [.int x18.2.1, .int (IntKind.i64.wrap (a3 + x18.2.2)), .int (IntKind.i64.wrap ((IntKind.i64.wrap (a3 + x18.2.2)) + 1))]], ())
else none
else
if (decide (0 ≤ a3) && (decide (a3 ≤ a4) && decide (a4 ≤ ((s2).size : Int)))) = true then
cX call (.t3 .i .i .i) .unit sRune.n [.str (ByteArray.extract s2 (Int.toNat a3) (Int.toNat a4))] () fun (x19 : (Int × Int × Int)) _ =>
some (.tup [.agg [.int a12, .int a13, .int a14], .agg [.int x19.2.1, .int (IntKind.i64.wrap (a3 + x19.2.2)), .int (IntKind.i64.wrap ((IntKind.i64.wrap (a3 + x19.2.2)) + 1))]], ())
else none
theorem stext_eq (s : ByteArray) (i : Int) (p : Unit) : evalBody T0 call .unit lim stext.I [.str s, .int i] p =
cX call (.t2 .i .b) .unit quoted.n [.str s, .int i] () fun (x1 : (Int × Bool)) _ =>
if (decide (0 ≤ i) && decide (i < ((s).size : Int))) = true then
if (decide ((bt s i) = 39)) then
stext.j0 call lim s i x1.1 x1.2 0 0 0 0 0 0 12 i x1.1 107 i x1.1 ()
else
stext.j0 call lim s i x1.1 x1.2 0 0 0 0 0 0 13 i x1.1 106 i x1.1 ()
else none := by kernel_rfl
noncomputable def sother.I : FnI := { fn := f71, masks := [] }
theorem sother_eq (s : ByteArray) (i : Int) (p : Unit) : evalBody T0 call .unit lim sother.I [.str s, .int i] p =
if (decide (0 ≤ i) && decide (i ≤ ((s).size : Int))) = true then
cX call (.t2 .i .i) .unit Operator.n [.str (ByteArray.extract s (Int.toNat i) (s).size)] () fun (x1 : (Int × Int)) _ =>
if (decide (x1.1 ≠ 0)) then
some (.tup [.agg [.int x1.1, .int i, .int (IntKind.i64.wrap (i + x1.2))], .agg [.int 0, .int 0, .int 0]], ())
else
cX call .i .unit Width.n [.str s, .int i] () fun (x2 : Int) _ =>
cX call .b .unit said.n [.str s, .int i] () fun (x3 : Bool) _ =>
if x3 then
some (.tup [.agg [.int 5, .int i, .int (IntKind.i64.wrap (i + (max 1 x2)))], .agg [.int 0, .int i, .int (IntKind.i64.wrap (i + (max 1 x2)))]], ())
else
some (.tup [.agg [.int 5, .int i, .int (IntKind.i64.wrap (i + (max 1 x2)))], .agg [.int 104, .int i, .int (IntKind.i64.wrap (i + (max 1 x2)))]], ())
else none := by kernel_rfl
noncomputable def sends.I : FnI := { fn := f39, masks := [(0, { t := [0, 1, 7] })] }
noncomputable def sends.l0 (n0 : Nat) (s1 : ByteArray) (l2 : List Tok) (a3 : Int) (p : Unit) : OU := lpN T0 call .unit (FnI.mask sends.I) lim (Func.code f39).r1.l1.r1.l1.l1 0 n0 (Kblk 0 (Kseq T0 call .unit (FnI.mask sends.I) lim (Func.code f39).r1.r1 0 (fin T0 .unit sends.I))) ⟨[(0, .str s1), (1, .sl .tok l2), (7, .int a3)], [], STy.enc .unit 0 p, [], 0, []⟩
theorem sends.l0_succ (n0 : Nat) (s1 : ByteArray) (l2 : List Tok) (a3 : Int) (p : Unit) : sends.l0 call lim (n0 + 1) s1 l2 a3 p =
if (decide (a3 < ((l2).length : Int))) then
if 0 ≤ a3 then
if a3 < ((l2).length : Int) then
if (decide (((List.getD l2 (Int.toNat a3) (⟨0, 0, 0⟩ : Tok)).k) = 2)) then
some (.bool true, ())
else
if (decide (((List.getD l2 (Int.toNat a3) (⟨0, 0, 0⟩ : Tok)).k) = 4)) then
if (decide (0 ≤ ((List.getD l2 (Int.toNat a3) (⟨0, 0, 0⟩ : Tok)).t)) && decide (((List.getD l2 (Int.toNat a3) (⟨0, 0, 0⟩ : Tok)).t) ≤ ((s1).size : Int))) = true then
cX call .i .unit sfind.n [.str (ByteArray.extract s1 0 (Int.toNat ((List.getD l2 (Int.toNat a3) (⟨0, 0, 0⟩ : Tok)).t))), .int ((List.getD l2 (Int.toNat a3) (⟨0, 0, 0⟩ : Tok)).f), .str (⟨#[10]⟩ : ByteArray)] () fun (x4 : Int) _ =>
if (decide (x4 < ((List.getD l2 (Int.toNat a3) (⟨0, 0, 0⟩ : Tok)).t))) then
some (.bool true, ())
else
if (decide (((List.getD l2 (Int.toNat a3) (⟨0, 0, 0⟩ : Tok)).k) ≥ 10)) then
some (.bool false, ())
else
sends.l0 call lim n0 s1 l2 (IntKind.i64.wrap (a3 + 1)) ()
else none
else
if (decide (((List.getD l2 (Int.toNat a3) (⟨0, 0, 0⟩ : Tok)).k) ≥ 10)) then
some (.bool false, ())
else
sends.l0 call lim n0 s1 l2 (IntKind.i64.wrap (a3 + 1)) ()
else none
else none
else
some (.bool true, ()) := by kernel_rfl
theorem sends_eq (s : ByteArray) (l : List Tok) (i : Int) (p : Unit) : evalBody T0 call .unit lim sends.I [.str s, .sl .tok l, .int i] p =
sends.l0 call lim lim s l (IntKind.i64.wrap (i + 1)) () := by kernel_rfl
noncomputable def Bare.I : FnI := { fn := f37, masks := [(0, { t := [0, 4, 5, 6], own := [(4, 24, .tok), (5, 31, .diag)] })] }
noncomputable def Bare.l0 (n0 : Nat) (s1 : ByteArray) (l2 : List Tok) (l3 : List Diag) (a4 : Int) (p : Unit) : OU := lpN T0 call .unit (FnI.mask Bare.I) lim (Func.code f37).r1.r1.r1.l1.r1.l1.l1 0 n0 (Kblk 0 (Kseq T0 call .unit (FnI.mask Bare.I) lim (Func.code f37).r1.r1.r1.r1 0 (fin T0 .unit Bare.I))) ⟨[(0, .str s1), (4, .own 24 0 .tok l2), (5, .own 31 0 .diag l3), (6, .int a4)], [], STy.enc .unit 0 p, [], 0, []⟩
theorem Bare.l0_succ (n0 : Nat) (s1 : ByteArray) (l2 : List Tok) (l3 : List Diag) (a4 : Int) (p : Unit) : Bare.l0 call lim (n0 + 1) s1 l2 l3 a4 p =
if (decide (a4 < ((s1).size : Int))) then
cX call (.t2 (.e .tok) (.e .diag)) .unit sNext.n [.str s1, .int a4] () fun (x5 : (Tok × Diag)) _ =>
if (l2).length + ([(⟨x5.1.k, x5.1.f, x5.1.t⟩ : Tok)]).length < maxRow then
if (decide (x5.2.c ≠ 0)) then
if (l3).length + ([(⟨x5.2.c, x5.2.f, x5.2.t⟩ : Diag)]).length < maxRow then
Bare.l0 call lim n0 s1 (l2 ++ [(⟨x5.1.k, x5.1.f, x5.1.t⟩ : Tok)]) (l3 ++ [(⟨x5.2.c, x5.2.f, x5.2.t⟩ : Diag)]) x5.1.t ()
else none
else
Bare.l0 call lim n0 s1 (l2 ++ [(⟨x5.1.k, x5.1.f, x5.1.t⟩ : Tok)]) l3 x5.1.t ()
else none
else
some (.tup [.sl .tok l2, .sl .diag l3], ()) := by kernel_rfl
theorem Bare_eq (s : ByteArray) (p : Unit) : evalBody T0 call .unit lim Bare.I [.str s] p =
Bare.l0 call lim lim s [] [] 0 () := by kernel_rfl
noncomputable def Scan.I : FnI := { fn := f14, masks := [(0, { t := [0, 4, 5, 6, 7], own := [(6, 26, .tok)] })] }
noncomputable def Scan.l0 (n0 : Nat) (s2 : ByteArray) (l3 : List Tok) (l4 : List Diag) (l5 : List Tok) (a6 : Int) (p : Unit) : OU := lpN T0 call .unit (FnI.mask Scan.I) lim (Func.code f14).r1.r1.r1.l1.r1.l1.l1 0 n0 (Kblk 0 (Kseq T0 call .unit (FnI.mask Scan.I) lim (Func.code f14).r1.r1.r1.r1 0 (fin T0 .unit Scan.I))) ⟨[(0, .str s2), (4, .sl .tok l3), (5, .sl .diag l4), (6, .own 26 0 .tok l5), (7, .int a6)], [], STy.enc .unit 0 p, [], 0, []⟩
theorem Scan.l0_succ (n0 : Nat) (s2 : ByteArray) (l3 : List Tok) (l4 : List Diag) (l5 : List Tok) (a6 : Int) (p : Unit) : Scan.l0 call lim (n0 + 1) s2 l3 l4 l5 a6 p =
if (decide (a6 < ((l3).length : Int))) then
if 0 ≤ a6 then
if a6 < ((l3).length : Int) then
if (l5).length + ([(⟨(List.getD l3 (Int.toNat a6) (⟨0, 0, 0⟩ : Tok)).k, (List.getD l3 (Int.toNat a6) (⟨0, 0, 0⟩ : Tok)).f, (List.getD l3 (Int.toNat a6) (⟨0, 0, 0⟩ : Tok)).t⟩ : Tok)]).length < maxRow then
if 0 ≤ a6 then
if a6 < ((l3).length : Int) then
cX call .b .unit sEnds.n [.int ((List.getD l3 (Int.toNat a6) (⟨0, 0, 0⟩ : Tok)).k)] () fun (x7 : Bool) _ =>
if x7 then
cX call .b .unit sends.n [.str s2, .sl .tok l3, .int a6] () fun (x8 : Bool) _ =>
if x8 then
if 0 ≤ a6 then
if a6 < ((l3).length : Int) then
if 0 ≤ a6 then
if a6 < ((l3).length : Int) then
if ((l5 ++ [(⟨(List.getD l3 (Int.toNat a6) (⟨0, 0, 0⟩ : Tok)).k, (List.getD l3 (Int.toNat a6) (⟨0, 0, 0⟩ : Tok)).f, (List.getD l3 (Int.toNat a6) (⟨0, 0, 0⟩ : Tok)).t⟩ : Tok)])).length + ([(⟨16, (List.getD l3 (Int.toNat a6) (⟨0, 0, 0⟩ : Tok)).t, (List.getD l3 (Int.toNat a6) (⟨0, 0, 0⟩ : Tok)).t⟩ : Tok)]).length < maxRow then
Scan.l0 call lim n0 s2 l3 l4 ((l5 ++ [(⟨(List.getD l3 (Int.toNat a6) (⟨0, 0, 0⟩ : Tok)).k, (List.getD l3 (Int.toNat a6) (⟨0, 0, 0⟩ : Tok)).f, (List.getD l3 (Int.toNat a6) (⟨0, 0, 0⟩ : Tok)).t⟩ : Tok)]) ++ [(⟨16, (List.getD l3 (Int.toNat a6) (⟨0, 0, 0⟩ : Tok)).t, (List.getD l3 (Int.toNat a6) (⟨0, 0, 0⟩ : Tok)).t⟩ : Tok)]) (IntKind.i64.wrap (a6 + 1)) ()
else none
else none
else none
else none
else none
else
Scan.l0 call lim n0 s2 l3 l4 (l5 ++ [(⟨(List.getD l3 (Int.toNat a6) (⟨0, 0, 0⟩ : Tok)).k, (List.getD l3 (Int.toNat a6) (⟨0, 0, 0⟩ : Tok)).f, (List.getD l3 (Int.toNat a6) (⟨0, 0, 0⟩ : Tok)).t⟩ : Tok)]) (IntKind.i64.wrap (a6 + 1)) ()
else
Scan.l0 call lim n0 s2 l3 l4 (l5 ++ [(⟨(List.getD l3 (Int.toNat a6) (⟨0, 0, 0⟩ : Tok)).k, (List.getD l3 (Int.toNat a6) (⟨0, 0, 0⟩ : Tok)).f, (List.getD l3 (Int.toNat a6) (⟨0, 0, 0⟩ : Tok)).t⟩ : Tok)]) (IntKind.i64.wrap (a6 + 1)) ()
else none
else none
else none
else none
else none
else
some (.tup [.sl .tok l5, .sl .diag l4], ()) := by kernel_rfl
theorem Scan_eq (s : ByteArray) (p : Unit) : evalBody T0 call .unit lim Scan.I [.str s] p =
cX call (.t2 (.s .tok) (.s .diag)) .unit Bare.n [.str s] () fun (x1 : (List Tok × List Diag)) _ =>
Scan.l0 call lim lim s x1.1 x1.2 [] 0 () := by kernel_rfl
noncomputable def toks.I : FnI := { fn := f4, masks := [(0, { t := [3, 5, 6], own := [(5, 52, .tok)] }), (2, { t := [3, 5, 6, 7, 8], own := [(5, 52, .tok)] })] }
noncomputable def toks.l0 (n0 : Nat) (l2 l3 : List Tok) (a4 : Int) (p : Unit) : OU := lpN T0 call .unit (FnI.mask toks.I) lim (Func.code f4).r1.r1.r1.l1.r1.l1.l1 0 n0 (Kblk 0 (Kseq T0 call .unit (FnI.mask toks.I) lim (Func.code f4).r1.r1.r1.r1 0 (fin T0 .unit toks.I))) ⟨[(3, .sl .tok l2), (5, .own 52 0 .tok l3), (6, .int a4)], [], STy.enc .unit 0 p, [], 0, []⟩
noncomputable def toks.l2 (n0 : Nat) (n2 : Nat) (l5 l6 : List Tok) (a7 : Int) (a8 : Bool) (a9 : Int) (p : Unit) : OU := lpN T0 call .unit (FnI.mask toks.I) lim (Func.code f4).r1.r1.r1.l1.r1.l1.l1.r1.l1.l1.r1.l1.r1.l1.l1 2 n2 (Kblk 2 (Kseq T0 call .unit (FnI.mask toks.I) lim (Func.code f4).r1.r1.r1.l1.r1.l1.l1.r1.l1.l1.r1.r1 1 (Kblk 1 (Kseq T0 call .unit (FnI.mask toks.I) lim (Func.code f4).r1.r1.r1.l1.r1.l1.l1.r1.r1 0 (Klp T0 call .unit (FnI.mask toks.I) lim (Func.code f4).r1.r1.r1.l1.r1.l1.l1 0 n0 (Kblk 0 (Kseq T0 call .unit (FnI.mask toks.I) lim (Func.code f4).r1.r1.r1.r1 0 (fin T0 .unit toks.I)))))))) ⟨[(3, .sl .tok l5), (5, .own 52 0 .tok l6), (6, .int a7), (7, .bool a8), (8, .int a9)], [], STy.enc .unit 0 p, [], 0, []⟩
theorem toks.l2_succ (n0 : Nat) (n2 : Nat) (l5 l6 : List Tok) (a7 : Int) (a8 : Bool) (a9 : Int) (p : Unit) : toks.l2 call lim n0 (n2 + 1) l5 l6 a7 a8 a9 p =
if (decide (a9 < ((l5).length : Int))) then
if a8 then
if 0 ≤ a9 then
if a9 < ((l5).length : Int) then
toks.l2 call lim n0 n2 l5 l6 a7 (decide (((List.getD l5 (Int.toNat a9) (⟨0, 0, 0⟩ : Tok)).k) < 10)) (IntKind.i64.wrap (a9 + 1)) ()
else none
else none
else
if (!a8) then
if 0 ≤ a7 then
if a7 < ((l5).length : Int) then
if (l6).length + ([(⟨(List.getD l5 (Int.toNat a7) (⟨0, 0, 0⟩ : Tok)).k, (List.getD l5 (Int.toNat a7) (⟨0, 0, 0⟩ : Tok)).f, (List.getD l5 (Int.toNat a7) (⟨0, 0, 0⟩ : Tok)).t⟩ : Tok)]).length < maxRow then
toks.l0 call lim n0 l5 (l6 ++ [(⟨(List.getD l5 (Int.toNat a7) (⟨0, 0, 0⟩ : Tok)).k, (List.getD l5 (Int.toNat a7) (⟨0, 0, 0⟩ : Tok)).f, (List.getD l5 (Int.toNat a7) (⟨0, 0, 0⟩ : Tok)).t⟩ : Tok)]) (IntKind.i64.wrap (a7 + 1)) ()
else none
else none
else none
else
toks.l0 call lim n0 l5 l6 (IntKind.i64.wrap (a7 + 1)) ()
else
if (!a8) then
if 0 ≤ a7 then
if a7 < ((l5).length : Int) then
if (l6).length + ([(⟨(List.getD l5 (Int.toNat a7) (⟨0, 0, 0⟩ : Tok)).k, (List.getD l5 (Int.toNat a7) (⟨0, 0, 0⟩ : Tok)).f, (List.getD l5 (Int.toNat a7) (⟨0, 0, 0⟩ : Tok)).t⟩ : Tok)]).length < maxRow then
toks.l0 call lim n0 l5 (l6 ++ [(⟨(List.getD l5 (Int.toNat a7) (⟨0, 0, 0⟩ : Tok)).k, (List.getD l5 (Int.toNat a7) (⟨0, 0, 0⟩ : Tok)).f, (List.getD l5 (Int.toNat a7) (⟨0, 0, 0⟩ : Tok)).t⟩ : Tok)]) (IntKind.i64.wrap (a7 + 1)) ()
else none
else none
else none
else
toks.l0 call lim n0 l5 l6 (IntKind.i64.wrap (a7 + 1)) () := by kernel_rfl
theorem toks.l0_succ (n0 : Nat) (l2 l3 : List Tok) (a4 : Int) (p : Unit) : toks.l0 call lim (n0 + 1) l2 l3 a4 p =
if (decide (a4 < ((l2).length : Int))) then
if 0 ≤ a4 then
if a4 < ((l2).length : Int) then
toks.l2 call lim n0 lim l2 l3 a4 (decide (((List.getD l2 (Int.toNat a4) (⟨0, 0, 0⟩ : Tok)).k) = 16)) (IntKind.i64.wrap (a4 + 1)) ()
else none
else none
else
some (.sl .tok l3, ()) := by kernel_rfl
theorem toks_eq (s : ByteArray) (p : Unit) : evalBody T0 call .unit lim toks.I [.str s] p =
cX call (.t2 (.s .tok) (.s .diag)) .unit Scan.n [.str s] () fun (x1 : (List Tok × List Diag)) _ =>
toks.l0 call lim lim x1.1 [] 0 () := by kernel_rfl
noncomputable def neat.I : FnI := { fn := f12, masks := [(0, { t := [1, 4, 5], b := [(1, [])] })] }
noncomputable def neat.l0 (n0 : Nat) (a1 a2 a3 a4 a5 : Int) (l6 : List Node) (p : Unit) : OU := lpN T0 call .unit (FnI.mask neat.I) lim (Func.code f12).r1.r1.r1.l1.r1.l1.l1 0 n0 (Kblk 0 (Kseq T0 call .unit (FnI.mask neat.I) lim (Func.code f12).r1.r1.r1.r1 0 (fin T0 .unit neat.I))) ⟨[(1, .lbox 1 0), (4, .int a1), (5, .int a2)], [(1, [.int a3, .int a4, .int a5, .sl .node l6])], STy.enc .unit 0 p, [], 0, []⟩
theorem neat.l0_succ (n0 : Nat) (a1 a2 a3 a4 a5 : Int) (l6 : List Node) (p : Unit) : neat.l0 call lim (n0 + 1) a1 a2 a3 a4 a5 l6 p =
if (decide (a2 < ((l6).length : Int))) then
if 0 ≤ a2 then
if a2 < ((l6).length : Int) then
cX call (.t2 .i .b) .unit neat.n [.agg [.int (Node.k (List.getD l6 (Int.toNat a2) (El.dflt .node))), .int (Node.f (List.getD l6 (Int.toNat a2) (El.dflt .node))), .int (Node.t (List.getD l6 (Int.toNat a2) (El.dflt .node))), .sl .node (Node.kids (List.getD l6 (Int.toNat a2) (El.dflt .node)))]] () fun (x7 : (Int × Bool)) _ =>
if (!x7.2) then
some (.tup [.int 0, .bool false], ())
else
neat.l0 call lim n0 (max a1 (IntKind.i64.wrap (x7.1 + 1))) (IntKind.i64.wrap (a2 + 1)) a3 a4 a5 l6 ()
else none
else none
else
if (decide (((l6).length : Int) > 0)) then
if 0 ≤ 0 then
if 0 < ((l6).length : Int) then
if (decide ((Node.k (List.getD l6 (Int.toNat 0) (El.dflt .node))) < 10)) then
some (.tup [.int 0, .bool false], ())
else
if 0 ≤ (IntKind.i64.wrap (((l6).length : Int) - 1)) then
if (IntKind.i64.wrap (((l6).length : Int) - 1)) < ((l6).length : Int) then
if (decide ((Node.k (List.getD l6 (Int.toNat (IntKind.i64.wrap (((l6).length : Int) - 1))) (El.dflt .node))) < 10)) then
some (.tup [.int 0, .bool false], ())
else
some (.tup [.int a1, .bool (decide (a1 ≤ 100))], ())
else none
else none
else none
else none
else
some (.tup [.int a1, .bool (decide (a1 ≤ 100))], ()) := by kernel_rfl
theorem neat_eq (n : Node) (p : Unit) : evalBody T0 call .unit lim neat.I [.agg [.int (Node.k n), .int (Node.f n), .int (Node.t n), .sl .node (Node.kids n)]] p =
if (decide ((Node.k n) ≤ 200)) then
some (.tup [.int 0, .bool true], ())
else
neat.l0 call lim lim 1 0 (Node.k n) (Node.f n) (Node.t n) (Node.kids n) () := by kernel_rfl
end
end Go.AI
end
