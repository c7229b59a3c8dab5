/- DERIVED. THE EVALUATOR, THE READER, THE SCANNER: lemmas for Deep. -/
import Derived.Test.YtoppjmglhddleaaGreatBd
import Derived.KernelRfl
import Derived.Test.YtoppjmglhddleaaGreatBe
import Derived.Test.YtoppjmglhddleaaGreatProg
import Derived.Test.YtoppjmglhddleaaGreatBa
import Derived.IntWalk
set_option linter.unusedVariables false
set_option linter.unusedSimpArgs false
namespace Go.AI
def zeroEq : AV → Value → Bool
 | .int n, .int .i64 m => decide (n = m)
 | .bool b, .bool d => b == d
 | .nil, .slice _ 0 0 => true
 | .str s, .string t => decide (s = t)
 | .ik k n, .int k' m => decide (k = k') && decide (n = m)
 | .undef, _ => true
 | _, _ => false
def zerosEq : List AV → List Value → Bool
 | [], [] => true
 | a :: l, v :: r => zeroEq a v && zerosEq l r
 | _, _ => false
def placesOf (P : Program) : List Field → Option (List (Nat × Nat))
 | [] => some []
 | f :: r => match P.info? f.type, placesOf P r with | some i, some l => some ((f.offset, i.size) :: l) | _, _ => none
def tyOKb (P : Program) (tid : El → Nat) (T : Nat) (ty : Ty) : Bool :=
 match P.info? T, P.underlying T with
 | some i, some d =>
  match i.zero with
  | some z =>
   (Nat.beq i.size ty.zero.length && (zerosEq ty.zero z.cells.toList && (descAgg d == ty.agg && (Nat.blt 0 ty.zero.length && (ty.agg || Nat.beq ty.zero.length 1))))) &&
   ((match ty.offs with
    | [] => true
    | _ => match d with
     | .struct fs => (match placesOf P fs.toList with | some l => decide (l = ty.offs.zip ty.szs) | none => false) && (decide (fs.toList.map (·.type) = ty.ftys) && (Nat.beq ty.offs.length ty.szs.length && ty.szs.all fun m => Nat.blt 0 m))
     | _ => false) &&
   (match ty.el with
    | none => true
    | some e => (match d with | .slice t => Nat.beq t (tid e) | _ => false) &&
     (match P.info? (tid e) with
     | some j => (match j.zero with | some y => Nat.beq j.size e.sz && (Nat.beq y.cells.size e.sz && (Nat.blt 0 j.bytes && Nat.ble j.bytes 32768)) | none => false)
     | none => false)))
  | none => false
 | _, _ => false
def tysOKb (P : Program) (tid : El → Nat) : List (Nat × Ty) → Bool
 | [] => true
 | (T, ty) :: r => tyOKb P tid T ty && tysOKb P tid r
theorem zeroEq_ok {a : AV} {v : Value} (h : zeroEq a v = true) (w : World) (S : Nat → Nat → Prop) (g : Nat) : FRel w S g a v := by
 unfold zeroEq at h
 split at h
 ·have := of_decide_eq_true h; subst this; exact .int _
 ·have := eq_of_beq h; subst this; exact .bool _
 ·exact .nil _
 ·have := of_decide_eq_true h; subst this; exact .str _
 ·simp only [Bool.and_eq_true, decide_eq_true_eq] at h; obtain ⟨rfl, rfl⟩ := h; exact .ik _ _
 ·exact .undef _
 ·cases h
theorem zerosEq_ok : ∀ {l : List AV} {vs : List Value}, zerosEq l vs = true → (∀ w S g, CR w S g l vs)
 | [], [], _ => fun w S g => .nil w S g
 | [], _ :: _, h => by simp [zerosEq] at h
 | _ :: _, [], h => by simp [zerosEq] at h
 | a :: l, v :: r, h => by
  simp only [zerosEq, Bool.and_eq_true] at h
  have h1 := zerosEq_ok h.2
  refine fun w S g => ⟨by simp [(h1 w S g).1], fun i hi => ?_⟩
  cases i with
  | zero => exact zeroEq_ok h.1 w S g
  | succ i => simpa using (h1 w S g).2 i (by simpa using hi)
theorem placesOf_ok {P : Program} : ∀ {l : List Field} {m : List (Nat × Nat)}, placesOf P l = some m → l.mapM (fun f => (P.info? f.type).map fun i => (f.offset, i.size)) = some m
 | [], m, h => by simp [placesOf] at h; subst h; simp
 | f :: r, m, h => by
  simp only [placesOf] at h
  split at h
  ·rename_i i l h1 h2
   simp only [Option.some.injEq] at h
   subst h
   simp [List.mapM_cons, h1, placesOf_ok h2]
  ·cases h
theorem tyOKb_ok {P : Program} {tid : El → Nat} {T : Nat} {ty : Ty} (h : tyOKb P tid T ty = true) : TyOK P tid T ty := by
 unfold tyOKb at h
 split at h
 rotate_left
 ·cases h
 rename_i i d hi hd
 split at h
 rotate_left
 ·cases h
 rename_i z hz
 simp only [Bool.and_eq_true] at h
 obtain ⟨⟨h1, h2, h3, h4, h5⟩, h6, h7⟩ := h
 have z1 := zerosEq_ok h2
 refine ⟨⟨i, z, hi, hz, Nat.eq_of_beq_eq_true h1, z1, trivial⟩, ⟨d, hd, eq_of_beq h3⟩, Nat.le_of_ble_eq_true h4, fun ha => ?_, fun hne => ?_, fun e he => ?_⟩
 ·rw [ha] at h5; exact Nat.eq_of_beq_eq_true (by simpa using h5)
 ·split at h6
  ·rename_i hq; exact absurd hq hne
  ·split at h6
   ·rename_i fs
    simp only [Bool.and_eq_true] at h6
    obtain ⟨q1, q2, q3, q4⟩ := h6
    split at q1
    ·rename_i l hl
     have := of_decide_eq_true q1
     subst this
     exact ⟨fs, hd, placesOf_ok hl, of_decide_eq_true q2, Nat.eq_of_beq_eq_true q3, fun m hm => Nat.le_of_ble_eq_true (List.all_eq_true.1 q4 m hm)⟩
    ·cases q1
   ·cases h6
 ·rw [he] at h7
  simp only [Bool.and_eq_true] at h7
  obtain ⟨q1, q2⟩ := h7
  split at q1
  rotate_left
  ·cases q1
  rename_i t
  have := Nat.eq_of_beq_eq_true q1
  subst this
  split at q2
  rotate_left
  ·cases q2
  rename_i j hj
  split at q2
  rotate_left
  ·cases q2
  rename_i y hy
  simp only [Bool.and_eq_true] at q2
  exact ⟨hd, j, y, hj, hy, Nat.eq_of_beq_eq_true q2.1, Nat.eq_of_beq_eq_true q2.2.1, Nat.le_of_ble_eq_true q2.2.2.1, Nat.le_of_ble_eq_true q2.2.2.2⟩
theorem findN_mem {α : Type} : ∀ {l : List (Nat × α)} {k : Nat} {a : α}, findN l k = some a → (k, a) ∈ l
 | [], k, a, h => by simp [findN] at h
 | (i, b) :: r, k, a, h => by
  simp only [findN] at h
  split at h
  ·rename_i hb
   have := Nat.eq_of_beq_eq_true hb
   subst this
   simp only [Option.some.injEq] at h
   subst h; simp
  ·exact List.mem_cons_of_mem _ (findN_mem h)
theorem tabOK_of {P : Program} {tab : Tab} (h : tysOKb P tab.tid tab.tys = true) (he : eqsOKb P tab.eqs = true) (hc : cvsOKb P tab.cvs = true) : TabOK P tab := by
 have hall : ∀ (l : List (Nat × Ty)), tysOKb P tab.tid l = true → ∀ T ty, (T, ty) ∈ l → TyOK P tab.tid T ty := by
  intro l
  induction l with
  | nil => intro _ T ty hm; simp at hm
  | cons x l ih =>
   intro h T ty hm
   obtain ⟨T0, ty0⟩ := x
   simp only [tysOKb, Bool.and_eq_true] at h
   rcases List.mem_cons.1 hm with hm | hm
   ·cases hm; exact tyOKb_ok h.1
   ·exact ih h.2 T ty hm
 exact ⟨fun T ty ht => hall _ h T ty (findN_mem ht), fun T a ht => eqsOKb_of he T a ht, fun T a ht => cvsOKb_of hc T a ht⟩
def FnsOK (P : Program) : List (Nat × FnI) → Prop
 | [] => True
 | (f, fi) :: r => FnOK P f fi ∧ FnsOK P r
theorem fnsOK_of {P : Program} : ∀ {l : List (Nat × FnI)}, FnsOK P l → ∀ f fi, findN l f = some fi → FnOK P f fi
 | [], _, f, fi, h => by simp [findN] at h
 | (g, gi) :: r, h, f, fi, hf => by
  simp only [findN] at hf
  split at hf
  ·rename_i hb
   have := Nat.eq_of_beq_eq_true hb
   subst this
   simp only [Option.some.injEq] at hf
   subst hf; exact h.1
  ·exact fnsOK_of h.2 f fi hf
end Go.AI
section
set_option maxRecDepth 100000
namespace Go.AI
open Go.Proofs.Tryz
theorem tys_ok : tysOKb prog T0.tid T0.tys = true := by kernel_rfl
theorem eqs_ok : eqsOKb prog T0.eqs = true := by kernel_rfl
theorem cvs_ok : cvsOKb prog T0.cvs = true := by kernel_rfl
theorem mix_ok : prog.follows .mixedOrders = true := by kernel_rfl
theorem X.ok : FnOK prog 13 X.I := ⟨func13, by kernel_rfl, ⟨_, rfl⟩, by kernel_rfl⟩
theorem X1.ok : FnOK prog 21 X1.I := ⟨func21, by kernel_rfl, ⟨_, rfl⟩, by kernel_rfl⟩
theorem deeper.ok : FnOK prog 20 deeper.I := ⟨func20, by kernel_rfl, ⟨_, rfl⟩, by kernel_rfl⟩
theorem node.ok : FnOK prog 87 node.I := ⟨func87, by kernel_rfl, ⟨_, rfl⟩, by kernel_rfl⟩
theorem binary.ok : FnOK prog 22 binary.I := ⟨func22, by kernel_rfl, ⟨_, rfl⟩, by kernel_rfl⟩
theorem Kind.ok : FnOK prog 23 Kind.I := ⟨func23, by kernel_rfl, ⟨_, rfl⟩, by kernel_rfl⟩
theorem Mark.ok : FnOK prog 37 Mark.I := ⟨func37, by kernel_rfl, ⟨_, rfl⟩, by kernel_rfl⟩
theorem Down.ok : FnOK prog 35 Down.I := ⟨func35, by kernel_rfl, ⟨_, rfl⟩, by kernel_rfl⟩
theorem Up.ok : FnOK prog 36 Up.I := ⟨func36, by kernel_rfl, ⟨_, rfl⟩, by kernel_rfl⟩
theorem Ahead.ok : FnOK prog 42 Ahead.I := ⟨func42, by kernel_rfl, ⟨_, rfl⟩, by kernel_rfl⟩
theorem here.ok : FnOK prog 43 here.I := ⟨func43, by kernel_rfl, ⟨_, rfl⟩, by kernel_rfl⟩
theorem Fail.ok : FnOK prog 24 Fail.I := ⟨func24, by kernel_rfl, ⟨_, rfl⟩, by kernel_rfl⟩
theorem leaves.ok : FnOK prog 25 leaves.I := ⟨func25, by kernel_rfl, ⟨_, rfl⟩, by kernel_rfl⟩
theorem Take.ok : FnOK prog 40 Take.I := ⟨func40, by kernel_rfl, ⟨_, rfl⟩, by kernel_rfl⟩
theorem Close.ok : FnOK prog 41 Close.I := ⟨func41, by kernel_rfl, ⟨_, rfl⟩, by kernel_rfl⟩
theorem None_.ok : FnOK prog 115 None_.I := ⟨func115, by kernel_rfl, ⟨_, rfl⟩, by kernel_rfl⟩
theorem primary.ok : FnOK prog 54 primary.I := ⟨func54, by kernel_rfl, ⟨_, rfl⟩, by kernel_rfl⟩
theorem unary.ok : FnOK prog 38 unary.I := ⟨func38, by kernel_rfl, ⟨_, rfl⟩, by kernel_rfl⟩
theorem unary1.ok : FnOK prog 55 unary1.I := ⟨func55, by kernel_rfl, ⟨_, rfl⟩, by kernel_rfl⟩
theorem operand.ok : FnOK prog 65 operand.I := ⟨func65, by kernel_rfl, ⟨_, rfl⟩, by kernel_rfl⟩
theorem period.ok : FnOK prog 66 period.I := ⟨func66, by kernel_rfl, ⟨_, rfl⟩, by kernel_rfl⟩
theorem index.ok : FnOK prog 67 index.I := ⟨func67, by kernel_rfl, ⟨_, rfl⟩, by kernel_rfl⟩
theorem arguments.ok : FnOK prog 68 arguments.I := ⟨func68, by kernel_rfl, ⟨_, rfl⟩, by kernel_rfl⟩
theorem literal.ok : FnOK prog 69 literal.I := ⟨func69, by kernel_rfl, ⟨_, rfl⟩, by kernel_rfl⟩
theorem values.ok : FnOK prog 70 values.I := ⟨func70, by kernel_rfl, ⟨_, rfl⟩, by kernel_rfl⟩
theorem value.ok : FnOK prog 96 value.I := ⟨func96, by kernel_rfl, ⟨_, rfl⟩, by kernel_rfl⟩
theorem value1.ok : FnOK prog 118 value1.I := ⟨func118, by kernel_rfl, ⟨_, rfl⟩, by kernel_rfl⟩
theorem Name.ok : FnOK prog 86 Name.I := ⟨func86, by kernel_rfl, ⟨_, rfl⟩, by kernel_rfl⟩
theorem Expect.ok : FnOK prog 88 Expect.I := ⟨func88, by kernel_rfl, ⟨_, rfl⟩, by kernel_rfl⟩
theorem Sig.ok : FnOK prog 89 Sig.I := ⟨func89, by kernel_rfl, ⟨_, rfl⟩, by kernel_rfl⟩
theorem Sig1.ok : FnOK prog 113 Sig1.I := ⟨func113, by kernel_rfl, ⟨_, rfl⟩, by kernel_rfl⟩
theorem comes.ok : FnOK prog 90 comes.I := ⟨func90, by kernel_rfl, ⟨_, rfl⟩, by kernel_rfl⟩
theorem flat.ok : FnOK prog 91 flat.I := ⟨func91, by kernel_rfl, ⟨_, rfl⟩, by kernel_rfl⟩
theorem Type_.ok : FnOK prog 92 Type_.I := ⟨func92, by kernel_rfl, ⟨_, rfl⟩, by kernel_rfl⟩
theorem form.ok : FnOK prog 117 form.I := ⟨func117, by kernel_rfl, ⟨_, rfl⟩, by kernel_rfl⟩
theorem taken.ok : FnOK prog 93 taken.I := ⟨func93, by kernel_rfl, ⟨_, rfl⟩, by kernel_rfl⟩
theorem unless_.ok : FnOK prog 94 unless_.I := ⟨func94, by kernel_rfl, ⟨_, rfl⟩, by kernel_rfl⟩
theorem named.ok : FnOK prog 95 named.I := ⟨func95, by kernel_rfl, ⟨_, rfl⟩, by kernel_rfl⟩
theorem Params.ok : FnOK prog 114 Params.I := ⟨func114, by kernel_rfl, ⟨_, rfl⟩, by kernel_rfl⟩
theorem Params1.ok : FnOK prog 125 Params1.I := ⟨func125, by kernel_rfl, ⟨_, rfl⟩, by kernel_rfl⟩
theorem entry.ok : FnOK prog 126 entry.I := ⟨func126, by kernel_rfl, ⟨_, rfl⟩, by kernel_rfl⟩
theorem entry1.ok : FnOK prog 140 entry1.I := ⟨func140, by kernel_rfl, ⟨_, rfl⟩, by kernel_rfl⟩
theorem names.ok : FnOK prog 127 names.I := ⟨func127, by kernel_rfl, ⟨_, rfl⟩, by kernel_rfl⟩
theorem group.ok : FnOK prog 128 group.I := ⟨func128, by kernel_rfl, ⟨_, rfl⟩, by kernel_rfl⟩
theorem Index.ok : FnOK prog 129 Index.I := ⟨func129, by kernel_rfl, ⟨_, rfl⟩, by kernel_rfl⟩
theorem Contains.ok : FnOK prog 116 Contains.I := ⟨func116, by kernel_rfl, ⟨_, rfl⟩, by kernel_rfl⟩
theorem qualified.ok : FnOK prog 130 qualified.I := ⟨func130, by kernel_rfl, ⟨_, rfl⟩, by kernel_rfl⟩
theorem elements.ok : FnOK prog 131 elements.I := ⟨func131, by kernel_rfl, ⟨_, rfl⟩, by kernel_rfl⟩
theorem items.ok : FnOK prog 132 items.I := ⟨func132, by kernel_rfl, ⟨_, rfl⟩, by kernel_rfl⟩
theorem field.ok : FnOK prog 133 field.I := ⟨func133, by kernel_rfl, ⟨_, rfl⟩, by kernel_rfl⟩
theorem element.ok : FnOK prog 134 element.I := ⟨func134, by kernel_rfl, ⟨_, rfl⟩, by kernel_rfl⟩
theorem embedded.ok : FnOK prog 141 embedded.I := ⟨func141, by kernel_rfl, ⟨_, rfl⟩, by kernel_rfl⟩
theorem union.ok : FnOK prog 142 union.I := ⟨func142, by kernel_rfl, ⟨_, rfl⟩, by kernel_rfl⟩
theorem hasName.ok : FnOK prog 139 hasName.I := ⟨func139, by kernel_rfl, ⟨_, rfl⟩, by kernel_rfl⟩
theorem partner.ok : FnOK prog 145 partner.I := ⟨func145, by kernel_rfl, ⟨_, rfl⟩, by kernel_rfl⟩
theorem Done.ok : FnOK prog 14 Done.I := ⟨func14, by kernel_rfl, ⟨_, rfl⟩, by kernel_rfl⟩
theorem NewReader.ok : FnOK prog 12 NewReader.I := ⟨func12, by kernel_rfl, ⟨_, rfl⟩, by kernel_rfl⟩
theorem Parse.ok : FnOK prog 7 Parse.I := ⟨func7, by kernel_rfl, ⟨_, rfl⟩, by kernel_rfl⟩
theorem Prec.ok : FnOK prog 39 Prec.I := ⟨func39, by kernel_rfl, ⟨_, rfl⟩, by kernel_rfl⟩
theorem qX.ok : FnOK prog 16 qX.I := ⟨func16, by kernel_rfl, ⟨_, rfl⟩, by kernel_rfl⟩
theorem qDown.ok : FnOK prog 26 qDown.I := ⟨func26, by kernel_rfl, ⟨_, rfl⟩, by kernel_rfl⟩
theorem qbinary.ok : FnOK prog 27 qbinary.I := ⟨func27, by kernel_rfl, ⟨_, rfl⟩, by kernel_rfl⟩
theorem qUp.ok : FnOK prog 28 qUp.I := ⟨func28, by kernel_rfl, ⟨_, rfl⟩, by kernel_rfl⟩
theorem qKind.ok : FnOK prog 29 qKind.I := ⟨func29, by kernel_rfl, ⟨_, rfl⟩, by kernel_rfl⟩
theorem qFail.ok : FnOK prog 30 qFail.I := ⟨func30, by kernel_rfl, ⟨_, rfl⟩, by kernel_rfl⟩
theorem qpush.ok : FnOK prog 31 qpush.I := ⟨func31, by kernel_rfl, ⟨_, rfl⟩, by kernel_rfl⟩
theorem qMark.ok : FnOK prog 44 qMark.I := ⟨func44, by kernel_rfl, ⟨_, rfl⟩, by kernel_rfl⟩
theorem qunary.ok : FnOK prog 45 qunary.I := ⟨func45, by kernel_rfl, ⟨_, rfl⟩, by kernel_rfl⟩
theorem qTake.ok : FnOK prog 47 qTake.I := ⟨func47, by kernel_rfl, ⟨_, rfl⟩, by kernel_rfl⟩
theorem qClose.ok : FnOK prog 48 qClose.I := ⟨func48, by kernel_rfl, ⟨_, rfl⟩, by kernel_rfl⟩
theorem qAhead.ok : FnOK prog 49 qAhead.I := ⟨func49, by kernel_rfl, ⟨_, rfl⟩, by kernel_rfl⟩
theorem qhere.ok : FnOK prog 50 qhere.I := ⟨func50, by kernel_rfl, ⟨_, rfl⟩, by kernel_rfl⟩
theorem qnext.ok : FnOK prog 51 qnext.I := ⟨func51, by kernel_rfl, ⟨_, rfl⟩, by kernel_rfl⟩
theorem qcomes.ok : FnOK prog 56 qcomes.I := ⟨func56, by kernel_rfl, ⟨_, rfl⟩, by kernel_rfl⟩
theorem qprimary.ok : FnOK prog 57 qprimary.I := ⟨func57, by kernel_rfl, ⟨_, rfl⟩, by kernel_rfl⟩
theorem qoperand.ok : FnOK prog 71 qoperand.I := ⟨func71, by kernel_rfl, ⟨_, rfl⟩, by kernel_rfl⟩
theorem qperiod.ok : FnOK prog 72 qperiod.I := ⟨func72, by kernel_rfl, ⟨_, rfl⟩, by kernel_rfl⟩
theorem qindex.ok : FnOK prog 73 qindex.I := ⟨func73, by kernel_rfl, ⟨_, rfl⟩, by kernel_rfl⟩
theorem qcall.ok : FnOK prog 74 qcall.I := ⟨func74, by kernel_rfl, ⟨_, rfl⟩, by kernel_rfl⟩
theorem qliteral.ok : FnOK prog 75 qliteral.I := ⟨func75, by kernel_rfl, ⟨_, rfl⟩, by kernel_rfl⟩
theorem qlast.ok : FnOK prog 76 qlast.I := ⟨func76, by kernel_rfl, ⟨_, rfl⟩, by kernel_rfl⟩
theorem qvalues.ok : FnOK prog 77 qvalues.I := ⟨func77, by kernel_rfl, ⟨_, rfl⟩, by kernel_rfl⟩
theorem qName.ok : FnOK prog 97 qName.I := ⟨func97, by kernel_rfl, ⟨_, rfl⟩, by kernel_rfl⟩
theorem qExpect.ok : FnOK prog 98 qExpect.I := ⟨func98, by kernel_rfl, ⟨_, rfl⟩, by kernel_rfl⟩
theorem qSig.ok : FnOK prog 99 qSig.I := ⟨func99, by kernel_rfl, ⟨_, rfl⟩, by kernel_rfl⟩
theorem qflat.ok : FnOK prog 100 qflat.I := ⟨func100, by kernel_rfl, ⟨_, rfl⟩, by kernel_rfl⟩
theorem qType.ok : FnOK prog 101 qType.I := ⟨func101, by kernel_rfl, ⟨_, rfl⟩, by kernel_rfl⟩
theorem qNone.ok : FnOK prog 102 qNone.I := ⟨func102, by kernel_rfl, ⟨_, rfl⟩, by kernel_rfl⟩
theorem qcut.ok : FnOK prog 103 qcut.I := ⟨func103, by kernel_rfl, ⟨_, rfl⟩, by kernel_rfl⟩
theorem qnamed.ok : FnOK prog 104 qnamed.I := ⟨func104, by kernel_rfl, ⟨_, rfl⟩, by kernel_rfl⟩
theorem qpart.ok : FnOK prog 105 qpart.I := ⟨func105, by kernel_rfl, ⟨_, rfl⟩, by kernel_rfl⟩
theorem qvalue.ok : FnOK prog 106 qvalue.I := ⟨func106, by kernel_rfl, ⟨_, rfl⟩, by kernel_rfl⟩
theorem qParams.ok : FnOK prog 119 qParams.I := ⟨func119, by kernel_rfl, ⟨_, rfl⟩, by kernel_rfl⟩
theorem qqualified.ok : FnOK prog 120 qqualified.I := ⟨func120, by kernel_rfl, ⟨_, rfl⟩, by kernel_rfl⟩
theorem qarray.ok : FnOK prog 121 qarray.I := ⟨func121, by kernel_rfl, ⟨_, rfl⟩, by kernel_rfl⟩
theorem qitems.ok : FnOK prog 122 qitems.I := ⟨func122, by kernel_rfl, ⟨_, rfl⟩, by kernel_rfl⟩
theorem qentry.ok : FnOK prog 135 qentry.I := ⟨func135, by kernel_rfl, ⟨_, rfl⟩, by kernel_rfl⟩
theorem qgroup.ok : FnOK prog 136 qgroup.I := ⟨func136, by kernel_rfl, ⟨_, rfl⟩, by kernel_rfl⟩
theorem qfield.ok : FnOK prog 137 qfield.I := ⟨func137, by kernel_rfl, ⟨_, rfl⟩, by kernel_rfl⟩
theorem qelement.ok : FnOK prog 138 qelement.I := ⟨func138, by kernel_rfl, ⟨_, rfl⟩, by kernel_rfl⟩
theorem qisNamed.ok : FnOK prog 143 qisNamed.I := ⟨func143, by kernel_rfl, ⟨_, rfl⟩, by kernel_rfl⟩
theorem qunion.ok : FnOK prog 144 qunion.I := ⟨func144, by kernel_rfl, ⟨_, rfl⟩, by kernel_rfl⟩
theorem qbehind.ok : FnOK prog 146 qbehind.I := ⟨func146, by kernel_rfl, ⟨_, rfl⟩, by kernel_rfl⟩
theorem qDone.ok : FnOK prog 17 qDone.I := ⟨func17, by kernel_rfl, ⟨_, rfl⟩, by kernel_rfl⟩
theorem qNewReader.ok : FnOK prog 15 qNewReader.I := ⟨func15, by kernel_rfl, ⟨_, rfl⟩, by kernel_rfl⟩
theorem qParse.ok : FnOK prog 9 qParse.I := ⟨func9, by kernel_rfl, ⟨_, rfl⟩, by kernel_rfl⟩
theorem qPrec.ok : FnOK prog 46 qPrec.I := ⟨func46, by kernel_rfl, ⟨_, rfl⟩, by kernel_rfl⟩
theorem sameNode.ok : FnOK prog 10 sameNode.I := ⟨func10, by kernel_rfl, ⟨_, rfl⟩, by kernel_rfl⟩
theorem s1more.ok : FnOK prog 112 s1more.I := ⟨func112, by kernel_rfl, ⟨_, rfl⟩, by kernel_rfl⟩
theorem Width.ok : FnOK prog 84 Width.I := ⟨func84, by kernel_rfl, ⟨_, rfl⟩, by kernel_rfl⟩
theorem s2cut.ok : FnOK prog 107 s2cut.I := ⟨func107, by kernel_rfl, ⟨_, rfl⟩, by kernel_rfl⟩
theorem Signs.ok : FnOK prog 111 Signs.I := ⟨func111, by kernel_rfl, ⟨_, rfl⟩, by kernel_rfl⟩
theorem Keywords.ok : FnOK prog 78 Keywords.I := ⟨func78, by kernel_rfl, ⟨_, rfl⟩, by kernel_rfl⟩
theorem Keyword.ok : FnOK prog 61 Keyword.I := ⟨func61, by kernel_rfl, ⟨_, rfl⟩, by kernel_rfl⟩
theorem Operator.ok : FnOK prog 83 Operator.I := ⟨func83, by kernel_rfl, ⟨_, rfl⟩, by kernel_rfl⟩
theorem sEnds.ok : FnOK prog 33 sEnds.I := ⟨func33, by kernel_rfl, ⟨_, rfl⟩, by kernel_rfl⟩
theorem sDigit.ok : FnOK prog 108 sDigit.I := ⟨func108, by kernel_rfl, ⟨_, rfl⟩, by kernel_rfl⟩
theorem srow.ok : FnOK prog 79 srow.I := ⟨func79, by kernel_rfl, ⟨_, rfl⟩, by kernel_rfl⟩
theorem Digits.ok : FnOK prog 62 Digits.I := ⟨func62, by kernel_rfl, ⟨_, rfl⟩, by kernel_rfl⟩
theorem number.ok : FnOK prog 123 number.I := ⟨func123, by kernel_rfl, ⟨_, rfl⟩, by kernel_rfl⟩
theorem UTF8.ok : FnOK prog 124 UTF8.I := ⟨func124, by kernel_rfl, ⟨_, rfl⟩, by kernel_rfl⟩
theorem Escape.ok : FnOK prog 109 (Escape.I id) := ⟨(by show _ = some (Func.hid id f109); rw [show Func.hid id f109 = f109 by kernel_rfl]; exact func109), by kernel_rfl, ⟨_, rfl⟩, by kernel_rfl⟩
theorem Unquote.ok : FnOK prog 81 Unquote.I := ⟨func81, by kernel_rfl, ⟨_, rfl⟩, by kernel_rfl⟩
theorem sChar.ok : FnOK prog 110 sChar.I := ⟨func110, by kernel_rfl, ⟨_, rfl⟩, by kernel_rfl⟩
theorem sRune.ok : FnOK prog 82 sRune.I := ⟨func82, by kernel_rfl, ⟨_, rfl⟩, by kernel_rfl⟩
theorem letter.ok : FnOK prog 59 letter.I := ⟨func59, by kernel_rfl, ⟨_, rfl⟩, by kernel_rfl⟩
theorem digit.ok : FnOK prog 60 digit.I := ⟨func60, by kernel_rfl, ⟨_, rfl⟩, by kernel_rfl⟩
theorem blank.ok : FnOK prog 58 blank.I := ⟨func58, by kernel_rfl, ⟨_, rfl⟩, by kernel_rfl⟩
theorem sfind.ok : FnOK prog 53 sfind.I := ⟨func53, by kernel_rfl, ⟨_, rfl⟩, by kernel_rfl⟩
theorem quoted.ok : FnOK prog 80 quoted.I := ⟨func80, by kernel_rfl, ⟨_, rfl⟩, by kernel_rfl⟩
theorem said.ok : FnOK prog 85 said.I := ⟨func85, by kernel_rfl, ⟨_, rfl⟩, by kernel_rfl⟩
theorem sNext.ok : FnOK prog 52 sNext.I := ⟨func52, by kernel_rfl, ⟨_, rfl⟩, by kernel_rfl⟩
theorem stext.ok : FnOK prog 63 stext.I := ⟨func63, by kernel_rfl, ⟨_, rfl⟩, by kernel_rfl⟩
theorem sother.ok : FnOK prog 64 sother.I := ⟨func64, by kernel_rfl, ⟨_, rfl⟩, by kernel_rfl⟩
theorem sends.ok : FnOK prog 34 sends.I := ⟨func34, by kernel_rfl, ⟨_, rfl⟩, by kernel_rfl⟩
theorem Bare.ok : FnOK prog 32 Bare.I := ⟨func32, by kernel_rfl, ⟨_, rfl⟩, by kernel_rfl⟩
theorem Scan.ok : FnOK prog 18 Scan.I := ⟨func18, by kernel_rfl, ⟨_, rfl⟩, by kernel_rfl⟩
theorem toks.ok : FnOK prog 11 toks.I := ⟨func11, by kernel_rfl, ⟨_, rfl⟩, by kernel_rfl⟩
theorem ExprDeep.ok : FnOK prog 5 ExprDeep.I := ⟨func5, by kernel_rfl, ⟨_, rfl⟩, by kernel_rfl⟩
noncomputable def fnsT : List (Nat × FnI) := [(13, X.I), (21, X1.I), (20, deeper.I), (87, node.I), (22, binary.I), (23, Kind.I), (37, Mark.I), (35, Down.I), (36, Up.I), (42, Ahead.I), (43, here.I), (24, Fail.I), (25, leaves.I), (40, Take.I), (41, Close.I), (115, None_.I), (54, primary.I), (38, unary.I), (55, unary1.I), (65, operand.I), (66, period.I), (67, index.I), (68, arguments.I), (69, literal.I), (70, values.I), (96, value.I), (118, value1.I), (86, Name.I), (88, Expect.I), (89, Sig.I), (113, Sig1.I), (90, comes.I), (91, flat.I), (92, Type_.I), (117, form.I), (93, taken.I), (94, unless_.I), (95, named.I), (114, Params.I), (125, Params1.I), (126, entry.I), (140, entry1.I), (127, names.I), (128, group.I), (129, Index.I), (116, Contains.I), (130, qualified.I), (131, elements.I), (132, items.I), (133, field.I), (134, element.I), (141, embedded.I), (142, union.I), (139, hasName.I), (145, partner.I), (14, Done.I), (12, NewReader.I), (7, Parse.I), (39, Prec.I), (16, qX.I), (26, qDown.I), (27, qbinary.I), (28, qUp.I), (29, qKind.I), (30, qFail.I), (31, qpush.I), (44, qMark.I), (45, qunary.I), (47, qTake.I), (48, qClose.I), (49, qAhead.I), (50, qhere.I), (51, qnext.I), (56, qcomes.I), (57, qprimary.I), (71, qoperand.I), (72, qperiod.I), (73, qindex.I), (74, qcall.I), (75, qliteral.I), (76, qlast.I), (77, qvalues.I), (97, qName.I), (98, qExpect.I), (99, qSig.I), (100, qflat.I), (101, qType.I), (102, qNone.I), (103, qcut.I), (104, qnamed.I), (105, qpart.I), (106, qvalue.I), (119, qParams.I), (120, qqualified.I), (121, qarray.I), (122, qitems.I), (135, qentry.I), (136, qgroup.I), (137, qfield.I), (138, qelement.I), (143, qisNamed.I), (144, qunion.I), (146, qbehind.I), (17, qDone.I), (15, qNewReader.I), (9, qParse.I), (46, qPrec.I), (10, sameNode.I), (112, s1more.I), (84, Width.I), (107, s2cut.I), (111, Signs.I), (78, Keywords.I), (61, Keyword.I), (83, Operator.I), (33, sEnds.I), (108, sDigit.I), (79, srow.I), (62, Digits.I), (123, number.I), (124, UTF8.I), (109, Escape.I id), (81, Unquote.I), (110, sChar.I), (82, sRune.I), (59, letter.I), (60, digit.I), (58, blank.I), (53, sfind.I), (80, quoted.I), (85, said.I), (52, sNext.I), (63, stext.I), (64, sother.I), (34, sends.I), (32, Bare.I), (18, Scan.I), (11, toks.I), (5, ExprDeep.I)]
theorem fns_ok : FnsOK prog fnsT := ⟨X.ok, X1.ok, deeper.ok, node.ok, binary.ok, Kind.ok, Mark.ok, Down.ok, Up.ok, Ahead.ok, here.ok, Fail.ok, leaves.ok, Take.ok, Close.ok, None_.ok, primary.ok, unary.ok, unary1.ok, operand.ok, period.ok, index.ok, arguments.ok, literal.ok, values.ok, value.ok, value1.ok, Name.ok, Expect.ok, Sig.ok, Sig1.ok, comes.ok, flat.ok, Type_.ok, form.ok, taken.ok, unless_.ok, named.ok, Params.ok, Params1.ok, entry.ok, entry1.ok, names.ok, group.ok, Index.ok, Contains.ok, qualified.ok, elements.ok, items.ok, field.ok, element.ok, embedded.ok, union.ok, hasName.ok, partner.ok, Done.ok, NewReader.ok, Parse.ok, Prec.ok, qX.ok, qDown.ok, qbinary.ok, qUp.ok, qKind.ok, qFail.ok, qpush.ok, qMark.ok, qunary.ok, qTake.ok, qClose.ok, qAhead.ok, qhere.ok, qnext.ok, qcomes.ok, qprimary.ok, qoperand.ok, qperiod.ok, qindex.ok, qcall.ok, qliteral.ok, qlast.ok, qvalues.ok, qName.ok, qExpect.ok, qSig.ok, qflat.ok, qType.ok, qNone.ok, qcut.ok, qnamed.ok, qpart.ok, qvalue.ok, qParams.ok, qqualified.ok, qarray.ok, qitems.ok, qentry.ok, qgroup.ok, qfield.ok, qelement.ok, qisNamed.ok, qunion.ok, qbehind.ok, qDone.ok, qNewReader.ok, qParse.ok, qPrec.ok, sameNode.ok, s1more.ok, Width.ok, s2cut.ok, Signs.ok, Keywords.ok, Keyword.ok, Operator.ok, sEnds.ok, sDigit.ok, srow.ok, Digits.ok, number.ok, UTF8.ok, Escape.ok, Unquote.ok, sChar.ok, sRune.ok, letter.ok, digit.ok, blank.ok, sfind.ok, quoted.ok, said.ok, sNext.ok, stext.ok, sother.ok, sends.ok, Bare.ok, Scan.ok, toks.ok, ExprDeep.ok, trivial⟩
theorem X.fd : findN fnsT X.n = some X.I := by kernel_rfl
theorem X1.fd : findN fnsT X1.n = some X1.I := by kernel_rfl
theorem deeper.fd : findN fnsT deeper.n = some deeper.I := by kernel_rfl
theorem node.fd : findN fnsT node.n = some node.I := by kernel_rfl
theorem binary.fd : findN fnsT binary.n = some binary.I := by kernel_rfl
theorem Kind.fd : findN fnsT Kind.n = some Kind.I := by kernel_rfl
theorem Mark.fd : findN fnsT Mark.n = some Mark.I := by kernel_rfl
theorem Down.fd : findN fnsT Down.n = some Down.I := by kernel_rfl
theorem Up.fd : findN fnsT Up.n = some Up.I := by kernel_rfl
theorem Ahead.fd : findN fnsT Ahead.n = some Ahead.I := by kernel_rfl
theorem here.fd : findN fnsT here.n = some here.I := by kernel_rfl
theorem Fail.fd : findN fnsT Fail.n = some Fail.I := by kernel_rfl
theorem leaves.fd : findN fnsT leaves.n = some leaves.I := by kernel_rfl
theorem Take.fd : findN fnsT Take.n = some Take.I := by kernel_rfl
theorem Close.fd : findN fnsT Close.n = some Close.I := by kernel_rfl
theorem None_.fd : findN fnsT None_.n = some None_.I := by kernel_rfl
theorem primary.fd : findN fnsT primary.n = some primary.I := by kernel_rfl
theorem unary.fd : findN fnsT unary.n = some unary.I := by kernel_rfl
theorem unary1.fd : findN fnsT unary1.n = some unary1.I := by kernel_rfl
theorem operand.fd : findN fnsT operand.n = some operand.I := by kernel_rfl
theorem period.fd : findN fnsT period.n = some period.I := by kernel_rfl
theorem index.fd : findN fnsT index.n = some index.I := by kernel_rfl
theorem arguments.fd : findN fnsT arguments.n = some arguments.I := by kernel_rfl
theorem literal.fd : findN fnsT literal.n = some literal.I := by kernel_rfl
theorem values.fd : findN fnsT values.n = some values.I := by kernel_rfl
theorem value.fd : findN fnsT value.n = some value.I := by kernel_rfl
theorem value1.fd : findN fnsT value1.n = some value1.I := by kernel_rfl
theorem Name.fd : findN fnsT Name.n = some Name.I := by kernel_rfl
theorem Expect.fd : findN fnsT Expect.n = some Expect.I := by kernel_rfl
theorem Sig.fd : findN fnsT Sig.n = some Sig.I := by kernel_rfl
theorem Sig1.fd : findN fnsT Sig1.n = some Sig1.I := by kernel_rfl
theorem comes.fd : findN fnsT comes.n = some comes.I := by kernel_rfl
theorem flat.fd : findN fnsT flat.n = some flat.I := by kernel_rfl
theorem Type_.fd : findN fnsT Type_.n = some Type_.I := by kernel_rfl
theorem form.fd : findN fnsT form.n = some form.I := by kernel_rfl
theorem taken.fd : findN fnsT taken.n = some taken.I := by kernel_rfl
theorem unless_.fd : findN fnsT unless_.n = some unless_.I := by kernel_rfl
theorem named.fd : findN fnsT named.n = some named.I := by kernel_rfl
theorem Params.fd : findN fnsT Params.n = some Params.I := by kernel_rfl
theorem Params1.fd : findN fnsT Params1.n = some Params1.I := by kernel_rfl
theorem entry.fd : findN fnsT entry.n = some entry.I := by kernel_rfl
theorem entry1.fd : findN fnsT entry1.n = some entry1.I := by kernel_rfl
theorem names.fd : findN fnsT names.n = some names.I := by kernel_rfl
theorem group.fd : findN fnsT group.n = some group.I := by kernel_rfl
theorem Index.fd : findN fnsT Index.n = some Index.I := by kernel_rfl
theorem Contains.fd : findN fnsT Contains.n = some Contains.I := by kernel_rfl
theorem qualified.fd : findN fnsT qualified.n = some qualified.I := by kernel_rfl
theorem elements.fd : findN fnsT elements.n = some elements.I := by kernel_rfl
theorem items.fd : findN fnsT items.n = some items.I := by kernel_rfl
theorem field.fd : findN fnsT field.n = some field.I := by kernel_rfl
theorem element.fd : findN fnsT element.n = some element.I := by kernel_rfl
theorem embedded.fd : findN fnsT embedded.n = some embedded.I := by kernel_rfl
theorem union.fd : findN fnsT union.n = some union.I := by kernel_rfl
theorem hasName.fd : findN fnsT hasName.n = some hasName.I := by kernel_rfl
theorem partner.fd : findN fnsT partner.n = some partner.I := by kernel_rfl
theorem Done.fd : findN fnsT Done.n = some Done.I := by kernel_rfl
theorem NewReader.fd : findN fnsT NewReader.n = some NewReader.I := by kernel_rfl
theorem Parse.fd : findN fnsT Parse.n = some Parse.I := by kernel_rfl
theorem Prec.fd : findN fnsT Prec.n = some Prec.I := by kernel_rfl
theorem qX.fd : findN fnsT qX.n = some qX.I := by kernel_rfl
theorem qDown.fd : findN fnsT qDown.n = some qDown.I := by kernel_rfl
theorem qbinary.fd : findN fnsT qbinary.n = some qbinary.I := by kernel_rfl
theorem qUp.fd : findN fnsT qUp.n = some qUp.I := by kernel_rfl
theorem qKind.fd : findN fnsT qKind.n = some qKind.I := by kernel_rfl
theorem qFail.fd : findN fnsT qFail.n = some qFail.I := by kernel_rfl
theorem qpush.fd : findN fnsT qpush.n = some qpush.I := by kernel_rfl
theorem qMark.fd : findN fnsT qMark.n = some qMark.I := by kernel_rfl
theorem qunary.fd : findN fnsT qunary.n = some qunary.I := by kernel_rfl
theorem qTake.fd : findN fnsT qTake.n = some qTake.I := by kernel_rfl
theorem qClose.fd : findN fnsT qClose.n = some qClose.I := by kernel_rfl
theorem qAhead.fd : findN fnsT qAhead.n = some qAhead.I := by kernel_rfl
theorem qhere.fd : findN fnsT qhere.n = some qhere.I := by kernel_rfl
theorem qnext.fd : findN fnsT qnext.n = some qnext.I := by kernel_rfl
theorem qcomes.fd : findN fnsT qcomes.n = some qcomes.I := by kernel_rfl
theorem qprimary.fd : findN fnsT qprimary.n = some qprimary.I := by kernel_rfl
theorem qoperand.fd : findN fnsT qoperand.n = some qoperand.I := by kernel_rfl
theorem qperiod.fd : findN fnsT qperiod.n = some qperiod.I := by kernel_rfl
theorem qindex.fd : findN fnsT qindex.n = some qindex.I := by kernel_rfl
theorem qcall.fd : findN fnsT qcall.n = some qcall.I := by kernel_rfl
theorem qliteral.fd : findN fnsT qliteral.n = some qliteral.I := by kernel_rfl
theorem qlast.fd : findN fnsT qlast.n = some qlast.I := by kernel_rfl
theorem qvalues.fd : findN fnsT qvalues.n = some qvalues.I := by kernel_rfl
theorem qName.fd : findN fnsT qName.n = some qName.I := by kernel_rfl
theorem qExpect.fd : findN fnsT qExpect.n = some qExpect.I := by kernel_rfl
theorem qSig.fd : findN fnsT qSig.n = some qSig.I := by kernel_rfl
theorem qflat.fd : findN fnsT qflat.n = some qflat.I := by kernel_rfl
theorem qType.fd : findN fnsT qType.n = some qType.I := by kernel_rfl
theorem qNone.fd : findN fnsT qNone.n = some qNone.I := by kernel_rfl
theorem qcut.fd : findN fnsT qcut.n = some qcut.I := by kernel_rfl
theorem qnamed.fd : findN fnsT qnamed.n = some qnamed.I := by kernel_rfl
theorem qpart.fd : findN fnsT qpart.n = some qpart.I := by kernel_rfl
theorem qvalue.fd : findN fnsT qvalue.n = some qvalue.I := by kernel_rfl
theorem qParams.fd : findN fnsT qParams.n = some qParams.I := by kernel_rfl
theorem qqualified.fd : findN fnsT qqualified.n = some qqualified.I := by kernel_rfl
theorem qarray.fd : findN fnsT qarray.n = some qarray.I := by kernel_rfl
theorem qitems.fd : findN fnsT qitems.n = some qitems.I := by kernel_rfl
theorem qentry.fd : findN fnsT qentry.n = some qentry.I := by kernel_rfl
theorem qgroup.fd : findN fnsT qgroup.n = some qgroup.I := by kernel_rfl
theorem qfield.fd : findN fnsT qfield.n = some qfield.I := by kernel_rfl
theorem qelement.fd : findN fnsT qelement.n = some qelement.I := by kernel_rfl
theorem qisNamed.fd : findN fnsT qisNamed.n = some qisNamed.I := by kernel_rfl
theorem qunion.fd : findN fnsT qunion.n = some qunion.I := by kernel_rfl
theorem qbehind.fd : findN fnsT qbehind.n = some qbehind.I := by kernel_rfl
theorem qDone.fd : findN fnsT qDone.n = some qDone.I := by kernel_rfl
theorem qNewReader.fd : findN fnsT qNewReader.n = some qNewReader.I := by kernel_rfl
theorem qParse.fd : findN fnsT qParse.n = some qParse.I := by kernel_rfl
theorem qPrec.fd : findN fnsT qPrec.n = some qPrec.I := by kernel_rfl
theorem sameNode.fd : findN fnsT sameNode.n = some sameNode.I := by kernel_rfl
theorem s1more.fd : findN fnsT s1more.n = some s1more.I := by kernel_rfl
theorem Width.fd : findN fnsT Width.n = some Width.I := by kernel_rfl
theorem s2cut.fd : findN fnsT s2cut.n = some s2cut.I := by kernel_rfl
theorem Signs.fd : findN fnsT Signs.n = some Signs.I := by kernel_rfl
theorem Keywords.fd : findN fnsT Keywords.n = some Keywords.I := by kernel_rfl
theorem Keyword.fd : findN fnsT Keyword.n = some Keyword.I := by kernel_rfl
theorem Operator.fd : findN fnsT Operator.n = some Operator.I := by kernel_rfl
theorem sEnds.fd : findN fnsT sEnds.n = some sEnds.I := by kernel_rfl
theorem sDigit.fd : findN fnsT sDigit.n = some sDigit.I := by kernel_rfl
theorem srow.fd : findN fnsT srow.n = some srow.I := by kernel_rfl
theorem Digits.fd : findN fnsT Digits.n = some Digits.I := by kernel_rfl
theorem number.fd : findN fnsT number.n = some number.I := by kernel_rfl
theorem UTF8.fd : findN fnsT UTF8.n = some UTF8.I := by kernel_rfl
theorem Escape.fd : findN fnsT Escape.n = some (Escape.I id) := by kernel_rfl
theorem Unquote.fd : findN fnsT Unquote.n = some Unquote.I := by kernel_rfl
theorem sChar.fd : findN fnsT sChar.n = some sChar.I := by kernel_rfl
theorem sRune.fd : findN fnsT sRune.n = some sRune.I := by kernel_rfl
theorem letter.fd : findN fnsT letter.n = some letter.I := by kernel_rfl
theorem digit.fd : findN fnsT digit.n = some digit.I := by kernel_rfl
theorem blank.fd : findN fnsT blank.n = some blank.I := by kernel_rfl
theorem sfind.fd : findN fnsT sfind.n = some sfind.I := by kernel_rfl
theorem quoted.fd : findN fnsT quoted.n = some quoted.I := by kernel_rfl
theorem said.fd : findN fnsT said.n = some said.I := by kernel_rfl
theorem sNext.fd : findN fnsT sNext.n = some sNext.I := by kernel_rfl
theorem stext.fd : findN fnsT stext.n = some stext.I := by kernel_rfl
theorem sother.fd : findN fnsT sother.n = some sother.I := by kernel_rfl
theorem sends.fd : findN fnsT sends.n = some sends.I := by kernel_rfl
theorem Bare.fd : findN fnsT Bare.n = some Bare.I := by kernel_rfl
theorem Scan.fd : findN fnsT Scan.n = some Scan.I := by kernel_rfl
theorem toks.fd : findN fnsT toks.n = some toks.I := by kernel_rfl
theorem ExprDeep.fd : findN fnsT ExprDeep.n = some ExprDeep.I := by kernel_rfl
end Go.AI
end
namespace Go.AI.Rd
def sg (t : Tok) : Bool := decide (10 ≤ t.k)
def sigs (l : List Tok) : List Tok := l.filter sg
def cutSig : List Tok → Option (List Tok × Tok × List Tok)
 | [] => none
 | t :: r => if sg t then some ([], t, r) else match cutSig r with | some (s, u, q) => some (t :: s, u, q) | none => none
def leaf (t : Tok) : Made := ⟨.mk t.k t.f t.t [], 0⟩
def triv (x : Made) : Bool := decide (Node.k x.n < 10)
structure A where
 pre : List Tok
 rest : List Tok
 row : List Made
 opn : Int
 dg : Option Diag
def high : List Made → Int → Int
 | [], h => h
 | x :: r, h => high r (max h (x.h + 1))
def nodeOf (kind h : Int) (kids : List Made) : Made :=
 ⟨.mk kind (match kids.head? with | some x => Node.f x.n | none => h) (match kids.getLast? with | some x => Node.t x.n | none => h) (kids.map (·.n)), high kids 1⟩
def namedF (n : Node) : Bool := decide (Node.k n = 201) || (decide (Node.k n = 207) && decide (Node.k ((Node.kids n).getD 0 (.mk 0 0 0 [])) = 201))
def literalF (n : Node) (head : Bool) : Bool :=
 if Node.k n = 220 ∨ Node.k n = 221 ∨ Node.k n = 222 ∨ Node.k n = 224 then true
 else if Node.k n = 208 then !head && namedF ((Node.kids n).getD 0 (.mk 0 0 0 []))
 else !head && namedF n
def part0 (n : Node) : Bool := match Node.kids n with | x :: _ => decide (200 ≤ Node.k x) | [] => false
def litOK (n : Node) : Bool :=
 (decide (Node.k n ≠ 207) || part0 n) &&
 (decide (Node.k n ≠ 208) || (part0 n && (let x := (Node.kids n).getD 0 (.mk 0 0 0 []); decide (Node.k x ≠ 207) || part0 x)))
namespace A
def kinds (a : A) : List Int := match a.dg with | some _ => [] | none => (sigs a.rest).map (·.k)
def here (a : A) : Int :=
 match a.pre.getLast? with
 | some t => t.t
 | none => match (sigs a.rest).head? with | some t => t.f | none => match a.rest.head? with | some t => t.f | none => 0
def dead (a : A) : Bool := a.dg.isSome
def take (a : A) : A :=
 match a.dg with
 | some _ => a
 | none => match cutSig a.rest with
  | none => a
  | some (s, t, r) => { a with pre := a.pre ++ (s ++ [t]), rest := r, row := a.row ++ (s ++ [t]).map leaf }
def fail (c : Int) (a : A) : A :=
 match a.dg with
 | some _ => a
 | none => { a with dg := some (match (sigs a.rest).head? with | some t => ⟨c, t.f, t.t⟩ | none => ⟨c, a.here, a.here⟩) }
def none_ (a : A) : A := match a.dg with | some _ => a | none => { a with row := a.row ++ [⟨.mk 200 a.here a.here [], 0⟩] }
def clamp (a : A) (m : Int) : Nat := (min (max m 0) (a.row.length : Int)).toNat
def closed (a : A) (m : Nat) (kind : Int) : Made := nodeOf kind a.here ((a.row.drop m).dropWhile triv)
def close (m kind : Int) (a : A) : A :=
 match a.dg with
 | some _ => a
 | none =>
  let k := a.clamp m
  let x := a.closed k kind
  let b : A := { a with row := a.row.take k ++ ((a.row.drop k).takeWhile triv ++ [x]) }
  if 100 < x.h then fail 202 b else b
def gapAt (a : A) (k : Nat) : Int :=
 match (a.row.take k).reverse.find? (fun x => !triv x) with
 | some x => Node.t x.n
 | none => match (a.row.drop k).find? (fun x => !triv x) with | some x => Node.f x.n | none => a.here
def gap (m : Int) (a : A) : A :=
 match a.dg with
 | some _ => a
 | none => let k := a.clamp m; { a with row := a.row.take k ++ (⟨.mk 200 (a.gapAt k) (a.gapAt k) [], 0⟩ :: a.row.drop k) }
def last (a : A) : Int := match a.dg with | some _ => 0 | none => match a.row.getLast? with | some x => Node.k x.n | none => 0
def down (a : A) : Bool × A :=
 match a.dg with
 | some _ => (false, a)
 | none => if a.opn = 100 then (false, fail 202 a) else (true, { a with opn := a.opn + 1 })
def up (a : A) : A := { a with opn := max (a.opn - 1) 0 }
def first (a : A) (m : Int) : Option Made := (a.row.drop m.toNat).find? (fun x => !triv x)
def lit (m : Int) (head : Bool) (a : A) : Bool := match a.first m with | some x => literalF x.n head | none => false
def litOK (m : Int) (a : A) : Bool := decide (0 ≤ m) && (match a.first m with | some x => Rd.litOK x.n | none => true)
end A
def entsOf : List Int → List Bool → List Ent
 | f :: t :: ms, b :: ns => ⟨f, t, b⟩ :: entsOf ms ns
 | _, _ => []
def entsOK (row : List Made) : Int → List Ent → Bool
 | m, [] => decide (m ≤ (row.length : Int))
 | m, e :: r => decide (m ≤ e.from_) && (decide (e.from_ ≤ e.to_) && (((row.take e.to_.toNat).drop e.from_.toNat).any (fun x => !triv x) && entsOK row e.to_ r))
def badEnts (a : A) : List Ent → Bool
 | [] => false
 | e :: r => (!e.named && (r.isEmpty || !(match a.first e.from_ with | some x => decide (Node.k x.n = 201) | none => false))) || badEnts a r
def backG (any : Bool) (t f : Int) : List Ent → List (Int × Int)
 | [] => [(f, t)]
 | x :: r => if any && !x.named then backG any t x.from_ r else (f, t) :: backG any x.to_ x.from_ r
def backGroups (any : Bool) : List Ent → List (Int × Int)
 | [] => []
 | e :: r => backG any e.to_ e.from_ r
namespace A
def names (l : List Ent) (a : A) : A := if badEnts a l then fail 201 a else a
def group1 (g : Int × Int) (a : A) : A :=
 let b := close g.1 233 { a with row := a.row.take g.2.toNat }
 { b with row := b.row ++ a.row.drop g.2.toNat }
def group (any : Bool) (l : List Ent) (a : A) : A := match a.dg with | some _ => a | none => (backGroups any l.reverse).foldl (fun b g => group1 g b) a
def room (a : A) : Bool := decide (a.row.length + a.rest.length + 8 < 4294967264)
end A
def precF (k : Int) : Int :=
 if k = 43 then 1 else if k = 42 then 2
 else if k = 46 ∨ k = 52 ∨ k = 47 ∨ k = 53 ∨ k = 48 ∨ k = 54 then 3
 else if k = 20 ∨ k = 21 ∨ k = 26 ∨ k = 27 then 4
 else if k = 22 ∨ k = 23 ∨ k = 24 ∨ k = 28 ∨ k = 29 ∨ k = 25 ∨ k = 30 then 5 else 0
def comesF (ks : List Int) (l : List Int) : Bool := decide (l.getD 0 0 ≠ 0) && ks.contains (l.getD 0 0)
def embF (l : List Int) : Bool := (decide (l.getD 1 0 = 15) || decide (l.getD 1 0 = 16) || decide (l.getD 1 0 = 64) || decide (l.getD 1 0 = 61)) && decide (l.getD 0 0 = 10)
def behindF : List Int → Int → Option Int
 | [], _ => none
 | k :: r, n => if k = 58 then behindF r (n + 1) else if k = 63 then (if n - 1 = 0 then some (r.getD 0 0) else behindF r (n - 1)) else behindF r n
def hasNameF (l : List Int) : Bool :=
 if l.getD 0 0 ≠ 10 then false
 else if l.getD 1 0 = 60 ∨ l.getD 1 0 = 62 ∨ l.getD 1 0 = 61 then false
 else if l.getD 1 0 = 58 then
  if l.getD 2 0 = 63 then true
  else match behindF (l.drop 1) 0 with
   | some x => decide (x ≠ 0) && (decide (x ≠ 60) && decide (x ≠ 62))
   | none => false
 else true
inductive Proc where
 | deeper (pr : Proc) | node (k : Int) (pr : Proc) | takeP | items (pr : Proc) | itemsL (pr : Proc)
 | X (head : Bool) | X1 (head : Bool) | binary (q : Int) (head : Bool) | binaryL (q : Int) (head : Bool)
 | unary (head : Bool) | unary1 (head : Bool) | primary (head : Bool) | primaryL (head : Bool)
 | period | index | unless (ks : List Int) | indexL | arguments | argsL | value | value1 | values | valuesL | operand | flat | flatL (n : Int)
 | Name | List (head : Bool) | List1 (head : Bool) | ListL (head : Bool) | Type | form | formL | elements | qualified | field | fieldL | element | union | unionL (more : Bool)
 | Sig | Sig1 | Params | Params1 | ParamsL (ns : List Bool) | entry | entry1 | TParams | TParams1 | TParamsL (more : Bool) | TParams11 | TParams11L
inductive M where
 | ret (v : Int)
 | look (f : List Int → Int) (k : Int → M)
 | lookB (f : List Int → Bool) (k : Bool → M)
 | dead (k : Bool → M)
 | take (k : M)
 | none_ (k : M)
 | mark (k : M)
 | close (h : Nat) (kind : Int) (k : M)
 | gap (h : Nat) (k : M)
 | last (k : Int → M)
 | down (k : Bool → M)
 | up (k : M)
 | fail (c : Int) (k : M)
 | lit (h : Nat) (head : Bool) (k : Bool → M)
 | names (ns : List Bool) (k : M)
 | group (ns : List Bool) (any : Bool) (k : M)
 | call (pr : Proc) (hs : List Nat) (k : Int → M)
def kind (k : Int → M) : M := .look (fun l => l.getD 0 0) k
def comes (ks : List Int) (k : Bool → M) : M := .lookB (comesF ks) k
def taken (ks : List Int) (k : Bool → M) : M := comes ks fun b => if b then .take (k true) else k false
def expect (c : Int) (k : M) : M := kind fun x => if x = c then .take k else .fail 201 k
def go (pr : Proc) (k : M) : M := .call pr [] fun _ => k
def done : M := .ret 0
def itemsM (pr : Proc) : M := .dead fun d => if d then expect 64 done else comes [64] fun b => if b then expect 64 done else
 go pr (taken [15, 16] fun t => if t then .call (.itemsL pr) [] .ret else expect 64 done)
def unaryM (head : Bool) (kd : Int) : M := .mark (.take (go (.deeper (.unary1 head)) (.close 0 kd done)))
def primM (head : Bool) : M := .call (.primaryL head) [0] .ret
def valuesM : M := taken [60] fun u => if u then .call .valuesL [] .ret else expect 64 done
def elemsM : M := expect 63 (go .Type (.ret 221))
def entryM (r : Int) : M := comes [56] fun c => if c then go (.node 234 .entry1) (.ret r) else go .Type (.ret r)
def groupM (ns : List Bool) : M := if ns.any id then .names ns (.group ns true (expect 62 done)) else .group ns false (expect 62 done)
def body : Proc → M
 | .deeper pr => .down fun b => if b then go pr (.up done) else done
 | .node kd pr => .mark (go pr (.close 0 kd done))
 | .takeP => .take done
 | .items pr => expect 59 (.call (.itemsL pr) [] .ret)
 | .itemsL pr => itemsM pr
 | .X head => go (.deeper (.X1 head)) done
 | .X1 head => go (.binary 1 head) done
 | .binary q head => .mark (go (.unary head) (.call (.binaryL q head) [0] .ret))
 | .binaryL q head => .look (fun l => precF (l.getD 0 0)) fun x =>
   if 0 < x then (if q ≤ x then .take (go (.binary (x + 1) head) (.close 0 206 (.call (.binaryL q head) [0] .ret))) else done) else done
 | .unary head => kind fun x =>
   if x = 20 ∨ x = 21 ∨ x = 50 ∨ x = 27 ∨ x = 25 then unaryM head 204
   else if x = 22 then unaryM head 205 else go (.primary head) done
 | .unary1 head => go (.unary head) done
 | .primary head => .mark (go .operand (primM head))
 | .primaryL head => kind fun x =>
   if x = 61 then .take (.call .period [] fun kd => .close 0 kd (primM head))
   else if x = 58 then .take (.call .index [] fun kd => .close 0 kd (primM head))
   else if x = 57 then .take (go .arguments (.close 0 210 (primM head)))
   else if x = 59 then .lit 0 head fun b => if b then go .values (.close 0 213 (primM head)) else done
   else done
 | .period => kind fun x =>
   if x = 10 then go .Name (.ret 207)
   else expect 57 (taken [89] fun t => if t then expect 62 (.ret 212) else go .Type (expect 62 (.ret 211)))
 | .index => go (.unless [65]) (taken [65] fun t =>
   if t then .call (.unless [65, 63]) [] fun n => comes [65] fun c =>
    if c then (if n ≠ 0 then .fail 201 (.take (go (.X false) (expect 63 (.ret 209)))) else .take (go (.X false) (expect 63 (.ret 209))))
    else expect 63 (.ret 209)
   else .call .indexL [] .ret)
 | .unless ks => comes ks fun b => if b then .none_ (.ret 1) else go (.X false) done
 | .indexL => taken [60] fun t =>
   if t then comes [63] fun b => if b then .call .indexL [] .ret else go (.X false) (.call .indexL [] .ret)
   else expect 63 (.ret 208)
 | .arguments => .call .argsL [] .ret
 | .argsL => .dead fun d => if d then expect 62 done else comes [62] fun b => if b then expect 62 done else
   go (.X false) (taken [56] fun t => if t then taken [60] fun _ => expect 62 done else taken [60] fun u => if u then .call .argsL [] .ret else expect 62 done)
 | .value => kind fun x => if x = 59 then go (.deeper .value1) done else go (.X false) done
 | .value1 => go (.node 214 .values) done
 | .values => expect 59 (.call .valuesL [] .ret)
 | .valuesL => .dead fun d => if d then expect 64 done else comes [64] fun b => if b then expect 64 done else
   .mark (go .value (taken [65] fun t => if t then go .value (.close 0 215 valuesM) else valuesM))
 | .operand => .mark (kind fun x =>
   if x = 10 then go .Name done
   else if x = 11 ∨ x = 12 ∨ x = 13 ∨ x = 14 then go (.node 202 .takeP) done
   else if x = 57 then .take (go (.X false) (expect 62 (.close 0 203 done)))
   else if x = 79 then .take (go .Sig (comes [59] fun b => if b then go (.node 217 .flat) (.close 0 216 done) else .close 0 223 done))
   else if x = 58 ∨ x = 83 ∨ x = 87 ∨ x = 82 then go .Type done
   else .fail 201 done)
 | .flat => .call (.flatL 0) [] .ret
 | .flatL n => kind fun x =>
   if x = 0 then .fail 201 done
   else .take (let m := if x = 59 then n + 1 else if x = 64 then n - 1 else n
    if m = 0 then done else .call (.flatL m) [] .ret)
 | .Name => kind fun x => if x = 10 then go (.node 201 .takeP) done else .fail 201 done
 | .List head => go (.node 246 (.List1 head)) done
 | .List1 head => go (.X head) (.call (.ListL head) [] .ret)
 | .ListL head => taken [60] fun t => if t then go (.X head) (.call (.ListL head) [] .ret) else done
 | .Type => go (.deeper .form) done
 | .form => .mark (kind fun x =>
   if x = 10 then go .qualified (taken [58] fun t => if t then go .Type (.call .formL [0] .ret) else done)
   else if x = 57 then .take (go .Type (expect 62 (.close 0 203 done)))
   else if x = 22 then .take (go .Type (.close 0 205 done))
   else if x = 79 then .take (go .Sig (.close 0 223 done))
   else if x = 58 then .take (.call .elements [] fun kd => .close 0 kd done)
   else if x = 83 then .take (expect 58 (go .Type (expect 63 (go .Type (.close 0 222 done)))))
   else if x = 87 then .take (go (.items .field) (.close 0 224 done))
   else if x = 82 then .take (go (.items .element) (.close 0 227 done))
   else .fail 201 done)
 | .formL => taken [60] fun t =>
   if t then comes [63] fun b => if b then .call .formL [0] .ret else go .Type (.call .formL [0] .ret)
   else expect 63 (.close 0 208 done)
 | .elements => taken [63] fun t =>
   if t then go .Type (.ret 220)
   else comes [56] fun b => if b then go (.node 218 .takeP) elemsM else go (.X false) elemsM
 | .qualified => .mark (go .Name (taken [61] fun t => if t then go .Name (.close 0 207 done) else done))
 | .field => .mark (comes [22] fun b =>
   if b then .take (go .qualified (.close 0 205 (.close 0 226 done)))
   else .lookB embF fun e => if e then go .qualified (.close 0 226 done) else go .Name (.call .fieldL [0] .ret))
 | .fieldL => taken [60] fun t => if t then go .Name (.call .fieldL [0] .ret) else go .Type (.close 0 225 done)
 | .element => .mark (.lookB (fun l => decide (l.getD 0 0 = 10) && decide (l.getD 1 0 = 57)) fun b =>
   if b then go .Name (go .Sig (.close 0 228 done)) else go .union (.close 0 229 done))
 | .union => .call (.unionL false) [] .ret
 | .unionL more => .mark (taken [51] fun t =>
   if t then go .Type (.close 0 230 (taken [26] fun u => if u then .call (.unionL true) [] .ret else .ret 1))
   else go .Type (taken [26] fun u => if u then .call (.unionL true) [] .ret else .ret (if more then 1 else 0)))
 | .Sig => go (.node 231 .Sig1) done
 | .Sig1 => go .Params (kind fun x =>
   if x = 57 then go .Params done
   else if x = 10 ∨ x = 22 ∨ x = 58 ∨ x = 83 ∨ x = 87 ∨ x = 82 ∨ x = 79 then go .Type done
   else .none_ done)
 | .Params => go (.node 232 .Params1) done
 | .Params1 => expect 57 (.call (.ParamsL []) [] .ret)
 | .ParamsL ns => .dead fun d => if d then groupM ns else comes [62] fun b => if b then groupM ns else
   .mark (.call .entry [] fun r => .mark (taken [60] fun t =>
    if t then .call (.ParamsL (ns ++ [decide (r ≠ 0)])) (List.range (2 * ns.length + 2)) .ret else groupM (ns ++ [decide (r ≠ 0)])))
 | .entry => .lookB hasNameF fun b => if b then go .Name (entryM 1) else entryM 0
 | .entry1 => .take (go .Type done)
 | .TParams => go (.node 264 .TParams1) done
 | .TParams1 => expect 58 (.call (.TParamsL true) [] .ret)
 | .TParamsL more => if more then .dead fun d => if d then expect 63 done else
   go (.node 233 .TParams11) (taken [60] fun t => if t then comes [63] fun b => .call (.TParamsL (!b)) [] .ret else .call (.TParamsL false) [] .ret)
   else expect 63 done
 | .TParams11 => go .Name (.call .TParams11L [] .ret)
 | .TParams11L => taken [60] fun t => if t then go .Name (.call .TParams11L [] .ret)
   else .mark (.call .union [] fun r => if r ≠ 0 then .close 0 229 done else done)
def runM (cf : Proc → A → List Int → Option (Int × A)) : M → A → List Int → Option (Int × A)
 | .ret v, a, _ => some (v, a)
 | .look f k, a, ms => runM cf (k (f a.kinds)) a ms
 | .lookB f k, a, ms => runM cf (k (f a.kinds)) a ms
 | .dead k, a, ms => runM cf (k a.dead) a ms
 | .take k, a, ms => if a.room then runM cf k a.take ms else none
 | .none_ k, a, ms => if a.room then runM cf k a.none_ ms else none
 | .mark k, a, ms => if a.dead || decide (ms.length < 4294967264) then runM cf k a (ms ++ [(a.row.length : Int)]) else none
 | .close h kind k, a, ms => if a.room then runM cf k (a.close (ms.getD h 0) kind) ms else none
 | .gap h k, a, ms => if a.room then runM cf k (a.gap (ms.getD h 0)) ms else none
 | .last k, a, ms => runM cf (k a.last) a ms
 | .down k, a, ms => runM cf (k a.down.1) a.down.2 ms
 | .up k, a, ms => runM cf k a.up ms
 | .fail c k, a, ms => runM cf k (a.fail c) ms
 | .lit h head k, a, ms => if a.dead || a.litOK (ms.getD h 0) then runM cf (k (a.lit (ms.getD h 0) head)) a ms else none
 | .names ns k, a, ms => if a.dead || (decide (ns.length < 4294967264) && entsOK a.row 0 (entsOf ms ns)) then runM cf k (a.names (entsOf ms ns)) ms else none
 | .group ns any k, a, ms => if a.dead || (decide (ns.length < 4294967264) && (a.room && entsOK a.row 0 (entsOf ms ns))) then runM cf k (a.group any (entsOf ms ns)) ms else none
 | .call pr hs k, a, ms => match cf pr a (hs.map fun h => ms.getD h 0) with | some (r, b) => runM cf (k r) b ms | none => none
def callN : Nat → Proc → A → List Int → Option (Int × A)
 | 0, _, _, _ => none
 | n + 1, pr, a, ms => runM (callN n) (body pr) a ms
end Go.AI.Rd
namespace Go.AI.Rd
noncomputable abbrev W : Call1 := Wc T0 fnsT
theorem fx {τ : STy} {f : Nat} {fi : FnI} (hf : findN fnsT f = some fi) {args : List AV} {p : τ.T} {r : AV × τ.T} (lim : Nat) (h : evalBody T0 W τ lim fi args p = some r) : W τ f args p = some r := Wc_fix hf lim h
theorem wi (n : Int) (h : -9223372036854775808 ≤ n) (h' : n ≤ 9223372036854775807) : IntKind.i64.wrap n = n := IntWalk.i64_in n ⟨h, h'⟩
section
variable {τ : STy} {f : Nat} {args : List AV} {p q : τ.T} {R : Type}
theorem cX_u {a : AV} {K : Unit → τ.T → Option R} (h : W τ f args p = some (a, q)) : cX W .u τ f args p K = K () q := by
 unfold cX; rw [h]; rfl
theorem cX_i {x : Int} {K : Int → τ.T → Option R} (h : W τ f args p = some (.int x, q)) : cX W .i τ f args p K = K x q := by
 unfold cX; rw [h]; rfl
theorem cX_b {x : Bool} {K : Bool → τ.T → Option R} (h : W τ f args p = some (.bool x, q)) : cX W .b τ f args p K = K x q := by
 unfold cX; rw [h]; rfl
theorem cX_ent {x y : Int} {b : Bool} {K : Ent → τ.T → Option R} (h : W τ f args p = some (.agg [.int x, .int y, .bool b], q)) : cX W (.e .ent) τ f args p K = K ⟨x, y, b⟩ q := by
 unfold cX; rw [h]; rfl
end
def sigIx : Int → List Tok → List Int
 | _, [] => []
 | i, t :: r => if sg t then i :: sigIx (i + 1) r else sigIx (i + 1) r
def toP (a : A) : PS :=
 { l := a.pre ++ a.rest, sig := sigIx 0 (a.pre ++ a.rest), next := (sigs a.pre).length, read := a.pre.length, row := a.row, opn := a.opn, dc := (match a.dg with | some d => d.c | none => 0), df := (match a.dg with | some d => d.f | none => 0), dt := (match a.dg with | some d => d.t | none => 0), failed := a.dead }
structure A.ok (a : A) : Prop where
 pre : ∀ t, a.pre.getLast? = some t → sg t = true
 len : a.pre.length + a.rest.length < 1099511627776
 opn : 0 ≤ a.opn ∧ a.opn ≤ 100
 high : ∀ x ∈ a.row, 0 ≤ x.h ∧ x.h ≤ 101
 row : a.row.length < 4294967296
theorem sigs_le (l : List Tok) : (sigs l).length ≤ l.length := List.length_filter_le _ _
theorem sigs_append (l m : List Tok) : sigs (l ++ m) = sigs l ++ sigs m := List.filter_append ..
theorem sigIx_append (i : Int) (l m : List Tok) : sigIx i (l ++ m) = sigIx i l ++ sigIx (i + l.length) m := by
 induction l generalizing i with
 | nil => simp [sigIx]
 | cons t r ih =>
  simp only [List.cons_append, sigIx, List.length_cons, Int.natCast_add]
  rw [ih]
  have : i + 1 + (r.length : Int) = i + ((r.length : Int) + ((1 : Nat) : Int)) := by omega
  rw [this]
  split <;> rfl
theorem sigIx_length (i : Int) (l : List Tok) : (sigIx i l).length = (sigs l).length := by
 induction l generalizing i with
 | nil => rfl
 | cons t r ih =>
  simp only [sigIx, sigs, List.filter_cons]
  split
  ·simp only [List.length_cons]; rw [ih]; rfl
  ·rw [ih]; rfl
theorem sigIx_get (i : Int) (l : List Tok) (n : Nat) (hn : n < (sigs l).length) (d : Tok) : i ≤ (sigIx i l).getD n 0 ∧ (sigIx i l).getD n 0 < i + l.length ∧ l.getD ((sigIx i l).getD n 0 - i).toNat d = (sigs l).getD n d := by
 induction l generalizing i n with
 | nil => simp [sigs] at hn
 | cons t r ih =>
  by_cases ht : sg t = true
  ·have hs : sigs (t :: r) = t :: sigs r := by simp [sigs, List.filter_cons, ht]
   rw [hs] at hn ⊢
   have hx : sigIx i (t :: r) = i :: sigIx (i + 1) r := by simp [sigIx, ht]
   rw [hx]
   cases n with
   | zero => simp only [List.getD_cons_zero, List.length_cons]; refine ⟨by omega, by omega, ?_⟩; simp
   | succ n =>
    simp only [List.getD_cons_succ, List.length_cons] at hn ⊢
    obtain ⟨h1, h2, h3⟩ := ih (i + 1) n (by omega)
    refine ⟨by omega, by omega, ?_⟩
    rw [show ((sigIx (i + 1) r).getD n 0 - i).toNat = ((sigIx (i + 1) r).getD n 0 - (i + 1)).toNat + 1 by omega, List.getD_cons_succ]
    exact h3
  ·have hs : sigs (t :: r) = sigs r := by simp [sigs, List.filter_cons, ht]
   rw [hs] at hn ⊢
   have hx : sigIx i (t :: r) = sigIx (i + 1) r := by simp [sigIx, ht]
   rw [hx]
   obtain ⟨h1, h2, h3⟩ := ih (i + 1) n hn
   simp only [List.length_cons]
   refine ⟨by omega, by omega, ?_⟩
   rw [show ((sigIx (i + 1) r).getD n 0 - i).toNat = ((sigIx (i + 1) r).getD n 0 - (i + 1)).toNat + 1 by omega, List.getD_cons_succ]
   exact h3
theorem getD_app_left {α : Type} (l m : List α) (n : Nat) (d : α) (h : n < l.length) : (l ++ m).getD n d = l.getD n d := by
 simp [List.getD_eq_getElem?_getD, List.getElem?_append_left h]
theorem getD_app_right {α : Type} (l m : List α) (n : Nat) (d : α) (h : l.length ≤ n) : (l ++ m).getD n d = m.getD (n - l.length) d := by
 simp [List.getD_eq_getElem?_getD, List.getElem?_append_right h]
theorem sig_at (pre rest : List Tok) (n : Nat) (hn : n < (sigs rest).length) (d : Tok) :
  0 ≤ (sigIx 0 (pre ++ rest)).getD ((sigs pre).length + n) 0 ∧ (sigIx 0 (pre ++ rest)).getD ((sigs pre).length + n) 0 < ((pre ++ rest).length : Int) ∧
  (pre ++ rest).getD ((sigIx 0 (pre ++ rest)).getD ((sigs pre).length + n) 0).toNat d = (sigs rest).getD n d := by
 rw [sigIx_append]
 have hl : (sigIx 0 pre).length = (sigs pre).length := sigIx_length 0 pre
 rw [getD_app_right _ _ _ _ (by omega), hl, Nat.add_sub_cancel_left]
 obtain ⟨h1, h2, h3⟩ := sigIx_get (0 + (pre.length : Int)) rest n hn d
 rw [List.length_append]
 refine ⟨by omega, by omega, ?_⟩
 rw [getD_app_right _ _ _ _ (by omega), ← h3]
 congr 1
 omega
theorem sigs_snoc {l : List Tok} {t : Tok} (h : l.getLast? = some t) (ht : sg t = true) : ∃ m, sigs l = m ++ [t] := by
 obtain ⟨k, rfl⟩ := List.getLast?_eq_some_iff.1 h
 exact ⟨sigs k, by simp [sigs_append, sigs, ht]⟩
theorem sig_last {pre rest : List Tok} {t : Tok} (h : pre.getLast? = some t) (ht : sg t = true) (d : Tok) :
  0 < (sigs pre).length ∧ (sigIx 0 (pre ++ rest)).getD ((sigs pre).length - 1) 0 = (pre.length : Int) - 1 ∧ 0 < pre.length ∧ (pre ++ rest).getD (pre.length - 1) d = t := by
 obtain ⟨k, rfl⟩ := List.getLast?_eq_some_iff.1 h
 have hs : sigs (k ++ [t]) = sigs k ++ [t] := by simp [sigs_append, sigs, ht]
 have hl : (sigIx 0 k).length = (sigs k).length := sigIx_length 0 k
 rw [hs]
 refine ⟨by simp, ?_, by simp, ?_⟩
 ·rw [sigIx_append, sigIx_append, List.length_append]
  rw [getD_app_left _ _ _ _ (by simp [sigIx, ht]; omega), getD_app_right _ _ _ _ (by simp; omega)]
  simp [sigIx, ht, hl]
 ·simp [List.getD_eq_getElem?_getD]
section
variable {a : A}
theorem sigs_nil_of_not {l : List Tok} (h : ∀ t, l.getLast? = some t → sg t = true) (hs : (sigs l).length = 0) : l = [] := by
 cases hl : l.getLast? with
 | none => exact List.getLast?_eq_none_iff.1 hl
 | some t =>
  obtain ⟨m, hm⟩ := sigs_snoc hl (h t hl)
  rw [hm] at hs; simp at hs
theorem kinds_dead (h : a.dead = true) : a.kinds = [] := by
 unfold A.dead at h; unfold A.kinds
 cases hd : a.dg with
 | none => rw [hd] at h; cases h
 | some d => rfl
theorem kinds_live (h : a.dead = false) : a.kinds = (sigs a.rest).map (·.k) := by
 unfold A.dead at h; unfold A.kinds
 cases hd : a.dg with
 | some d => rw [hd] at h; cases h
 | none => rfl
theorem dg_live (h : a.dead = false) : a.dg = none := by
 unfold A.dead at h
 cases hd : a.dg with
 | some d => rw [hd] at h; cases h
 | none => rfl
theorem W_Ahead (h : a.ok) (n : Int) : W .prog Ahead.n [.rdr 0, .int n] (toP a) = some (.int (if n < 0 then 0 else a.kinds.getD n.toNat 0), toP a) := by
 refine fx Ahead.fd 0 ?_
 rw [Ahead_eq]
 have hl := h.len
 have hs := sigs_le a.rest
 have hp := sigs_le a.pre
 by_cases hd : a.dead = true
 ·rw [if_pos (by exact hd), kinds_dead hd]; simp
 have hd : a.dead = false := by simpa using hd
 rw [if_neg (by show ¬ a.dead = true; rw [hd]; decide), kinds_live hd]
 by_cases hn : n < 0
 ·rw [if_pos (by simpa using hn), if_pos hn]
 rw [if_neg (by simpa using hn), if_neg hn]
 have e1 : (((toP a).sig).length : Int) = (sigs a.pre).length + (sigs a.rest).length := by
  show ((sigIx 0 (a.pre ++ a.rest)).length : Int) = _
  rw [sigIx_length, sigs_append, List.length_append]; omega
 have e2 : (toP a).next = (sigs a.pre).length := rfl
 rw [e1, e2, wi _ (by omega) (by omega)]
 by_cases hc : (sigs a.rest).length ≤ n.toNat
 ·rw [if_pos (by simp; omega)]
  rw [List.getD_eq_getElem?_getD, List.getElem?_eq_none (by simpa using hc)]; rfl
 rw [if_neg (by simp; omega)]
 obtain ⟨h1, h2, h3⟩ := sig_at a.pre a.rest n.toNat (by omega) ⟨0, 0, 0⟩
 rw [wi _ (by omega) (by omega), if_pos (by omega), if_pos (by omega)]
 have e3 : (((sigs a.pre).length : Int) + n).toNat = (sigs a.pre).length + n.toNat := by omega
 rw [e3]
 show (if 0 ≤ List.getD (sigIx 0 (a.pre ++ a.rest)) _ 0 then _ else none) = _
 rw [if_pos h1]
 show (if List.getD (sigIx 0 (a.pre ++ a.rest)) _ 0 < ((a.pre ++ a.rest).length : Int) then _ else none) = _
 rw [if_pos h2]
 show some (AV.int (Tok.k (List.getD (a.pre ++ a.rest) (List.getD (sigIx 0 (a.pre ++ a.rest)) _ 0).toNat _)), _) = _
 rw [h3, List.getD_eq_getElem?_getD, List.getD_eq_getElem?_getD, List.getElem?_map]
 cases (sigs a.rest)[n.toNat]? <;> rfl
theorem W_Kind (h : a.ok) : W .prog Kind.n [.rdr 0] (toP a) = some (.int (a.kinds.getD 0 0), toP a) := by
 refine fx Kind.fd 0 ?_
 rw [Kind_eq, cX_i (W_Ahead h 0)]; rfl
theorem W_here (h : a.ok) : W .prog here.n [.rdr 0] (toP a) = some (.int a.here, toP a) := by
 refine fx here.fd 0 ?_
 rw [here_eq]
 have hl := h.len
 have hs := sigs_le a.rest
 have hp := sigs_le a.pre
 have e2 : (toP a).next = (sigs a.pre).length := rfl
 have e1 : (((toP a).sig).length : Int) = (sigs a.pre).length + (sigs a.rest).length := by
  show ((sigIx 0 (a.pre ++ a.rest)).length : Int) = _
  rw [sigIx_length, sigs_append, List.length_append]; omega
 have e4 : (toP a).sig = sigIx 0 (a.pre ++ a.rest) := rfl
 have e5 : (toP a).l = a.pre ++ a.rest := rfl
 rw [e2, e1, e4, e5]
 unfold A.here
 cases hg : a.pre.getLast? with
 | some t =>
  obtain ⟨q1, q2, q3, q4⟩ := sig_last (rest := a.rest) hg (h.pre t hg) ⟨0, 0, 0⟩
  rw [if_pos (by simp; omega), wi _ (by omega) (by omega), if_pos (by omega), if_pos (by omega)]
  have e3 : (((sigs a.pre).length : Int) - 1).toNat = (sigs a.pre).length - 1 := by omega
  rw [e3, q2, if_pos (by omega), if_pos (by rw [List.length_append]; omega)]
  have e6 : ((a.pre.length : Int) - 1).toNat = a.pre.length - 1 := by omega
  rw [e6, q4]
 | none =>
  have hpn : a.pre = [] := List.getLast?_eq_none_iff.1 hg
  have hps : sigs a.pre = [] := by rw [hpn]; rfl
  have hsl : (sigs a.pre).length = 0 := by rw [hps]; rfl
  rw [if_neg (by simp [hsl])]
  by_cases hr : 0 < (sigs a.rest).length
  ·rw [if_pos (by simp; omega), if_pos (by omega), if_pos (by omega)]
   obtain ⟨q1, q2, q3⟩ := sig_at a.pre a.rest 0 hr ⟨0, 0, 0⟩
   rw [hsl] at q1 q2 q3
   show (if 0 ≤ List.getD (sigIx 0 (a.pre ++ a.rest)) 0 0 then _ else none) = _
   rw [if_pos q1]
   show (if List.getD (sigIx 0 (a.pre ++ a.rest)) 0 0 < _ then _ else none) = _
   rw [if_pos q2]
   show some (AV.int (Tok.f (List.getD (a.pre ++ a.rest) (List.getD (sigIx 0 (a.pre ++ a.rest)) (0 + 0) 0).toNat _)), _) = _
   rw [q3]
   cases hf : sigs a.rest with
   | nil => rw [hf] at hr; simp at hr
   | cons x y => rfl
  ·have hr' : sigs a.rest = [] := List.length_eq_zero_iff.1 (by omega)
   rw [if_neg (by simp; omega)]
   simp only [hr', hpn]
   cases hh : a.rest with
   | nil => simp
   | cons x y => simp
theorem W_Mark : W .prog Mark.n [.rdr 0] (toP a) = some (.int a.row.length, toP a) := by
 refine fx Mark.fd 0 ?_
 rw [Mark_eq]; rfl
theorem toP_dead (d : Diag) (hd : a.dg = some d) : (toP a).failed = true := by show a.dead = true; unfold A.dead; rw [hd]; rfl
theorem W_Fail (h : a.ok) (c : Int) : W .prog Fail.n [.rdr 0, .int c] (toP a) = some (.undef, toP (a.fail c)) := by
 refine fx Fail.fd 0 ?_
 rw [Fail_eq]
 cases hd : a.dg with
 | some d => rw [if_pos (toP_dead d hd)]; unfold A.fail; rw [hd]
 | none =>
  have hd' : a.dead = false := by unfold A.dead; rw [hd]; rfl
  rw [if_neg (by show ¬ a.dead = true; rw [hd']; decide), cX_i (W_here h)]
  have hl := h.len
  have hs := sigs_le a.rest
  have hp := sigs_le a.pre
  have e2 : (toP a).next = (sigs a.pre).length := rfl
  have e1 : (((toP a).sig).length : Int) = (sigs a.pre).length + (sigs a.rest).length := by
   show ((sigIx 0 (a.pre ++ a.rest)).length : Int) = _
   rw [sigIx_length, sigs_append, List.length_append]; omega
  have e4 : (toP a).sig = sigIx 0 (a.pre ++ a.rest) := rfl
  have e5 : (toP a).l = a.pre ++ a.rest := rfl
  rw [e1, e2, e4, e5]
  by_cases hr : 0 < (sigs a.rest).length
  ·obtain ⟨q1, q2, q3⟩ := sig_at a.pre a.rest 0 hr ⟨0, 0, 0⟩
   rw [Nat.add_zero] at q1 q2 q3
   rw [if_pos (by simp; omega), if_pos (by omega), if_pos (by omega), Int.toNat_natCast, if_pos q1, if_pos q2]
   unfold A.fail; rw [hd]
   simp only
   rw [q3]
   cases hf : sigs a.rest with
   | nil => rw [hf] at hr; simp at hr
   | cons x y => simp [toP, A.dead]
  ·rw [if_neg (by simp; omega)]
   have hr' : sigs a.rest = [] := List.length_eq_zero_iff.1 (by omega)
   unfold A.fail; rw [hd, hr']
   simp [toP, A.dead]
end
end Go.AI.Rd
namespace Go.AI.Rd
theorem Node.eta (n : Node) : Node.mk (Node.k n) (Node.f n) (Node.t n) (Node.kids n) = n := by cases n; rfl
theorem cutSig_some : ∀ {l s : List Tok} {t : Tok} {r : List Tok}, cutSig l = some (s, t, r) → l = s ++ t :: r ∧ sigs s = [] ∧ sg t = true
 | [], s, t, r, h => by simp [cutSig] at h
 | x :: l, s, t, r, h => by
  unfold cutSig at h
  split at h
  ·rename_i hx; simp only [Option.some.injEq, Prod.mk.injEq] at h; obtain ⟨rfl, rfl, rfl⟩ := h; exact ⟨rfl, rfl, hx⟩
  ·rename_i hx
   split at h
   ·rename_i s' u q hc
    simp only [Option.some.injEq, Prod.mk.injEq] at h; obtain ⟨rfl, rfl, rfl⟩ := h
    obtain ⟨h1, h2, h3⟩ := cutSig_some hc
    refine ⟨by rw [h1]; rfl, ?_, h3⟩
    unfold sigs at h2 ⊢
    rw [List.filter_cons, if_neg hx]; exact h2
   ·cases h
theorem cutSig_none : ∀ {l : List Tok}, cutSig l = none → sigs l = []
 | [], _ => rfl
 | x :: l, h => by
  unfold cutSig at h
  split at h
  ·cases h
  ·rename_i hx
   split at h
   ·cases h
   ·rename_i hc
    have := cutSig_none hc
    unfold sigs at this ⊢
    rw [List.filter_cons, if_neg hx]; exact this
theorem cutSig_sigs {l s : List Tok} {t : Tok} {r : List Tok} (h : cutSig l = some (s, t, r)) : sigs l = t :: sigs r := by
 obtain ⟨h1, h2, h3⟩ := cutSig_some h
 rw [h1, sigs_append, h2]
 simp [sigs, h3]
theorem sg_ge {t : Tok} (h : sg t = true) : 10 ≤ t.k := of_decide_eq_true h
theorem sigs_sg {l : List Tok} {t : Tok} (h : t ∈ sigs l) : sg t = true := (List.mem_filter.1 h).2
theorem high_ge (l : List Made) (h : Int) : h ≤ high l h := by
 induction l generalizing h with
 | nil => exact Int.le_refl _
 | cons x r ih => exact Int.le_trans (Int.le_max_left _ _) (ih _)
theorem high_le (l : List Made) (h b : Int) (hb : h ≤ b) (hl : ∀ x ∈ l, x.h + 1 ≤ b) : high l h ≤ b := by
 induction l generalizing h with
 | nil => exact hb
 | cons x r ih => exact ih _ (Int.max_le.2 ⟨hb, hl x (by simp)⟩) (fun y hy => hl y (by simp [hy]))
section
variable {a : A}
theorem fail_dg (c : Int) : (a.fail c).pre = a.pre ∧ (a.fail c).rest = a.rest ∧ (a.fail c).row = a.row ∧ (a.fail c).opn = a.opn := by
 unfold A.fail; split <;> exact ⟨rfl, rfl, rfl, rfl⟩
theorem ok_fail (h : a.ok) (c : Int) : (a.fail c).ok := by
 obtain ⟨h1, h2, h3, h4⟩ := fail_dg (a := a) c
 exact ⟨by rw [h1]; exact h.pre, by rw [h1, h2]; exact h.len, by rw [h4]; exact h.opn, by rw [h3]; exact h.high, by rw [h3]; exact h.row⟩
theorem room_iff : a.room = true ↔ a.row.length + a.rest.length + 8 < 4294967264 := by unfold A.room; exact decide_eq_true_iff
theorem ok_take (h : a.ok) (hr : a.room = true) : a.take.ok := by
 unfold A.take
 split
 ·exact h
 ·split
  ·exact h
  ·rename_i s t r hc
   obtain ⟨h1, h2, h3⟩ := cutSig_some hc
   have hl := h.len
   have hl2 : a.rest.length = s.length + 1 + r.length := by rw [h1]; simp; omega
   rw [room_iff] at hr
   refine ⟨fun u hu => ?_, ?_, h.opn, fun x hx => ?_, ?_⟩
   ·rw [← List.append_assoc] at hu; simp at hu; rw [← hu]; exact h3
   ·simp; omega
   ·simp only [List.mem_append, List.mem_map] at hx
    rcases hx with hx | ⟨y, _, rfl⟩
    ·exact h.high x hx
    ·simp [leaf]
   ·simp; omega
theorem ok_none (h : a.ok) (hr : a.room = true) : a.none_.ok := by
 rw [room_iff] at hr
 unfold A.none_; split
 ·exact h
 ·refine ⟨h.pre, h.len, h.opn, fun x hx => ?_, by simp; omega⟩
  simp only [List.mem_append, List.mem_singleton] at hx
  rcases hx with hx | rfl
  ·exact h.high x hx
  ·exact ⟨Int.le_refl 0, (by decide : (0 : Int) ≤ 101)⟩
theorem clamp_le (m : Int) : a.clamp m ≤ a.row.length := by unfold A.clamp; omega
theorem closed_high (k : Nat) (kind : Int) (h : a.ok) (hd : ∀ x ∈ a.row, x.h ≤ 100) : 1 ≤ (a.closed k kind).h ∧ (a.closed k kind).h ≤ 101 := by
 refine ⟨high_ge _ _, high_le _ _ _ (by decide) fun x hx => ?_⟩
 have := hd x (List.mem_of_mem_drop (List.IsSuffix.subset (List.dropWhile_suffix _) hx))
 omega
theorem closed_high' (k : Nat) (kind : Int) (h : a.ok) : 1 ≤ (a.closed k kind).h ∧ (a.closed k kind).h ≤ 102 := by
 refine ⟨high_ge _ _, high_le _ _ _ (by decide) fun x hx => ?_⟩
 have := (h.high x (List.mem_of_mem_drop (List.IsSuffix.subset (List.dropWhile_suffix _) hx))).2
 omega
end
structure A.good (a : A) : Prop extends A.ok a where
 low : a.dead = false → ∀ x ∈ a.row, x.h ≤ 100
section
variable {a : A}
theorem good_fail (h : a.good) (c : Int) : (a.fail c).good := by
 refine ⟨ok_fail h.took c, fun hd => ?_⟩
 obtain ⟨_, _, h3, _⟩ := fail_dg (a := a) c
 rw [h3]
 unfold A.fail A.dead at hd
 cases hg : a.dg with
 | some d => rw [hg] at hd; simp [hg] at hd
 | none => rw [hg] at hd; simp at hd
theorem good_take (h : a.good) (hr : a.room = true) : a.take.good := by
 refine ⟨ok_take h.took hr, fun hd => ?_⟩
 unfold A.take at hd ⊢
 split
 ·exact h.low (by simp_all)
 ·rename_i hg
  have hl := h.low (by unfold A.dead; rw [hg]; rfl)
  split
  ·exact hl
  ·intro x hx
   simp only [List.mem_append, List.mem_map] at hx
   rcases hx with hx | ⟨y, _, rfl⟩
   ·exact hl x hx
   ·simp [leaf]
theorem good_none (h : a.good) (hr : a.room = true) : a.none_.good := by
 refine ⟨ok_none h.took hr, fun hd => ?_⟩
 unfold A.none_ at hd ⊢
 split
 ·exact h.low (by simp_all)
 ·rename_i hg
  have hl := h.low (by unfold A.dead; rw [hg]; rfl)
  intro x hx
  simp only [List.mem_append, List.mem_singleton] at hx
  rcases hx with hx | rfl
  ·exact hl x hx
  ·exact (by decide : (0 : Int) ≤ 100)
theorem live_of (hg : a.dg = none) : a.dead = false := by unfold A.dead; rw [hg]; rfl
theorem closeRow_mem {k : Nat} {x y : Made} (h : y ∈ a.row.take k ++ ((a.row.drop k).takeWhile triv ++ [x])) : y ∈ a.row ∨ y = x := by
 simp only [List.mem_append, List.mem_singleton] at h
 rcases h with h | h | h
 ·exact .inl (List.mem_of_mem_take h)
 ·exact .inl (List.mem_of_mem_drop (List.IsPrefix.subset (List.takeWhile_prefix _) h))
 ·exact .inr h
theorem closeRow_len (k : Nat) (x : Made) : (a.row.take k ++ ((a.row.drop k).takeWhile triv ++ [x])).length ≤ a.row.length + 1 := by
 have h1 := (List.takeWhile_prefix triv (l := a.row.drop k)).length_le
 simp only [List.length_append, List.length_take, List.length_drop, List.length_singleton] at h1 ⊢
 omega
theorem good_close (h : a.good) (hr : a.room = true) (m kind : Int) : (a.close m kind).good := by
 rw [room_iff] at hr
 unfold A.close
 split
 ·exact h
 ·rename_i hg
  have hl := h.low (live_of hg)
  have hc := closed_high (a.clamp m) kind h.took hl
  have hlen := closeRow_len (a := a) (a.clamp m) (a.closed (a.clamp m) kind)
  have hb : A.ok { a with row := a.row.take (a.clamp m) ++ ((a.row.drop (a.clamp m)).takeWhile triv ++ [a.closed (a.clamp m) kind]) } := by
   refine ⟨h.pre, h.len, h.opn, fun x hx => ?_, by simp only; omega⟩
   rcases closeRow_mem hx with hx | rfl
   ·exact h.high x hx
   ·omega
  simp only
  split
  ·refine ⟨ok_fail hb 202, fun hd => ?_⟩
   unfold A.fail A.dead at hd
   simp [hg] at hd
  ·rename_i hx
   refine ⟨hb, fun _ x hx => ?_⟩
   rcases closeRow_mem hx with hx | rfl
   ·exact hl x hx
   ·omega
theorem good_down (h : a.good) : a.down.2.good := by
 unfold A.down
 split
 ·exact h
 ·split
  ·exact good_fail h 202
  ·rename_i ho
   have := h.opn
   exact ⟨⟨h.pre, h.len, ⟨by simp only; omega, by simp only; omega⟩, h.high, h.row⟩, h.low⟩
theorem good_up (h : a.good) : a.up.good := by
 have := h.opn
 exact ⟨⟨h.pre, h.len, ⟨by unfold A.up; simp only; omega, by unfold A.up; simp only; omega⟩, h.high, h.row⟩, h.low⟩
theorem W_Up (h : a.ok) : W .prog Up.n [.rdr 0] (toP a) = some (.undef, toP a.up) := by
 refine fx Up.fd 0 ?_
 have := h.opn
 rw [Up_eq, wi _ (by show _ ≤ a.opn - 1; omega) (by show a.opn - 1 ≤ _; omega)]; rfl
theorem W_Down (h : a.ok) : W .prog Down.n [.rdr 0] (toP a) = some (.bool a.down.1, toP a.down.2) := by
 refine fx Down.fd 0 ?_
 have ho := h.opn
 rw [Down_eq]
 unfold A.down
 cases hd : a.dg with
 | some d =>
  have := toP_dead d hd
  rw [if_neg (by simp [this])]
  unfold Down.j0
  rw [if_pos this]
 | none =>
  have hf : (toP a).failed = false := live_of hd
  rw [if_pos (by simp [hf])]
  by_cases hx : a.opn = 100
  ·rw [if_pos (by show decide (a.opn = 100) = true; simp [hx]), cX_u (W_Fail h 202)]
   unfold Down.j0
   have : (toP (a.fail 202)).failed = true := by
    show (a.fail 202).dead = true
    unfold A.fail A.dead; rw [hd]; rfl
   rw [if_pos this]
   simp only [if_pos hx]
  ·rw [if_neg (by show ¬ decide (a.opn = 100) = true; simpa using hx)]
   unfold Down.j0
   rw [if_neg (by simp [hf]), wi _ (by show _ ≤ a.opn + 1; omega) (by show a.opn + 1 ≤ _; omega)]
   simp only [if_neg hx]
   simp [toP, A.dead, hd]
theorem W_None (h : a.ok) (hr : a.room = true) : W .prog None_.n [.rdr 0] (toP a) = some (.undef, toP a.none_) := by
 rw [room_iff] at hr
 refine fx None_.fd 0 ?_
 rw [None__eq]
 unfold A.none_
 cases hd : a.dg with
 | some d => rw [if_neg (by simp [toP_dead d hd])]
 | none =>
  have hf : (toP a).failed = false := live_of hd
  rw [if_pos (by simp [hf]), cX_i (W_here h), if_pos (by show a.row.length + 1 < maxRow; unfold maxRow; omega)]
  simp [toP, A.dead, hd]
theorem leaves_l0 (lim : Nat) (to : Int) (l : List Tok) (p : PS) : ∀ (d i n0 : Nat) (row : List Made), i + d = l.length → d < n0 → row.length + d + 8 < 4294967296 → l.length < 1099511627776 →
  leaves.l0 W lim n0 to l l.length i { p with row := row } = some (.undef, { p with row := row ++ (l.drop i).map leaf, read := to })
 | 0, i, 0, row, hi, hn, hr, hl => by omega
 | 0, i, n0 + 1, row, hi, hn, hr, hl => by
  rw [leaves.l0_succ, if_neg (by simp; omega), List.drop_of_length_le (by omega)]; simp
 | d + 1, i, 0, row, hi, hn, hr, hl => by omega
 | d + 1, i, n0 + 1, row, hi, hn, hr, hl => by
  rw [leaves.l0_succ, if_pos (by simp; omega), if_pos (by omega), if_pos (by omega), if_pos (by simp only [List.length_singleton]; unfold maxRow; omega), wi _ (by omega) (by omega)]
  have := leaves_l0 lim to l p d (i + 1) n0 (row ++ [leaf (l.getD i ⟨0, 0, 0⟩)]) (by omega) (by omega) (by simp; omega) hl
  rw [Int.natCast_add, Int.natCast_one] at this
  refine Eq.trans this ?_
  have hx : l.drop i = l.getD i ⟨0, 0, 0⟩ :: l.drop (i + 1) := by
   rw [List.drop_eq_getElem_cons (by omega), List.getD_eq_getElem?_getD, List.getElem?_eq_getElem (by omega)]; rfl
  rw [hx]
  simp
theorem W_Take (h : a.ok) (hr : a.room = true) : W .prog Take.n [.rdr 0] (toP a) = some (.undef, toP a.take) := by
 rw [room_iff] at hr
 refine fx Take.fd 0 ?_
 rw [Take_eq, cX_i (W_Kind h)]
 unfold A.take
 cases hd : a.dg with
 | some d =>
  have hdd : a.dead = true := toP_dead d hd
  rw [kinds_dead hdd, if_neg (by simp)]
 | none =>
  rw [kinds_live (live_of hd)]
  cases hc : cutSig a.rest with
  | none => rw [cutSig_none hc, if_neg (by simp)]
  | some x =>
   obtain ⟨s, t, r⟩ := x
   obtain ⟨h1, h2, h3⟩ := cutSig_some hc
   have hss := cutSig_sigs hc
   have hl := h.len
   have hl2 : a.rest.length = s.length + 1 + r.length := by rw [h1]; simp; omega
   have hsl := sigs_le a.rest
   have hpl := sigs_le a.pre
   have e1 : (((toP a).sig).length : Int) = (sigs a.pre).length + (sigs a.rest).length := by
    show ((sigIx 0 (a.pre ++ a.rest)).length : Int) = _
    rw [sigIx_length, sigs_append, List.length_append]; omega
   have e2 : (toP a).next = (sigs a.pre).length := rfl
   have hrl : (sigs a.rest).length = (sigs r).length + 1 := by rw [hss]; rfl
   have hj : List.getD (toP a).sig ((toP a).next).toNat 0 = (a.pre.length : Int) + s.length := by
    show List.getD (sigIx 0 (a.pre ++ a.rest)) ((sigs a.pre).length : Int).toNat 0 = _
    have h4 : (sigIx 0 a.pre).length = (sigs a.pre).length := sigIx_length _ _
    have h5 : (sigIx (0 + (a.pre.length : Int)) s).length = 0 := by rw [sigIx_length, h2]; rfl
    rw [Int.toNat_natCast, sigIx_append, getD_app_right _ _ _ _ (by omega), h4, Nat.sub_self, h1, sigIx_append, getD_app_right _ _ _ _ (by omega), h5]
    simp [sigIx, h3]
   rw [if_pos (by rw [hss]; have := sg_ge h3; simp; omega), e1, if_pos (by omega), if_pos (by omega)]
   simp only
   rw [hj, wi _ (by omega) (by omega)]
   have hlv : W .prog leaves.n [.rdr 0, .int ((a.pre.length : Int) + s.length + 1)] (toP a) = some (.undef, { toP a with row := a.row ++ (s ++ [t]).map leaf, read := (a.pre.length : Int) + s.length + 1 }) := by
    refine fx leaves.fd (a.rest.length + 2) ?_
    rw [leaves_eq]
    show (if 0 ≤ (a.pre.length : Int) + s.length + 1 then if (a.pre.length : Int) + s.length + 1 ≤ ((a.pre ++ a.rest).length : Int) then if (0 : Int) ≤ (a.pre.length : Int) then if (a.pre.length : Int) ≤ (a.pre.length : Int) + s.length + 1 then _ else none else none else none else none) = _
    rw [if_pos (by omega), if_pos (by rw [List.length_append]; omega), if_pos (by omega), if_pos (by omega)]
    have hq : List.drop (Int.toNat (toP a).read) (List.take (Int.toNat ((a.pre.length : Int) + s.length + 1)) (toP a).l) = s ++ [t] := by
     show List.drop (a.pre.length : Int).toNat (List.take _ (a.pre ++ a.rest)) = _
     have : ((a.pre.length : Int) + s.length + 1).toNat = a.pre.length + (s.length + 1) := by omega
     rw [this, List.take_length_add_append, Int.toNat_natCast, List.drop_left, h1]
     have : s.length + 1 = s.length + 1 := rfl
     rw [List.take_length_add_append]; rfl
    rw [hq]
    have := leaves_l0 (a.rest.length + 2) ((a.pre.length : Int) + s.length + 1) (s ++ [t]) (toP a) (s ++ [t]).length 0 (a.rest.length + 2) a.row (by simp) (by simp; omega) (by simp; omega) (by simp; omega)
    exact this
   rw [cX_u hlv]
   simp only
   rw [wi _ (by show _ ≤ (((sigs a.pre).length : Int) + 1); omega) (by show (((sigs a.pre).length : Int) + 1) ≤ _; omega)]
   have e6 : a.pre ++ a.rest = a.pre ++ (s ++ [t]) ++ r := by rw [h1]; simp
   have e7 : (sigs (a.pre ++ (s ++ [t]))).length = (sigs a.pre).length + 1 := by rw [sigs_append, sigs_append, h2]; simp [sigs, h3]
   simp only [toP, A.dead, hd]
   rw [e7, e6]
   simp
   omega
theorem W_Expect (h : a.ok) (hr : a.room = true) (c : Int) (hc : c ≠ 0) : W .prog Expect.n [.rdr 0, .int c] (toP a) =
  some (.bool (decide (a.kinds.getD 0 0 = c)), toP (if a.kinds.getD 0 0 = c then a.take else a.fail 201)) := by
 refine fx Expect.fd 0 ?_
 rw [Expect_eq, if_neg (by simpa using hc), cX_i (W_Kind h)]
 by_cases hk : a.kinds.getD 0 0 = c
 ·rw [if_neg (by rw [hk]; simp), cX_u (W_Take h hr), if_pos hk, decide_eq_true hk]
 ·rw [if_pos (decide_eq_true hk), cX_u (W_Fail h 201), if_neg hk, decide_eq_false hk]
end
end Go.AI.Rd
namespace Go.AI.Rd
theorem Index_l0 (lim : Nat) (v : Int) (s : List Int) (hs : s.length < 1099511627776) : ∀ (d i n0 : Nat), i + d = s.length → d < n0 →
  ∃ r, Index.l0 W lim n0 s v s.length i () = some (.int r, ()) ∧ decide (r ≥ 0) = (s.drop i).contains v
 | _, i, 0, hi, hn => by omega
 | 0, i, n0 + 1, hi, hn => by
  refine ⟨-1, ?_, ?_⟩
  ·rw [Index.l0_succ, if_neg (by simp; omega)]
  ·rw [List.drop_of_length_le (by omega)]; rfl
 | d + 1, i, n0 + 1, hi, hn => by
  have hx : s.drop i = s.getD i 0 :: s.drop (i + 1) := by
   rw [List.drop_eq_getElem_cons (by omega), List.getD_eq_getElem?_getD, List.getElem?_eq_getElem (by omega)]; rfl
  rw [Index.l0_succ, if_pos (by simp; omega), if_pos (by omega), if_pos (by omega), Int.toNat_natCast, hx]
  by_cases hv : v = s.getD i 0
  ·refine ⟨i, by rw [if_pos (decide_eq_true hv)], ?_⟩
   rw [List.contains_cons, ← hv]; simp
  ·obtain ⟨r, h1, h2⟩ := Index_l0 lim v s hs d (i + 1) n0 (by omega) (by omega)
   refine ⟨r, ?_, ?_⟩
   ·rw [if_neg (by simp only [decide_eq_true_eq]; exact hv), wi _ (by omega) (by omega)]
    rw [Int.natCast_add, Int.natCast_one] at h1; exact h1
   ·rw [h2, List.contains_cons]
    have : (v == s.getD i 0) = false := by simp only [beq_eq_false_iff_ne]; exact hv
    rw [this]; rfl
theorem W_Contains (s : List Int) (hs : s.length < 1099511627776) (v : Int) : W .unit Contains.n [.sl .int s, .int v] () = some (.bool (s.contains v), ()) := by
 refine fx Contains.fd 0 ?_
 rw [Contains_eq]
 obtain ⟨r, h1, h2⟩ := Index_l0 (s.length + 1) v s hs s.length 0 (s.length + 1) (by omega) (by omega)
 have : W .unit Index.n [.sl .int s, .int v] () = some (.int r, ()) := by
  refine fx Index.fd (s.length + 1) ?_
  rw [Index_eq]; exact h1
 rw [cX_i this, h2]; rfl
section
variable {a : A}
theorem W_comes (h : a.ok) (ks : List Int) (hk : ks.length < 1099511627776) : W .prog comes.n [.rdr 0, .sl .int ks] (toP a) = some (.bool (comesF ks a.kinds), toP a) := by
 refine fx comes.fd 0 ?_
 rw [comes_eq, cX_i (W_Kind h)]
 unfold comesF
 by_cases hx : a.kinds.getD 0 0 = 0
 ·rw [if_neg (by rw [hx]; simp), hx]; simp
 ·rw [if_pos (decide_eq_true hx), cX_i (W_Kind h), cX_b (W_Contains ks hk _), decide_eq_true hx]; rfl
theorem W_taken (h : a.ok) (hr : a.room = true) (ks : List Int) (hk : ks.length < 1099511627776) : W .prog taken.n [.rdr 0, .sl .int ks] (toP a) =
  some (.bool (comesF ks a.kinds), toP (if comesF ks a.kinds = true then a.take else a)) := by
 refine fx taken.fd 0 ?_
 rw [taken_eq, cX_b (W_comes h ks hk)]
 by_cases hx : comesF ks a.kinds = true
 ·rw [if_pos hx, cX_u (W_Take h hr), if_pos hx]
 ·rw [if_neg hx, if_neg hx]
theorem W_embedded (h : a.ok) : W .prog embedded.n [.rdr 0] (toP a) = some (.bool (embF a.kinds), toP a) := by
 refine fx embedded.fd 0 ?_
 rw [embedded_eq, cX_i (W_Ahead h 1)]
 simp only [show ¬ ((1 : Int) < 0) by decide, if_false, show (1 : Int).toNat = 1 by decide]
 simp only [cX_i (W_Kind h)]
 unfold embF
 generalize a.kinds.getD 1 0 = x
 generalize a.kinds.getD 0 0 = y
 by_cases h1 : x = 15
 ·simp [h1]
 by_cases h2 : x = 16
 ·simp [h2]
 by_cases h3 : x = 64
 ·simp [h3]
 by_cases h4 : x = 61
 ·simp [h4]
 simp [h1, h2, h3, h4]
theorem W_Prec (k : Int) : W .unit Prec.n [.int k] () = some (.int (precF k), ()) := by
 refine fx Prec.fd 0 ?_
 rw [Prec_eq]
 by_cases h1 : k = 22
 ·subst h1; rfl
 by_cases h2 : k = 23
 ·subst h2; rfl
 by_cases h3 : k = 24
 ·subst h3; rfl
 by_cases h4 : k = 28
 ·subst h4; rfl
 by_cases h5 : k = 29
 ·subst h5; rfl
 by_cases h6 : k = 25
 ·subst h6; rfl
 by_cases h7 : k = 30
 ·subst h7; rfl
 by_cases h8 : k = 20
 ·subst h8; rfl
 by_cases h9 : k = 21
 ·subst h9; rfl
 by_cases h10 : k = 26
 ·subst h10; rfl
 by_cases h11 : k = 27
 ·subst h11; rfl
 by_cases h12 : k = 46
 ·subst h12; rfl
 by_cases h13 : k = 52
 ·subst h13; rfl
 by_cases h14 : k = 47
 ·subst h14; rfl
 by_cases h15 : k = 53
 ·subst h15; rfl
 by_cases h16 : k = 48
 ·subst h16; rfl
 by_cases h17 : k = 54
 ·subst h17; rfl
 by_cases h18 : k = 42
 ·subst h18; rfl
 by_cases h19 : k = 43
 ·subst h19; rfl
 simp [*, precF, Prec.j0, Prec.j1]
theorem precF_le (k : Int) : 0 ≤ precF k ∧ precF k ≤ 5 := by
 unfold precF; repeat' split
 all_goals omega
theorem kinds_pos {x : Int} (h : x ∈ a.kinds) : 10 ≤ x := by
 unfold A.kinds at h
 split at h
 ·cases h
 ·obtain ⟨t, ht, rfl⟩ := List.mem_map.1 h
  exact sg_ge (sigs_sg ht)
theorem kinds_len (h : a.ok) : a.kinds.length < 1099511627776 := by
 have := sigs_le a.rest
 have := h.len
 unfold A.kinds
 split
 ·simp
 ·simp only [List.length_map]; omega
theorem W_Ahead' (h : a.ok) (n : Nat) : W .prog Ahead.n [.rdr 0, .int n] (toP a) = some (.int (a.kinds.getD n 0), toP a) := by
 rw [W_Ahead h n, if_neg (by omega), Int.toNat_natCast]
theorem partner_l0 (h : a.ok) (lim : Nat) : ∀ (d n n0 : Nat) (o : Int), n + d = a.kinds.length → d < n0 → -(n : Int) ≤ o → o ≤ n →
  ∃ r : Int, partner.l0 W lim n0 n o (toP a) = some (.int r, toP a) ∧
   (match behindF (a.kinds.drop n) o with | some x => 0 ≤ r ∧ r < a.kinds.length ∧ a.kinds.getD (r.toNat + 1) 0 = x | none => r = -1)
 | _, n, 0, o, hi, hn, _, _ => by omega
 | 0, n, n0 + 1, o, hi, hn, _, _ => by
  refine ⟨-1, ?_, ?_⟩
  ·rw [partner.l0_succ, cX_i (W_Ahead' h n), if_neg]
   rw [List.getD_eq_getElem?_getD, List.getElem?_eq_none (by omega)]; simp
  ·rw [List.drop_of_length_le (by omega)]; rfl
 | d + 1, n, n0 + 1, o, hi, hn, ho1, ho2 => by
  have hkl := kinds_len h
  have hx : a.kinds.drop n = a.kinds.getD n 0 :: a.kinds.drop (n + 1) := by
   rw [List.drop_eq_getElem_cons (by omega), List.getD_eq_getElem?_getD, List.getElem?_eq_getElem (by omega)]; rfl
  have hpos : 10 ≤ a.kinds.getD n 0 := by
   rw [List.getD_eq_getElem?_getD, List.getElem?_eq_getElem (by omega)]
   exact kinds_pos (List.getElem_mem _)
  have ih := fun o' h1 h2 => partner_l0 h lim d (n + 1) n0 o' (by omega) (by omega) h1 h2
  simp only [Int.natCast_add, Int.natCast_one] at ih
  rw [hx, partner.l0_succ, cX_i (W_Ahead' h n), if_pos (decide_eq_true (by omega)), cX_i (W_Ahead' h n)]
  unfold behindF
  by_cases h1 : a.kinds.getD n 0 = 58
  ·rw [if_pos (decide_eq_true h1), if_pos h1, wi _ (by omega) (by omega), wi _ (by omega) (by omega)]
   exact ih _ (by omega) (by omega)
  ·rw [if_neg (by simp only [decide_eq_true_eq]; exact h1), if_neg h1]
   by_cases h2 : a.kinds.getD n 0 = 63
   ·rw [if_pos (decide_eq_true h2), if_pos h2, wi (o - 1) (by omega) (by omega)]
    by_cases h3 : o - 1 = 0
    ·rw [if_pos (decide_eq_true h3), if_pos h3]
     refine ⟨n, rfl, ?_⟩
     refine ⟨by omega, by omega, ?_⟩
     rw [Int.toNat_natCast, List.getD_eq_getElem?_getD, List.getD_eq_getElem?_getD, List.getElem?_drop, Nat.add_zero]
    ·rw [if_neg (by simp only [decide_eq_true_eq]; exact h3), if_neg h3, wi _ (by omega) (by omega)]
     exact ih _ (by omega) (by omega)
   ·rw [if_neg (by simp only [decide_eq_true_eq]; exact h2), if_neg h2, wi _ (by omega) (by omega)]
    exact ih _ (by omega) (by omega)
theorem W_hasName (h : a.ok) : W .prog hasName.n [.rdr 0] (toP a) = some (.bool (hasNameF a.kinds), toP a) := by
 refine fx hasName.fd 0 ?_
 have hkl := kinds_len h
 rw [hasName_eq, cX_i (W_Kind h)]
 unfold hasNameF
 by_cases h0 : a.kinds.getD 0 0 = 10
 rotate_left
 ·rw [if_pos (decide_eq_true h0), if_pos h0]
 rw [if_neg (by rw [h0]; simp), if_neg (by rw [h0]; simp)]
 have h1 := W_Ahead' h 1
 rw [cX_i (show W .prog Ahead.n [.rdr 0, .int 1] (toP a) = _ from h1)]
 have hp : a.kinds.getD 1 0 = 58 → ∃ r : Int, W .prog partner.n [.rdr 0, .int 1] (toP a) = some (.int r, toP a) ∧
   (match behindF (a.kinds.drop 1) 0 with | some x => 0 ≤ r ∧ r < a.kinds.length ∧ a.kinds.getD (r.toNat + 1) 0 = x | none => r = -1) := by
  intro hx
  have hl : 1 < a.kinds.length := by
   refine Nat.lt_of_not_le fun hc => ?_
   rw [List.getD_eq_getElem?_getD, List.getElem?_eq_none (by omega)] at hx; simp at hx
  obtain ⟨r, q1, q2⟩ := partner_l0 h (a.kinds.length + 1) (a.kinds.length - 1) 1 (a.kinds.length + 1) 0 (by omega) (by omega) (by omega) (by omega)
  refine ⟨r, ?_, q2⟩
  refine fx partner.fd (a.kinds.length + 1) ?_
  rw [partner_eq]; exact q1
 by_cases h2 : a.kinds.getD 1 0 = 60
 ·rw [if_pos (decide_eq_true h2), if_pos (.inl h2)]
  unfold hasName.j0
  rw [if_pos (decide_eq_true h2)]
 rw [if_neg (by simp only [decide_eq_true_eq]; exact h2)]
 by_cases h3 : a.kinds.getD 1 0 = 62
 ·rw [if_pos (decide_eq_true h3), if_pos (.inr (.inl h3))]
  unfold hasName.j0
  rw [if_pos (decide_eq_true h3)]
 rw [if_neg (by simp only [decide_eq_true_eq]; exact h3)]
 unfold hasName.j0
 by_cases h4 : a.kinds.getD 1 0 = 61
 ·rw [if_pos (decide_eq_true h4), if_pos (.inr (.inr h4))]
 rw [if_neg (by simp only [decide_eq_true_eq]; exact h4), if_neg (c := a.kinds.getD 1 0 = 60 ∨ a.kinds.getD 1 0 = 62 ∨ a.kinds.getD 1 0 = 61) (by rintro (h | h | h) <;> contradiction)]
 by_cases h5 : a.kinds.getD 1 0 = 58
 rotate_left
 ·rw [if_neg (by simp only [decide_eq_true_eq]; exact h5), if_neg h5]
 rw [if_pos (decide_eq_true h5), if_pos h5]
 rw [cX_i (show W .prog Ahead.n [.rdr 0, .int 2] (toP a) = _ from W_Ahead' h 2)]
 by_cases h6 : a.kinds.getD 2 0 = 63
 ·rw [if_pos (decide_eq_true h6), if_pos h6]
 rw [if_neg (by simp only [decide_eq_true_eq]; exact h6), if_neg h6]
 obtain ⟨r, q1, q2⟩ := hp h5
 rw [cX_i q1]
 cases hb : behindF (a.kinds.drop 1) 0 with
 | none =>
  rw [hb] at q2
  simp only at q2 ⊢
  rw [if_pos (by rw [q2]; rfl)]
 | some x =>
  rw [hb] at q2
  simp only at q2 ⊢
  obtain ⟨q2, q3, q4⟩ := q2
  rw [if_neg (by simp; omega), wi _ (by omega) (by omega)]
  have e : r + 1 = ((r.toNat + 1 : Nat) : Int) := by omega
  rw [e, cX_i (W_Ahead' h _), q4]
  by_cases h7 : x = 0
  ·simp [h7]
  ·by_cases h8 : x = 60
   ·simp [h8]
   ·simp [h7, h8]
theorem drop_getD {row : List Made} {k : Nat} (h : k < row.length) : row.drop k = row.getD k (El.dflt .made) :: row.drop (k + 1) := by
 rw [List.drop_eq_getElem_cons h, List.getD_eq_getElem?_getD, List.getElem?_eq_getElem h]; rfl
theorem Close_l0 (h : a.ok) (lim : Nat) (kind : Int) : ∀ (d k n0 : Nat), k + d = a.row.length → d < n0 →
  ∃ j : Nat, j = k + ((a.row.drop k).takeWhile triv).length ∧ j ≤ a.row.length ∧
   Close.l0 W lim n0 k kind (toP a) = Close.l2 W lim lim j (a.row.drop j) (a.row.drop j).length 0 kind a.here a.here [] 1 (toP a)
 | _, k, 0, hi, hn => by omega
 | 0, k, n0 + 1, hi, hn => by
  refine ⟨k, ?_, by omega, ?_⟩
  ·rw [List.drop_of_length_le (by omega)]; rfl
  ·rw [Close.l0_succ, if_neg (by simp only [decide_eq_true_eq]; show ¬ (k : Int) < (a.row.length : Int); omega), cX_i (W_here h), cX_i (W_here h), if_pos (by omega), if_pos (by show (k : Int) ≤ (a.row.length : Int); omega), Int.toNat_natCast]; rfl
 | d + 1, k, n0 + 1, hi, hn => by
  have hrl := h.row
  have hx := drop_getD (row := a.row) (k := k) (by omega)
  rw [Close.l0_succ, if_pos (by simp only [decide_eq_true_eq]; show (k : Int) < (a.row.length : Int); omega), if_pos (by omega), if_pos (by show (k : Int) < (a.row.length : Int); omega), Int.toNat_natCast]
  by_cases ht : triv (a.row.getD k (El.dflt .made)) = true
  ·obtain ⟨j, h1, h2, h3⟩ := Close_l0 h lim kind d (k + 1) n0 (by omega) (by omega)
   refine ⟨j, ?_, h2, ?_⟩
   ·rw [h1, hx, List.takeWhile_cons, if_pos ht, List.length_cons]; omega
   ·rw [if_pos (by exact ht), wi _ (by omega) (by omega)]
    rw [Int.natCast_add, Int.natCast_one] at h3; exact h3
  ·refine ⟨k, ?_, by omega, ?_⟩
   ·rw [hx, List.takeWhile_cons, if_neg ht]; rfl
   ·rw [if_neg (by exact ht), cX_i (W_here h), cX_i (W_here h), if_pos (by omega), if_pos (by show (k : Int) ≤ (a.row.length : Int); omega)]; rfl
theorem getLast?_drop_cons {α : Type} (l : List α) (i : Nat) (h : i < l.length) : (l.drop i).getLast? = l.getLast? := by
 rw [List.getLast?_drop, if_neg (by omega)]
noncomputable def closeEnd (k : Int) (kind f t : Int) (kids : List Node) (hi : Int) (p : PS) : Option (AV × PS) :=
 if 0 ≤ k then
 if k ≤ ((p.row).length : Int) then
 if ((List.take (Int.toNat k) p.row)).length + ([(⟨(Node.mk kind f t kids), hi⟩ : Made)]).length < maxRow then
 if (decide (hi > 100)) then
 cX W .u .prog Fail.n [.rdr 0, .int 202] ({ p with row := ((List.take (Int.toNat k) p.row) ++ [(⟨(Node.mk kind f t kids), hi⟩ : Made)]) }) fun _ (p17 : PS) =>
 some (.undef, p17)
 else
 some (.undef, { p with row := ((List.take (Int.toNat k) p.row) ++ [(⟨(Node.mk kind f t kids), hi⟩ : Made)]) })
 else none
 else none
 else none
theorem Close_l2 (lim : Nat) (k : Int) (l : List Made) (kind : Int) (p : PS) (hl : l.length < 4294967295) (hh : ∀ x ∈ l, 0 ≤ x.h ∧ x.h ≤ 101) : ∀ (d i n0 : Nat) (f t hi : Int), i + d = l.length → d < n0 → 
  Close.l2 W lim n0 k l l.length i kind f t ((l.take i).map (·.n)) hi p =
   closeEnd k kind (if i = 0 then (match l.head? with | some x => Node.f x.n | none => f) else f) (if d = 0 then t else (match l.getLast? with | some x => Node.t x.n | none => t)) (l.map (·.n)) (high (l.drop i) hi) p
 | _, i, 0, f, t, hi, h1, h2 => by omega
 | 0, i, n0 + 1, f, t, hi, h1, h2 => by
  rw [Close.l2_succ, if_neg (by simp; omega), show l.take i = l from List.take_of_length_le (by omega), show l.drop i = [] from List.drop_of_length_le (by omega)]
  simp only [high, if_true]
  by_cases h0 : i = 0
  ·have : l = [] := List.length_eq_zero_iff.1 (by omega)
   rw [if_pos h0, this]; rfl
  ·rw [if_neg h0]; rfl
 | d + 1, i, n0 + 1, f, t, hi, h1, h2 => by
  have hx := drop_getD (row := l) (k := i) (by omega)
  have hmem : l.getD i (El.dflt .made) ∈ l := by
   rw [List.getD_eq_getElem?_getD, List.getElem?_eq_getElem (by omega)]; exact List.getElem_mem _
  have hhx := hh _ hmem
  have htk : (l.take i).map (·.n) ++ [(l.getD i (El.dflt .made)).n] = (l.take (i + 1)).map (·.n) := by
   rw [List.take_add_one, List.map_append, List.getD_eq_getElem?_getD, List.getElem?_eq_getElem (by omega)]; rfl
  rw [Close.l2_succ, if_pos (by simp; omega), if_pos (by omega), if_pos (by omega), Int.toNat_natCast, hx]
  simp only [Node.eta, high]
  rw [htk, wi _ (by omega) (by omega), wi _ (by omega) (by omega)]
  have hlt : ((l.take i).map (·.n)).length + [(l.getD i (El.dflt .made)).n].length < maxRow := by
   simp only [List.length_map, List.length_take, List.length_singleton]; unfold maxRow; omega
  have ih := fun f t hi => Close_l2 lim k l kind p hl hh d (i + 1) n0 f t hi (by omega) (by omega)
  simp only [Int.natCast_add, Int.natCast_one] at ih
  have hlast : d = 0 → l.getLast? = some (l.getD i (El.dflt .made)) := by
   intro hd
   rw [← getLast?_drop_cons l i (by omega), hx, List.drop_of_length_le (by omega)]; rfl
  have et : (if d = 0 then Node.t (l.getD i (El.dflt .made)).n else (match l.getLast? with | some x => Node.t x.n | none => Node.t (l.getD i (El.dflt .made)).n)) = (match l.getLast? with | some x => Node.t x.n | none => t) := by
   by_cases hd : d = 0
   ·rw [if_pos hd, hlast hd]
   ·rw [if_neg hd]
    cases hg : l.getLast? with
    | none => rw [List.getLast?_eq_none_iff] at hg; rw [hg] at h1; simp at h1
    | some x => rfl
  by_cases h0 : i = 0
  ·subst h0
   rw [if_pos (by simp), if_pos hlt, ih, if_neg (show ¬ 0 + 1 = 0 by omega), et, if_pos rfl, if_neg (show ¬ d + 1 = 0 by omega)]
   have : l.head? = some (l.getD 0 (El.dflt .made)) := by
    rw [List.drop_zero] at hx; rw [hx]; rfl
   rw [this]
  ·rw [if_neg (by simp; omega), if_pos hlt, ih, if_neg (show ¬ i + 1 = 0 by omega), et, if_neg h0, if_neg (show ¬ d + 1 = 0 by omega)]
theorem row_cut {row : List Made} {k : Nat} (hk : k ≤ row.length) : row.take (k + ((row.drop k).takeWhile triv).length) = row.take k ++ (row.drop k).takeWhile triv := by
 rw [List.take_add]
 congr 1
 exact (List.prefix_iff_eq_take.1 (List.takeWhile_prefix _)).symm
theorem row_cut' {row : List Made} {k : Nat} : row.drop (k + ((row.drop k).takeWhile triv).length) = (row.drop k).dropWhile triv := by
 rw [← List.drop_drop]
 have := List.takeWhile_append_dropWhile (p := triv) (l := row.drop k)
 conv => lhs; arg 2; rw [← this]
 exact List.drop_left
theorem W_Close (h : a.good) (hr : a.room = true) (m kind : Int) : W .prog Close.n [.rdr 0, .int m, .int kind] (toP a) = some (.undef, toP (a.close m kind)) := by
 have hg2 := good_close h hr m kind
 rw [room_iff] at hr
 refine fx Close.fd (a.row.length + 2) ?_
 rw [Close_eq]
 unfold A.close
 cases hd : a.dg with
 | some d => rw [if_pos (toP_dead d hd)]
 | none =>
  have hf : (toP a).failed = false := live_of hd
  have hlow := h.low (live_of hd)
  rw [if_neg (by simp [hf])]
  have hm : min (max m 0) (((toP a).row).length : Int) = ((a.clamp m : Nat) : Int) := by
   show min (max m 0) ((a.row).length : Int) = _
   unfold A.clamp; omega
  have hcl := clamp_le (a := a) m
  rw [hm]
  obtain ⟨j, j1, j2, j3⟩ := Close_l0 h.took (a.row.length + 2) kind (a.row.length - a.clamp m) (a.clamp m) (a.row.length + 2) (by omega) (by omega)
  rw [j3]
  have := Close_l2 (a.row.length + 2) j (a.row.drop j) kind (toP a) (by simp; omega) (fun x hx => h.high x (List.mem_of_mem_drop hx)) (a.row.drop j).length 0 (a.row.length + 2) a.here a.here 1 (by omega) (by simp; omega)
  simp only [List.take_zero, List.map_nil, if_true, List.drop_zero] at this
  refine Eq.trans this ?_
  have hdj : a.row.drop j = (a.row.drop (a.clamp m)).dropWhile triv := by rw [j1]; exact row_cut'
  have htj : a.row.take j = a.row.take (a.clamp m) ++ (a.row.drop (a.clamp m)).takeWhile triv := by rw [j1]; exact row_cut hcl
  have hcd : (⟨Node.mk kind (match (a.row.drop j).head? with | some x => Node.f x.n | none => a.here) (if (a.row.drop j).length = 0 then a.here else (match (a.row.drop j).getLast? with | some x => Node.t x.n | none => a.here)) ((a.row.drop j).map (·.n)), high (a.row.drop j) 1⟩ : Made) = a.closed (a.clamp m) kind := by
   rw [hdj]
   unfold A.closed nodeOf
   congr 2
   split
   ·rename_i hz
    rw [List.length_eq_zero_iff.1 hz]; rfl
   ·rfl
  unfold closeEnd
  rw [if_pos (by omega), if_pos (by show (j : Int) ≤ (a.row.length : Int); omega), Int.toNat_natCast]
  rw [if_pos (by show (List.take j a.row).length + 1 < maxRow; simp only [List.length_take]; unfold maxRow; omega)]
  rw [hcd]
  have hhi : high (a.row.drop j) 1 = (a.closed (a.clamp m) kind).h := by rw [← hcd]
  rw [hhi]
  have hrow : List.take j (toP a).row ++ [a.closed (a.clamp m) kind] = a.row.take (a.clamp m) ++ ((a.row.drop (a.clamp m)).takeWhile triv ++ [a.closed (a.clamp m) kind]) := by
   show List.take j a.row ++ _ = _
   rw [htj, List.append_assoc]
  rw [hrow]
  have hlen := closeRow_len (a := a) (a.clamp m) (a.closed (a.clamp m) kind)
  have hc := closed_high (a.clamp m) kind h.took hlow
  have hb : A.ok { a with row := a.row.take (a.clamp m) ++ ((a.row.drop (a.clamp m)).takeWhile triv ++ [a.closed (a.clamp m) kind]) } := by
   refine ⟨h.pre, h.len, h.opn, fun x hx => ?_, by simp only; omega⟩
   rcases closeRow_mem hx with hx | rfl
   ·exact h.high x hx
   ·omega
  by_cases hx : 100 < (a.closed (a.clamp m) kind).h
  ·rw [if_pos (decide_eq_true hx)]
   simp only [if_pos hx]
   have := W_Fail hb 202
   have e : (toP { a with row := a.row.take (a.clamp m) ++ ((a.row.drop (a.clamp m)).takeWhile triv ++ [a.closed (a.clamp m) kind]) }) = { toP a with row := a.row.take (a.clamp m) ++ ((a.row.drop (a.clamp m)).takeWhile triv ++ [a.closed (a.clamp m) kind]) } := by simp [toP, A.dead]
   rw [e] at this
   rw [cX_u this]
   simp only [hd]
  ·rw [if_neg (by simp only [decide_eq_true_eq]; exact hx)]
   simp only [if_neg hx]
   simp [toP, A.dead, hd]
end
end Go.AI.Rd
namespace Go.AI.Rd
theorem W_named (n : Node) (hn : Node.k n = 207 → Node.kids n ≠ []) : W .unit named.n [.agg [.int (Node.k n), .int (Node.f n), .int (Node.t n), .sl .node (Node.kids n)]] () = some (.bool (namedF n), ()) := by
 refine fx named.fd 0 ?_
 rw [named_eq]
 unfold namedF
 by_cases h1 : Node.k n = 201
 ·rw [if_pos (decide_eq_true h1), decide_eq_true h1]; rfl
 rw [if_neg (by simp only [decide_eq_true_eq]; exact h1), decide_eq_false h1]
 by_cases h2 : Node.k n = 207
 ·have := hn h2
  have h3 : 0 < (Node.kids n).length := List.length_pos_iff.2 this
  rw [if_pos (decide_eq_true h2), if_pos (by omega), if_pos (by omega), decide_eq_true h2]; rfl
 ·rw [if_neg (by simp only [decide_eq_true_eq]; exact h2), decide_eq_false h2]; rfl
theorem part0_ne {n : Node} (h : part0 n = true) : Node.kids n ≠ [] := by
 unfold part0 at h; intro hc; rw [hc] at h; cases h
section
variable {a : A}
theorem first_at (k : Nat) (hk : k < a.row.length) : a.first k = if triv (a.row.getD k (El.dflt .made)) = true then a.first ((k : Int) + 1) else some (a.row.getD k (El.dflt .made)) := by
 unfold A.first
 have e : ((k : Int) + 1).toNat = k + 1 := by omega
 rw [Int.toNat_natCast, e, drop_getD hk, List.find?_cons]
 by_cases ht : triv (a.row.getD k (El.dflt .made)) = true
 ·rw [if_pos ht, ht]; rfl
 ·rw [if_neg ht]
  have : triv (a.row.getD k (El.dflt .made)) = false := by simpa using ht
  rw [this]; rfl
theorem first_end (k : Nat) (hk : a.row.length ≤ k) : a.first k = none := by
 unfold A.first; rw [Int.toNat_natCast, List.drop_of_length_le hk]; rfl
theorem literal_l0 (h : a.ok) (lim : Nat) (head : Bool) : ∀ (d k n0 : Nat), k + d = a.row.length → d < n0 → a.litOK k = true →
  literal.l0 W lim n0 k head (toP a) = some (.bool (a.lit k head), toP a)
 | _, k, 0, hi, hn, _ => by omega
 | 0, k, n0 + 1, hi, hn, _ => by
  rw [literal.l0_succ, if_neg (by simp only [decide_eq_true_eq]; show ¬ (k : Int) < (a.row.length : Int); omega), if_pos (by simp only [decide_eq_true_eq]; show (k : Int) ≥ (a.row.length : Int); omega)]
  unfold A.lit; rw [first_end k (by omega)]
 | d + 1, k, n0 + 1, hi, hn, hlit => by
  have hrl := h.row
  have hf := first_at (a := a) k (by omega)
  have c1 : (k : Int) < (((toP a).row).length : Int) := by show (k : Int) < (a.row.length : Int); omega
  have c2 : ¬ (k : Int) ≥ (((toP a).row).length : Int) := by omega
  rw [literal.l0_succ, if_pos (decide_eq_true c1), if_pos (by omega), if_pos c1, Int.toNat_natCast]
  by_cases ht : triv (a.row.getD k (El.dflt .made)) = true
  ·rw [if_pos ht] at hf
   have hl2 : a.litOK ((k + 1 : Nat) : Int) = true := by
    unfold A.litOK at hlit ⊢
    rw [hf] at hlit
    simp only [Bool.and_eq_true] at hlit ⊢
    exact ⟨decide_eq_true (by omega), by rw [Int.natCast_add]; exact hlit.2⟩
   rw [if_pos (by exact ht), wi _ (by omega) (by omega)]
   have := literal_l0 h lim head d (k + 1) n0 (by omega) (by omega) hl2
   rw [Int.natCast_add, Int.natCast_one] at this
   rw [this]
   unfold A.lit; rw [hf]
  ·rw [if_neg ht] at hf
   rw [if_neg (by exact ht)]
   have e : List.getD (toP a).row k (El.dflt .made) = a.row.getD k (El.dflt .made) := rfl
   simp only [e]
   unfold A.litOK at hlit
   rw [hf] at hlit
   unfold A.lit
   rw [hf]
   simp only [Bool.and_eq_true] at hlit
   replace hlit := hlit.2
   dsimp only at hlit ⊢
   generalize (a.row.getD k (El.dflt .made)).n = x at hlit ⊢
   unfold Rd.litOK at hlit
   simp only [Bool.and_eq_true, Bool.or_eq_true, decide_eq_true_eq] at hlit
   obtain ⟨l1, l2⟩ := hlit
   have hx : Node.k x = 207 → Node.kids x ≠ [] := fun hk => part0_ne (l1.resolve_left (fun hc => hc hk))
   rw [if_neg (by simp only [decide_eq_true_eq]; exact c2), if_pos (by omega), if_pos c1]
   unfold literalF
   by_cases k1 : Node.k x = 220
   ·simp [k1]
   by_cases k2 : Node.k x = 221
   ·simp [k2]
   by_cases k3 : Node.k x = 222
   ·simp [k3]
   by_cases k4 : Node.k x = 224
   ·simp [k4]
   by_cases k5 : Node.k x = 208
   ·obtain ⟨p1, p2⟩ := l2.resolve_left (fun hc => hc k5)
    have hne := part0_ne p1
    have hpos : 0 < (Node.kids x).length := List.length_pos_iff.2 hne
    have hk0 : Node.k ((Node.kids x).getD 0 (El.dflt .node)) = 207 → Node.kids ((Node.kids x).getD 0 (El.dflt .node)) ≠ [] := fun hk => part0_ne (p2.resolve_left (fun hc => hc hk))
    have hW := W_named _ hk0
    cases head with
    | true => simp [k5]
    | false =>
     simp only [k5, decide_true, Bool.not_false, if_true, Int.toNat_zero]
     have hq : (0 : Int) < ((Node.kids x).length : Int) := by omega
     simp only [Int.le_refl, if_true, hq, cX_b hW]
     simp; rfl
   ·have hW := W_named x hx
    cases head with
    | true => simp [k1, k2, k3, k4, k5]
    | false =>
     simp only [k1, k2, k3, k4, k5, decide_false, Bool.not_false, if_true, cX_b hW]
     simp
theorem W_literal (h : a.ok) (m : Int) (head : Bool) (hl : a.litOK m = true) : W .prog literal.n [.rdr 0, .int m, .bool head] (toP a) = some (.bool (a.lit m head), toP a) := by
 refine fx literal.fd (a.row.length + 2) ?_
 have hm : 0 ≤ m := by
  unfold A.litOK at hl
  simp only [Bool.and_eq_true, decide_eq_true_eq] at hl
  exact hl.1
 obtain ⟨k, rfl⟩ : ∃ k : Nat, m = k := ⟨m.toNat, by omega⟩
 rw [literal_eq]
 by_cases hk : k < a.row.length
 ·exact literal_l0 h _ head (a.row.length - k) k _ (by omega) (by omega) hl
 ·rw [literal.l0_succ, if_neg (by simp only [decide_eq_true_eq]; show ¬ (k : Int) < (a.row.length : Int); omega), if_pos (by simp only [decide_eq_true_eq]; show (k : Int) ≥ (a.row.length : Int); omega)]
  unfold A.lit; rw [first_end k (by omega)]
theorem fail_dead (hd : a.dead = true) (c : Int) : a.fail c = a := by
 unfold A.dead at hd; unfold A.fail
 cases hg : a.dg with
 | none => rw [hg] at hd; cases hd
 | some d => rfl
def EntPos (l : List Ent) : Prop := ∀ e ∈ l, (0 ≤ e.from_ ∧ e.from_ < 4294967296) ∧ (0 ≤ e.to_ ∧ e.to_ < 4294967296)
theorem ent_getD {l : List Ent} {i : Nat} (h : i < l.length) : l.drop i = l.getD i (El.dflt .ent) :: l.drop (i + 1) := by
 rw [List.drop_eq_getElem_cons h, List.getD_eq_getElem?_getD, List.getElem?_eq_getElem h]; rfl
theorem ent_mem {l : List Ent} {i : Nat} (h : i < l.length) : l.getD i (El.dflt .ent) ∈ l := by
 rw [List.getD_eq_getElem?_getD, List.getElem?_eq_getElem h]; exact List.getElem_mem _
theorem badEnts_cons (e : Ent) (r : List Ent) : badEnts a (e :: r) = ((!e.named && (r.isEmpty || !(match a.first e.from_ with | some x => decide (Node.k x.n = 201) | none => false))) || badEnts a r) := rfl
noncomputable def nameEnd (lim n0 : Nat) (l : List Ent) (i k : Int) (p : PS) : Option (AV × PS) :=
 if (decide (i = (IntKind.i64.wrap (((l).length : Int) - 1)))) then
 cX W .u .prog Fail.n [.rdr 0, .int 201] p fun _ (p15 : PS) =>
 some (.undef, p15)
 else
 if (decide (k ≥ ((p.row).length : Int))) then
 cX W .u .prog Fail.n [.rdr 0, .int 201] p fun _ (p17 : PS) =>
 some (.undef, p17)
 else
 if 0 ≤ k then
 if k < ((p.row).length : Int) then
 if (decide ((Node.k ((List.getD p.row (Int.toNat k) (El.dflt .made)).n)) ≠ 201)) then
 cX W .u .prog Fail.n [.rdr 0, .int 201] p fun _ (p19 : PS) =>
 some (.undef, p19)
 else
 names.l0 W lim n0 l l (l.length : Int) (IntKind.i64.wrap (i + 1)) p
 else none
 else none
theorem names_l2 (h : a.ok) (lim n0 : Nat) (l : List Ent) (i : Int) (e : Ent) (t : Nat) (he : e.to_ = t) : ∀ (d k n2 : Nat), (t - k) + (a.row.length - k) = d → d < n2 →
  ∃ j : Nat, names.l2 W lim n0 n2 l i k l l.length i e.from_ e.to_ e.named (toP a) = nameEnd lim n0 l i j (toP a) ∧
   (((a.row.take t).drop k).any (fun x => !triv x) = true → j < a.row.length ∧ a.first k = some (a.row.getD j (El.dflt .made)))
 | _, k, 0, hd, hn => by omega
 | d, k, n2 + 1, hd, hn => by
  have hrl := h.row
  rw [names.l2_succ]
  by_cases c1 : (k : Int) < e.to_
  rotate_left
  ·rw [if_neg (by simp only [decide_eq_true_eq]; exact c1)]
   refine ⟨k, rfl, fun hany => ?_⟩
   rw [List.drop_of_length_le (by simp; omega)] at hany
   cases hany
  rw [if_pos (decide_eq_true c1)]
  by_cases c2 : k < a.row.length
  rotate_left
  ·rw [if_neg (by simp only [decide_eq_true_eq]; show ¬ (k : Int) < (a.row.length : Int); omega)]
   refine ⟨k, rfl, fun hany => ?_⟩
   rw [List.drop_of_length_le (by simp; omega)] at hany
   cases hany
  have c3 : (k : Int) < (((toP a).row).length : Int) := by show (k : Int) < (a.row.length : Int); omega
  rw [if_pos (decide_eq_true c3), if_pos (by omega), if_pos c3]
  rw [show Int.toNat (k : Int) = k from Int.toNat_natCast k]
  have hf := first_at (a := a) k c2
  by_cases ht : triv (a.row.getD k (El.dflt .made)) = true
  ·rw [if_pos (by exact ht), wi _ (by omega) (by omega)]
   rw [if_pos ht] at hf
   obtain ⟨j, j1, j2⟩ := names_l2 h lim n0 l i e t he ((t - (k + 1)) + (a.row.length - (k + 1))) (k + 1) n2 rfl (by omega)
   rw [Int.natCast_add, Int.natCast_one] at j1 j2
   refine ⟨j, j1, fun hany => ?_⟩
   rw [hf]
   refine j2 ?_
   have hx : ((a.row.take t).drop k) = a.row.getD k (El.dflt .made) :: ((a.row.take t).drop (k + 1)) := by
    rw [List.drop_eq_getElem_cons (by simp; omega), List.getElem_take, List.getD_eq_getElem?_getD, List.getElem?_eq_getElem c2]; rfl
   rw [hx, List.any_cons, ht] at hany
   simpa using hany
  ·rw [if_neg (by exact ht)]
   rw [if_neg ht] at hf
   refine ⟨k, ?_, fun _ => ⟨c2, hf⟩⟩
   unfold nameEnd
   rw [show Int.toNat (k : Int) = k from Int.toNat_natCast k]
theorem names_l0 (h : a.ok) (lim : Nat) (l : List Ent) (hl : l.length < 4294967296) (hp : EntPos l) (hlim : 4294967296 + a.row.length < lim) : ∀ (d i n0 : Nat), i + d = l.length → d < n0 →
  ∃ b : Bool, names.l0 W lim n0 l l l.length i (toP a) = some (.undef, toP (if b = true then a.fail 201 else a)) ∧
   (∀ m, entsOK a.row m (l.drop i) = true → b = badEnts a (l.drop i))
 | _, i, 0, hi, hn => by omega
 | 0, i, n0 + 1, hi, hn => by
  refine ⟨false, ?_, fun m _ => ?_⟩
  ·rw [names.l0_succ, if_neg (by simp; omega)]; rfl
  ·rw [List.drop_of_length_le (by omega)]; rfl
 | d + 1, i, n0 + 1, hi, hn => by
  have hx := ent_getD (l := l) (i := i) (by omega)
  have hm := hp _ (ent_mem (l := l) (i := i) (by omega))
  rw [names.l0_succ, if_pos (by simp; omega), if_pos (by omega), if_pos (by omega), Int.toNat_natCast, hx]
  obtain ⟨b, b1, b2⟩ := names_l0 h lim l hl hp hlim d (i + 1) n0 (by omega) (by omega)
  rw [Int.natCast_add, Int.natCast_one] at b1
  generalize l.getD i (El.dflt .ent) = e at hm hx ⊢
  by_cases hnm : e.named = true
  ·refine ⟨b, ?_, fun m hok => ?_⟩
   ·rw [if_pos hnm, wi _ (by omega) (by omega)]; exact b1
   ·simp only [entsOK, Bool.and_eq_true] at hok
    rw [b2 _ hok.2.2.2, badEnts_cons, hnm]; rfl
  ·rw [if_neg hnm]
   obtain ⟨k, hk⟩ : ∃ k : Nat, e.from_ = k := ⟨e.from_.toNat, by omega⟩
   obtain ⟨t, ht⟩ : ∃ t : Nat, e.to_ = t := ⟨e.to_.toNat, by omega⟩
   obtain ⟨j, j1, j2⟩ := names_l2 h lim n0 l i e t ht _ k lim rfl (by omega)
   rw [← hk] at j1 j2
   rw [j1]
   have hlast : decide ((i : Int) = IntKind.i64.wrap ((l.length : Int) - 1)) = (l.drop (i + 1)).isEmpty := by
    rw [wi _ (by omega) (by omega)]
    by_cases hz : d = 0
    ·rw [List.drop_of_length_le (by omega), decide_eq_true (by omega)]; rfl
    ·rw [decide_eq_false (by omega), ent_getD (by omega)]; rfl
   have hnf : e.named = false := by simpa using hnm
   unfold nameEnd
   simp only [show (toP a).row = a.row from rfl]
   by_cases hz : (l.drop (i + 1)).isEmpty = true
   ·rw [if_pos (by rw [hlast]; exact hz), cX_u (W_Fail h 201)]
    refine ⟨true, rfl, fun m hok => ?_⟩
    rw [badEnts_cons, hnf, hz]; rfl
   rw [if_neg (by rw [hlast]; exact hz)]
   by_cases c1 : (j : Int) ≥ (a.row.length : Int)
   ·rw [if_pos (decide_eq_true c1), cX_u (W_Fail h 201)]
    refine ⟨true, rfl, fun m hok => ?_⟩
    simp only [entsOK, Bool.and_eq_true] at hok
    have := (j2 (by have := hok.2.2.1; rw [ht, hk] at this; simpa using this)).1
    omega
   rw [if_neg (by simp only [decide_eq_true_eq]; exact c1), if_pos (by omega), if_pos (by omega)]
   simp only [show Int.toNat (j : Int) = j from Int.toNat_natCast j]
   have efst : ∀ m, entsOK a.row m (e :: l.drop (i + 1)) = true → a.first e.from_ = some (a.row.getD j (El.dflt .made)) := by
    intro m hok
    simp only [entsOK, Bool.and_eq_true] at hok
    exact (j2 (by have := hok.2.2.1; rw [ht, hk] at this; simpa using this)).2
   by_cases c2 : Node.k (a.row.getD j (El.dflt .made)).n = 201
   ·rw [if_neg (by simp only [decide_eq_true_eq]; exact fun hc => hc c2), wi _ (by omega) (by omega)]
    refine ⟨b, b1, fun m hok => ?_⟩
    rw [badEnts_cons, efst m hok]
    simp only [entsOK, Bool.and_eq_true] at hok
    rw [b2 _ hok.2.2.2, hnf]
    simp only [c2]
    have : (l.drop (i + 1)).isEmpty = false := by simpa using hz
    rw [this]; rfl
   ·rw [if_pos (decide_eq_true c2), cX_u (W_Fail h 201)]
    refine ⟨true, rfl, fun m hok => ?_⟩
    rw [badEnts_cons, efst m hok, hnf]
    dsimp only
    rw [decide_eq_false c2]
    simp
theorem W_names (h : a.ok) (l : List Ent) (hl : l.length < 4294967296) (hp : EntPos l) (hok : a.dead = true ∨ entsOK a.row 0 l = true) :
  W .prog names.n [.rdr 0, .sl .ent l] (toP a) = some (.undef, toP (a.names l)) := by
 refine fx names.fd (8589934592 + a.row.length) ?_
 rw [names_eq]
 obtain ⟨b, b1, b2⟩ := names_l0 h (8589934592 + a.row.length) l hl hp (by omega) l.length 0 (8589934592 + a.row.length) (by omega) (by omega)
 refine b1.trans ?_
 unfold A.names
 rcases hok with hd | hok
 ·rw [fail_dead hd]; simp
 ·rw [b2 0 (by rw [List.drop_zero]; exact hok), List.drop_zero]
structure EntsAt (row : List Made) (l : List Ent) : Prop where
 seg : ∀ j, j < l.length → 0 ≤ (l.getD j (El.dflt .ent)).from_ ∧ (l.getD j (El.dflt .ent)).from_ ≤ (l.getD j (El.dflt .ent)).to_ ∧ (l.getD j (El.dflt .ent)).to_ ≤ (row.length : Int) ∧
  ((row.take (l.getD j (El.dflt .ent)).to_.toNat).drop (l.getD j (El.dflt .ent)).from_.toNat).any (fun x => !triv x) = true
 nxt : ∀ j, j + 1 < l.length → (l.getD j (El.dflt .ent)).to_ ≤ (l.getD (j + 1) (El.dflt .ent)).from_
theorem entsOK_le {row : List Made} : ∀ {l : List Ent} {m : Int}, entsOK row m l = true → m ≤ (row.length : Int)
 | [], m, h => by simpa [entsOK] using h
 | e :: r, m, h => by
  simp only [entsOK, Bool.and_eq_true, decide_eq_true_eq] at h
  have := entsOK_le h.2.2.2
  omega
theorem entsAt_of {row : List Made} : ∀ {l : List Ent} {m : Int}, 0 ≤ m → entsOK row m l = true → EntsAt row l ∧ (∀ e, l.head? = some e → m ≤ e.from_)
 | [], m, _, h => ⟨⟨fun j hj => by simp at hj, fun j hj => by simp at hj⟩, fun e he => by simp at he⟩
 | e :: r, m, hm, h => by
  simp only [entsOK, Bool.and_eq_true, decide_eq_true_eq] at h
  obtain ⟨h1, h2, h3, h4⟩ := h
  obtain ⟨ih, ih2⟩ := entsAt_of (by omega) h4
  refine ⟨⟨fun j hj => ?_, fun j hj => ?_⟩, fun x hx => ?_⟩
  ·cases j with
   | zero => exact ⟨by simp only [List.getD_cons_zero]; omega, h2, entsOK_le h4, h3⟩
   | succ j => simpa using ih.seg j (by simpa using hj)
  ·cases j with
   | zero =>
    simp only [List.getD_cons_zero, List.getD_cons_succ]
    cases r with
    | nil => simp at hj
    | cons y q => exact ih2 y rfl
   | succ j => simpa using ih.nxt j (by simpa using hj)
  ·simp only [List.head?_cons, Option.some.injEq] at hx; subst hx; exact h1
theorem close_row {b : A} (hd : b.dg = none) (m kind : Int) : (b.close m kind).row = b.row.take (b.clamp m) ++ ((b.row.drop (b.clamp m)).takeWhile triv ++ [b.closed (b.clamp m) kind]) ∧ (b.close m kind).pre = b.pre ∧ (b.close m kind).rest = b.rest ∧ (b.close m kind).opn = b.opn := by
 unfold A.close
 rw [hd]
 simp only
 split
 ·obtain ⟨h1, h2, h3, h4⟩ := fail_dg (a := { b with row := b.row.take (b.clamp m) ++ ((b.row.drop (b.clamp m)).takeWhile triv ++ [b.closed (b.clamp m) kind]), dg := none }) 202
  exact ⟨h3, h1, h2, h4⟩
 ·exact ⟨rfl, rfl, rfl, rfl⟩
theorem close_dead {b : A} (hd : b.dead = true) (m kind : Int) : b.close m kind = b := by
 unfold A.dead at hd; unfold A.close
 cases hg : b.dg with
 | none => rw [hg] at hd; cases hd
 | some d => rfl
theorem dropWhile_pos {l : List Made} (h : l.any (fun x => !triv x) = true) : 0 < (l.dropWhile triv).length := by
 induction l with
 | nil => cases h
 | cons x r ih =>
  rw [List.dropWhile_cons]
  split
  ·rename_i hx
   rw [List.any_cons, hx] at h
   exact ih (by simpa using h)
  ·simp
theorem group1_ok {b : A} (h : b.good) (hr : b.row.length + b.rest.length + 8 < 4294967264) {f t : Nat} (hft : f ≤ t) (ht : t ≤ b.row.length) (hany : b.dead = true ∨ ((b.row.take t).drop f).any (fun x => !triv x) = true) :
  (A.group1 (f, t) b).good ∧ (A.group1 (f, t) b).rest = b.rest ∧ (A.group1 (f, t) b).row.length ≤ b.row.length ∧ f ≤ (A.group1 (f, t) b).row.length ∧ (A.group1 (f, t) b).row.take f = b.row.take f ∧ (b.dead = true → A.group1 (f, t) b = b) := by
 have hcut : A.good { b with row := b.row.take t } := ⟨⟨h.pre, h.len, h.opn, fun x hx => h.high x (List.mem_of_mem_take hx), by simp; omega⟩, fun hd x hx => h.low hd x (List.mem_of_mem_take hx)⟩
 have hroom : A.room { b with row := b.row.take t } = true := by rw [room_iff]; simp; omega
 have hcl := good_close hcut hroom (f : Int) 233
 have hg1 : A.group1 (f, t) b = { A.close (f : Int) 233 { b with row := b.row.take t } with row := (A.close (f : Int) 233 { b with row := b.row.take t }).row ++ b.row.drop t } := by
  unfold A.group1; simp
 rw [hg1]
 by_cases hd : b.dead = true
 ·have hd2 : A.dead { b with row := b.row.take t } = true := hd
  rw [close_dead hd2]
  refine ⟨?_, rfl, by simp, by simp; omega, ?_, fun _ => by simp⟩
  ·simpa using h
  ·simp
 have hd : b.dead = false := by simpa using hd
 have hdg : ({ b with row := b.row.take t } : A).dg = none := dg_live hd
 obtain ⟨r1, r2, r3, r4⟩ := close_row hdg (f : Int) 233
 have hclamp : A.clamp { b with row := b.row.take t } (f : Int) = f := by unfold A.clamp; simp; omega
 rw [hclamp] at r1
 simp only at r1
 have hpos := dropWhile_pos (hany.resolve_left (by rw [hd]; decide))
 have hsum : (((b.row.take t).drop f).takeWhile triv).length + (((b.row.take t).drop f).dropWhile triv).length = t - f := by
  rw [← List.length_append, List.takeWhile_append_dropWhile]; simp; omega
 have hlen : (A.close (f : Int) 233 { b with row := b.row.take t }).row.length ≤ t ∧ f ≤ (A.close (f : Int) 233 { b with row := b.row.take t }).row.length := by
  rw [r1]; simp only [List.length_append, List.length_take, List.length_singleton]; omega
 refine ⟨⟨⟨by simp only [r2]; exact h.pre, by simp only [r2, r3]; exact h.len, by simp only [r4]; exact h.opn, fun x hx => ?_, by simp; omega⟩, fun hd2 x hx => ?_⟩, r3, by simp; omega, by simp; omega, ?_, fun hc => by rw [hd] at hc; cases hc⟩
 ·simp only [List.mem_append] at hx
  rcases hx with hx | hx
  ·exact hcl.high x hx
  ·exact h.high x (List.mem_of_mem_drop hx)
 ·simp only [List.mem_append] at hx
  rcases hx with hx | hx
  ·exact hcl.low hd2 x hx
  ·exact h.low hd x (List.mem_of_mem_drop hx)
 ·rw [List.take_append_of_le_length hlen.2, r1, List.take_append_of_le_length (by simp; omega), List.take_take, List.take_take]
  congr 1; omega
theorem toP_row (b : A) (r : List Made) : { toP b with row := r } = toP { b with row := r } := by simp [toP, A.dead]
noncomputable def groupEnd (lim n0 : Nat) (l : List Ent) (any : Bool) (i k : Int) (p : PS) : Option (AV × PS) :=
 if 0 ≤ i then
 if i < ((l).length : Int) then
 if 0 ≤ ((List.getD l (Int.toNat i) (El.dflt .ent)).to_) then
 if ((List.getD l (Int.toNat i) (El.dflt .ent)).to_) ≤ ((p.row).length : Int) then
 if ((List.drop (Int.toNat ((List.getD l (Int.toNat i) (El.dflt .ent)).to_)) p.row)).length < maxRow then
 if 0 ≤ i then
 if i < ((l).length : Int) then
 if 0 ≤ ((List.getD l (Int.toNat i) (El.dflt .ent)).to_) then
 if ((List.getD l (Int.toNat i) (El.dflt .ent)).to_) ≤ ((p.row).length : Int) then
 if 0 ≤ k then
 if k < ((l).length : Int) then
 cX W .u .prog Close.n [.rdr 0, .int ((List.getD l (Int.toNat k) (El.dflt .ent)).from_), .int 233] ({ p with row := (List.take (Int.toNat ((List.getD l (Int.toNat i) (El.dflt .ent)).to_)) p.row) }) fun _ (p9 : PS) =>
 if (p9.row).length + ((List.drop (Int.toNat ((List.getD l (Int.toNat i) (El.dflt .ent)).to_)) p.row)).length < maxRow then
 group.l0 W lim n0 l any (IntKind.i64.wrap (k - 1)) ({ p9 with row := (p9.row ++ (List.drop (Int.toNat ((List.getD l (Int.toNat i) (El.dflt .ent)).to_)) p.row)) })
 else none
 else none
 else none
 else none
 else none
 else none
 else none
 else none
 else none
 else none
 else none
 else none
theorem group_l2_step (lim n0 n2 : Nat) (l : List Ent) (any : Bool) (i k : Int) (p : PS) : group.l2 W lim n0 (n2 + 1) l any i k p =
  if any = true then (if decide (k > 0) = true then (if 0 ≤ (IntKind.i64.wrap (k - 1)) then (if (IntKind.i64.wrap (k - 1)) < ((l).length : Int) then
   (if (!((List.getD l (Int.toNat (IntKind.i64.wrap (k - 1))) (El.dflt .ent)).named)) = true then group.l2 W lim n0 n2 l any i (IntKind.i64.wrap (k - 1)) p else groupEnd lim n0 l any i k p) else none) else none)
   else groupEnd lim n0 l any i k p) else groupEnd lim n0 l any i k p := group.l2_succ W lim n0 n2 l any i k p
theorem groupEnd_ok (lim n0 : Nat) (l : List Ent) (any : Bool) (i k : Nat) {b : A} (hb : b.good) (hr : b.row.length + b.rest.length + 8 < 4294967264) (hi : i < l.length) (hk : k < l.length) (hll : l.length < 4294967296) {f t : Nat} (hf : (l.getD k (El.dflt .ent)).from_ = f) (ht : (l.getD i (El.dflt .ent)).to_ = t)
  (hft : f ≤ t) (htl : t ≤ b.row.length) (hany : b.dead = true ∨ ((b.row.take t).drop f).any (fun x => !triv x) = true) :
  groupEnd lim n0 l any i k (toP b) = group.l0 W lim n0 l any ((k : Int) - 1) (toP (A.group1 (f, t) b)) := by
 have hcut : A.good { b with row := b.row.take t } := ⟨⟨hb.pre, hb.len, hb.opn, fun x hx => hb.high x (List.mem_of_mem_take hx), by simp; omega⟩, fun hd x hx => hb.low hd x (List.mem_of_mem_take hx)⟩
 have hroom : A.room { b with row := b.row.take t } = true := by rw [room_iff]; simp; omega
 obtain ⟨g1, g2, g3, g4, g5, g6⟩ := group1_ok hb hr hft htl hany
 unfold groupEnd
 simp only [Int.toNat_natCast, hf, ht, show (toP b).row = b.row from rfl]
 have c1 : ((b.row.drop t).length) < maxRow := by simp only [List.length_drop]; unfold maxRow; omega
 rw [if_pos (by omega), if_pos (by omega), if_pos (by omega), if_pos (by omega), if_pos c1, if_pos (by omega), if_pos (by omega), if_pos (by omega), if_pos (by omega), if_pos (by omega), if_pos (by omega)]
 rw [toP_row, cX_u (W_Close hcut hroom (f : Int) 233)]
 have hlen : ((A.close (f : Int) 233 { b with row := b.row.take t }).row ++ b.row.drop t).length ≤ b.row.length := by
  have : A.group1 (f, t) b = { A.close (f : Int) 233 { b with row := b.row.take t } with row := (A.close (f : Int) 233 { b with row := b.row.take t }).row ++ b.row.drop t } := by
   unfold A.group1; simp
  rw [this] at g3; exact g3
 rw [if_pos (by rw [List.length_append] at hlen; show (A.close (f : Int) 233 { b with row := b.row.take t }).row.length + _ < maxRow; unfold maxRow; omega), wi _ (by omega) (by omega), toP_row]
 unfold A.group1
 simp only [Int.toNat_natCast]
 rfl
theorem backG_cons (any : Bool) (t f : Int) (x : Ent) (r : List Ent) : backG any t f (x :: r) = if (any && !x.named) = true then backG any t x.from_ r else (f, t) :: backG any x.to_ x.from_ r := rfl
theorem group_l2 (lim : Nat) (l : List Ent) (any : Bool) (row : List Made) (hl : l.length < 4294967296) (hE : EntsAt row l) (rest : List Tok) (hr : row.length + rest.length + 8 < 4294967264) (hlim : l.length < lim) : ∀ (k i n0 n2 : Nat) (b : A), k ≤ i → i < l.length → k < n2 → k < n0 →
  b.good → b.rest = rest → b.row.length ≤ row.length → (l.getD i (El.dflt .ent)).to_ ≤ (b.row.length : Int) → (l.getD k (El.dflt .ent)).from_ ≤ (l.getD i (El.dflt .ent)).to_ →
  ((row.take (l.getD i (El.dflt .ent)).to_.toNat).drop (l.getD k (El.dflt .ent)).from_.toNat).any (fun x => !triv x) = true →
  (b.row.take (l.getD i (El.dflt .ent)).to_.toNat = row.take (l.getD i (El.dflt .ent)).to_.toNat) →
  group.l2 W lim n0 n2 l any i k (toP b) = some (.undef, toP ((backG any (l.getD i (El.dflt .ent)).to_ (l.getD k (El.dflt .ent)).from_ (l.take k).reverse).foldl (fun b g => A.group1 g b) b))
 | _, _, _, 0, _, _, _, hn, _, _, _, _, _, _, _, _ => by omega
 | k, i, n0, n2 + 1, b, hki, hi, hn2, hn0, hb, hrest, hbl, hto, hfr, hany, htk => by
  have hsk := hE.seg k (by omega)
  have hsi := hE.seg i hi
  rw [group_l2_step]
  obtain ⟨f, hf⟩ : ∃ f : Nat, (l.getD k (El.dflt .ent)).from_ = f := ⟨(l.getD k (El.dflt .ent)).from_.toNat, by omega⟩
  obtain ⟨t, ht⟩ : ∃ t : Nat, (l.getD i (El.dflt .ent)).to_ = t := ⟨(l.getD i (El.dflt .ent)).to_.toNat, by omega⟩
  rw [hf, ht] at hfr
  rw [ht] at hto
  have hfr' : f ≤ t := by omega
  have hto' : t ≤ b.row.length := by omega
  have hany' : ((b.row.take t).drop f).any (fun x => !triv x) = true := by
   rw [ht, Int.toNat_natCast] at htk
   rw [hf, ht, Int.toNat_natCast, Int.toNat_natCast] at hany
   rw [htk]; exact hany
  have hend := groupEnd_ok lim n0 l any i k hb (by rw [hrest]; omega) hi (by omega) hl hf ht hfr' hto' (.inr hany')
  obtain ⟨g1, g2, g3, g4, g5, g6⟩ := group1_ok hb (by rw [hrest]; omega) hfr' hto' (.inr hany')
  -- what follows a group
  have hfin : ∀ x : List (Int × Int), (k = 0 → x = []) → (∀ j, k = j + 1 → x = backG any (l.getD j (El.dflt .ent)).to_ (l.getD j (El.dflt .ent)).from_ (l.take j).reverse) →
    groupEnd lim n0 l any i k (toP b) = some (.undef, toP ((((f : Int), (t : Int)) :: x).foldl (fun b g => A.group1 g b) b)) := by
   intro x x0 x1
   rw [hend]
   obtain ⟨m, rfl⟩ : ∃ m, n0 = m + 1 := ⟨n0 - 1, by omega⟩
   rw [group.l0_succ]
   cases k with
   | zero => rw [if_neg (by simp), x0 rfl]; rfl
   | succ j =>
    have hsj := hE.seg j (by omega)
    have hnx := hE.nxt j (by omega)
    have e : ((j + 1 : Nat) : Int) - 1 = j := by omega
    rw [e, if_pos (by simp), x1 j rfl, List.foldl_cons]
    have hjt : (l.getD j (El.dflt .ent)).to_ ≤ (f : Int) := by rw [← hf]; exact hnx
    have htk2 : (A.group1 ((f : Int), (t : Int)) b).row.take (l.getD j (El.dflt .ent)).to_.toNat = row.take (l.getD j (El.dflt .ent)).to_.toNat := by
     have e1 : ∀ r : List Made, (r.take f).take (l.getD j (El.dflt .ent)).to_.toNat = r.take (l.getD j (El.dflt .ent)).to_.toNat := fun r => by
      rw [List.take_take]; congr 1; omega
     have e2 : ∀ r : List Made, (r.take t).take f = r.take f := fun r => by rw [List.take_take]; congr 1; omega
     rw [ht, Int.toNat_natCast] at htk
     rw [← e1, g5, ← e2, htk, e2, e1]
    exact group_l2 lim l any row hl hE rest hr hlim j j m lim (A.group1 ((f : Int), (t : Int)) b) (Nat.le_refl _) (by omega) (by omega) (by omega) g1 (by rw [g2]; exact hrest) (by omega) (by omega) hsj.2.1 hsj.2.2.2 htk2
  rw [hf, ht]
  by_cases ha : any = true
  rotate_left
  ·rw [if_neg ha]
   have haf : any = false := by simpa using ha
   cases k with
   | zero => exact hfin [] (fun _ => rfl) (fun j hj => by omega)
   | succ j =>
    have hrev : (l.take (j + 1)).reverse = l.getD j (El.dflt .ent) :: (l.take j).reverse := by
     rw [List.take_add_one, List.getElem?_eq_getElem (by omega)]
     simp [List.getD_eq_getElem?_getD, List.getElem?_eq_getElem (show j < l.length by omega)]
    rw [hrev, backG_cons, if_neg (by rw [haf]; simp)]
    exact hfin _ (fun hk => by omega) (fun j' hj' => by
     have : j' = j := by omega
     rw [this])
  rw [if_pos ha]
  cases k with
  | zero =>
   rw [if_neg (by simp)]
   exact hfin [] (fun _ => rfl) (fun j hj => by omega)
  | succ j =>
   have hsj := hE.seg j (by omega)
   have hnx := hE.nxt j (by omega)
   have e : ((j + 1 : Nat) : Int) - 1 = j := by omega
   rw [if_pos (by simp), e, wi _ (by omega) (by omega), if_pos (by omega), if_pos (by omega), Int.toNat_natCast]
   have hrev : (l.take (j + 1)).reverse = l.getD j (El.dflt .ent) :: (l.take j).reverse := by
    rw [List.take_add_one, List.getElem?_eq_getElem (by omega)]
    simp [List.getD_eq_getElem?_getD, List.getElem?_eq_getElem (show j < l.length by omega)]
   rw [hrev]
   by_cases hnm : (l.getD j (El.dflt .ent)).named = true
   ·rw [if_neg (by rw [hnm]; decide), backG_cons, if_neg (by rw [ha, hnm]; decide)]
    exact hfin _ (fun hk => by omega) (fun j' hj' => by
     have : j' = j := by omega
     rw [this])
   ·have hnf : (l.getD j (El.dflt .ent)).named = false := by simpa using hnm
    rw [if_pos (by rw [hnf]; decide)]
    have hfj : (l.getD j (El.dflt .ent)).from_ ≤ (l.getD i (El.dflt .ent)).to_ := by omega
    have hanyj : ((row.take (l.getD i (El.dflt .ent)).to_.toNat).drop (l.getD j (El.dflt .ent)).from_.toNat).any (fun x => !triv x) = true := by
     rw [List.any_eq_true] at hany ⊢
     obtain ⟨x, x1, x2⟩ := hany
     refine ⟨x, ?_, x2⟩
     have hle : (l.getD j (El.dflt .ent)).from_.toNat ≤ (l.getD (j + 1) (El.dflt .ent)).from_.toNat := by omega
     have : (row.take (l.getD i (El.dflt .ent)).to_.toNat).drop (l.getD (j + 1) (El.dflt .ent)).from_.toNat = ((row.take (l.getD i (El.dflt .ent)).to_.toNat).drop (l.getD j (El.dflt .ent)).from_.toNat).drop ((l.getD (j + 1) (El.dflt .ent)).from_.toNat - (l.getD j (El.dflt .ent)).from_.toNat) := by
      rw [List.drop_drop]; congr 1; omega
     rw [this] at x1
     exact List.mem_of_mem_drop x1
    have := group_l2 lim l any row hl hE rest hr hlim j i n0 n2 b (by omega) hi (by omega) (by omega) hb hrest hbl (by rw [ht]; omega) hfj hanyj htk
    rw [this, ht, backG_cons, if_pos (by rw [ha, hnf]; decide)]
theorem W_group (h : a.good) (any : Bool) (l : List Ent) (hl : l.length < 4294967296) (hok : a.dead = true ∨ (a.room = true ∧ entsOK a.row 0 l = true)) :
  W .prog group.n [.rdr 0, .sl .ent l, .bool any] (toP a) = some (.undef, toP (a.group any l)) := by
 refine fx group.fd (l.length + 2) ?_
 rw [group_eq]
 unfold A.group
 cases hd : a.dg with
 | some d => rw [if_pos (toP_dead d hd)]
 | none =>
  have hdd := live_of hd
  obtain ⟨hr, he⟩ := hok.resolve_left (by rw [hdd]; decide)
  rw [room_iff] at hr
  rw [if_neg (by show ¬ a.dead = true; rw [hdd]; decide), wi _ (by omega) (by omega), group.l0_succ]
  obtain ⟨hE, _⟩ := entsAt_of (Int.le_refl 0) he
  by_cases hz : l = []
  ·subst hz; rfl
  ·obtain ⟨i, hi⟩ : ∃ i, l.length = i + 1 := ⟨l.length - 1, by have := List.length_pos_iff.2 hz; omega⟩
   have e : (l.length : Int) - 1 = i := by omega
   rw [e, if_pos (by simp)]
   have hsi := hE.seg i (by omega)
   have := group_l2 (l.length + 2) l any a.row hl hE a.rest (by omega) (by omega) i i (l.length + 1) (l.length + 2) a (Nat.le_refl _) (by omega) (by omega) (by omega) h rfl (Nat.le_refl _) hsi.2.2.1 hsi.2.1 hsi.2.2.2 rfl
   rw [this]
   have hrev : l.reverse = l.getD i (El.dflt .ent) :: (l.take i).reverse := by
    conv => lhs; rw [show l = l.take (i + 1) by rw [List.take_of_length_le (by omega)]]
    rw [List.take_add_one, List.getElem?_eq_getElem (by omega)]
    simp [List.getD_eq_getElem?_getD, List.getElem?_eq_getElem (show i < l.length by omega)]
   rw [hrev]; rfl
end
end Go.AI.Rd
namespace Go.AI.Rd
section
variable {a : A}
theorem fail_rest (c : Int) : (a.fail c).rest = a.rest := (fail_dg c).2.1
theorem take_rest : a.take.rest.length ≤ a.rest.length := by
 unfold A.take
 split
 ·exact Nat.le_refl _
 ·split
  ·exact Nat.le_refl _
  ·rename_i s t r hc
   obtain ⟨h1, _, _⟩ := cutSig_some hc
   rw [h1]; simp; omega
theorem take_lt (hk : a.kinds.getD 0 0 ≠ 0) : a.take.rest.length < a.rest.length := by
 unfold A.kinds at hk; unfold A.take
 cases hd : a.dg with
 | some d => rw [hd] at hk; exact absurd rfl hk
 | none =>
  rw [hd] at hk
  cases hc : cutSig a.rest with
  | none => simp only [cutSig_none hc] at hk; exact absurd rfl hk
  | some x =>
   obtain ⟨s, t, r⟩ := x
   obtain ⟨h1, _, _⟩ := cutSig_some hc
   simp only
   rw [h1]; simp; omega
theorem none_rest : a.none_.rest = a.rest := by unfold A.none_; split <;> rfl
theorem close_rest (m k : Int) : (a.close m k).rest = a.rest := by
 cases hd : a.dg with
 | none => exact (close_row hd m k).2.2.1
 | some d => rw [close_dead (by unfold A.dead; rw [hd]; rfl)]
theorem gap_rest (m : Int) : (a.gap m).rest = a.rest := by unfold A.gap; split <;> rfl
theorem gap_mem {m : Int} {x : Made} (h : x ∈ (a.gap m).row) : x ∈ a.row ∨ x.h = 0 := by
 unfold A.gap at h
 split at h
 ·exact .inl h
 ·simp only [List.mem_append, List.mem_cons] at h
  rcases h with h | rfl | h
  ·exact .inl (List.mem_of_mem_take h)
  ·exact .inr rfl
  ·exact .inl (List.mem_of_mem_drop h)
theorem gap_len (m : Int) : (a.gap m).row.length ≤ a.row.length + 1 := by
 unfold A.gap
 split
 ·omega
 ·simp only [List.length_append, List.length_take, List.length_cons, List.length_drop]; omega
theorem good_gap (h : a.good) (hr : a.room = true) (m : Int) : (a.gap m).good := by
 rw [room_iff] at hr
 have h1 : (a.gap m).pre = a.pre ∧ (a.gap m).opn = a.opn ∧ (a.gap m).dead = a.dead := by
  unfold A.gap A.dead; cases hd : a.dg <;> simp [hd]
 have hl := gap_len (a := a) m
 refine ⟨⟨by rw [h1.1]; exact h.pre, by rw [h1.1, gap_rest]; exact h.len, by rw [h1.2.1]; exact h.opn, fun x hx => ?_, by omega⟩, fun hd x hx => ?_⟩
 ·rcases gap_mem hx with hx | hx
  ·exact h.high x hx
  ·omega
 ·rw [h1.2.2] at hd
  rcases gap_mem hx with hx | hx
  ·exact h.low hd x hx
  ·omega
theorem down_rest : a.down.2.rest = a.rest := by
 unfold A.down; split
 ·rfl
 ·split
  ·exact fail_rest _
  ·rfl
theorem names_good (h : a.good) (l : List Ent) : (a.names l).good := by
 unfold A.names; split
 ·exact good_fail h _
 ·exact h
theorem names_rest (l : List Ent) : (a.names l).rest = a.rest := by
 unfold A.names; split
 ·exact fail_rest _
 ·rfl
end
theorem dead_cases {a : A} (hd : a.dead = true) : ∃ d, a.dg = some d := by
 unfold A.dead at hd
 cases hg : a.dg with
 | none => rw [hg] at hd; cases hd
 | some d => exact ⟨d, rfl⟩
theorem group_dead {a : A} (hd : a.dead = true) (any : Bool) (l : List Ent) : a.group any l = a := by obtain ⟨d, hg⟩ := dead_cases hd; unfold A.group; rw [hg]
def ROk (a b : A) : Prop := b.good ∧ b.rest.length ≤ a.rest.length
section
variable {cf : Proc → A → List Int → Option (Int × A)}
theorem group_good {a : A} (h : a.good) (any : Bool) (l : List Ent) (hl : l.length < 4294967296) (hok : a.dead = true ∨ (a.room = true ∧ entsOK a.row 0 l = true)) : (a.group any l).good ∧ (a.group any l).rest = a.rest ∧ (a.group any l).row.length ≤ a.row.length := by
 -- the same walk over the groups, plainly
 have key : ∀ (row : List Made) (rest : List Tok), EntsAt row l → row.length + rest.length + 8 < 4294967264 → ∀ (k i : Nat) (b : A), k ≤ i → i < l.length → b.good → b.rest = rest → b.row.length ≤ row.length →
   (l.getD i (El.dflt .ent)).to_ ≤ (b.row.length : Int) → (l.getD k (El.dflt .ent)).from_ ≤ (l.getD i (El.dflt .ent)).to_ →
   ((row.take (l.getD i (El.dflt .ent)).to_.toNat).drop (l.getD k (El.dflt .ent)).from_.toNat).any (fun x => !triv x) = true →
   (b.row.take (l.getD i (El.dflt .ent)).to_.toNat = row.take (l.getD i (El.dflt .ent)).to_.toNat) →
   ((backG any (l.getD i (El.dflt .ent)).to_ (l.getD k (El.dflt .ent)).from_ (l.take k).reverse).foldl (fun b g => A.group1 g b) b).good ∧
   ((backG any (l.getD i (El.dflt .ent)).to_ (l.getD k (El.dflt .ent)).from_ (l.take k).reverse).foldl (fun b g => A.group1 g b) b).rest = rest ∧
   ((backG any (l.getD i (El.dflt .ent)).to_ (l.getD k (El.dflt .ent)).from_ (l.take k).reverse).foldl (fun b g => A.group1 g b) b).row.length ≤ row.length := by
  intro row rest hE hr k
  induction k using Nat.strongRecOn with
  | _ k ih =>
  intro i b hki hi hb hrest hbl hto hfr hany htk
  have hsk := hE.seg k (by omega)
  have hsi := hE.seg i hi
  obtain ⟨f, hf⟩ : ∃ f : Nat, (l.getD k (El.dflt .ent)).from_ = f := ⟨(l.getD k (El.dflt .ent)).from_.toNat, by omega⟩
  obtain ⟨t, ht⟩ : ∃ t : Nat, (l.getD i (El.dflt .ent)).to_ = t := ⟨(l.getD i (El.dflt .ent)).to_.toNat, by omega⟩
  rw [hf, ht] at hfr
  rw [ht] at hto
  have hfr' : f ≤ t := by omega
  have hto' : t ≤ b.row.length := by omega
  have hany' : ((b.row.take t).drop f).any (fun x => !triv x) = true := by
   rw [ht, Int.toNat_natCast] at htk
   rw [hf, ht, Int.toNat_natCast, Int.toNat_natCast] at hany
   rw [htk]; exact hany
  obtain ⟨g1, g2, g3, g4, g5, g6⟩ := group1_ok hb (by rw [hrest]; omega) hfr' hto' (.inr hany')
  cases k with
  | zero =>
   rw [hf, ht]
   exact ⟨g1, by rw [← hrest]; exact g2, Nat.le_trans g3 hbl⟩
  | succ j =>
   have hsj := hE.seg j (by omega)
   have hnx := hE.nxt j (by omega)
   have hrev : (l.take (j + 1)).reverse = l.getD j (El.dflt .ent) :: (l.take j).reverse := by
    rw [List.take_add_one, List.getElem?_eq_getElem (by omega)]
    simp [List.getD_eq_getElem?_getD, List.getElem?_eq_getElem (show j < l.length by omega)]
   rw [hrev, backG_cons]
   split
   ·have hfj : (l.getD j (El.dflt .ent)).from_ ≤ (l.getD i (El.dflt .ent)).to_ := by omega
    refine ih j (by omega) i b (by omega) hi hb hrest hbl (by rw [ht]; omega) hfj ?_ htk
    rw [List.any_eq_true] at hany ⊢
    obtain ⟨x, x1, x2⟩ := hany
    refine ⟨x, ?_, x2⟩
    have : (row.take (l.getD i (El.dflt .ent)).to_.toNat).drop (l.getD (j + 1) (El.dflt .ent)).from_.toNat = ((row.take (l.getD i (El.dflt .ent)).to_.toNat).drop (l.getD j (El.dflt .ent)).from_.toNat).drop ((l.getD (j + 1) (El.dflt .ent)).from_.toNat - (l.getD j (El.dflt .ent)).from_.toNat) := by
     rw [List.drop_drop]; congr 1; omega
    rw [this] at x1
    exact List.mem_of_mem_drop x1
   ·rw [List.foldl_cons, hf, ht]
    have hjt : (l.getD j (El.dflt .ent)).to_ ≤ (f : Int) := by rw [← hf]; exact hnx
    have htk2 : (A.group1 ((f : Int), (t : Int)) b).row.take (l.getD j (El.dflt .ent)).to_.toNat = row.take (l.getD j (El.dflt .ent)).to_.toNat := by
     have e1 : ∀ r : List Made, (r.take f).take (l.getD j (El.dflt .ent)).to_.toNat = r.take (l.getD j (El.dflt .ent)).to_.toNat := fun r => by
      rw [List.take_take]; congr 1; omega
     have e2 : ∀ r : List Made, (r.take t).take f = r.take f := fun r => by rw [List.take_take]; congr 1; omega
     rw [ht, Int.toNat_natCast] at htk
     rw [← e1, g5, ← e2, htk, e2, e1]
    exact ih j (by omega) j (A.group1 ((f : Int), (t : Int)) b) (Nat.le_refl _) (by omega) g1 (by rw [g2]; exact hrest) (by omega) (by omega) hsj.2.1 hsj.2.2.2 htk2
 unfold A.group
 cases hd : a.dg with
 | some d => exact ⟨h, rfl, Nat.le_refl _⟩
 | none =>
  have hdd := live_of hd
  obtain ⟨hr, he⟩ := hok.resolve_left (by rw [hdd]; decide)
  rw [room_iff] at hr
  obtain ⟨hE, _⟩ := entsAt_of (Int.le_refl 0) he
  by_cases hz : l = []
  ·subst hz; exact ⟨h, rfl, Nat.le_refl _⟩
  ·obtain ⟨i, hi⟩ : ∃ i, l.length = i + 1 := ⟨l.length - 1, by have := List.length_pos_iff.2 hz; omega⟩
   have hsi := hE.seg i (by omega)
   have hrev : l.reverse = l.getD i (El.dflt .ent) :: (l.take i).reverse := by
    conv => lhs; rw [show l = l.take (i + 1) by rw [List.take_of_length_le (by omega)]]
    rw [List.take_add_one, List.getElem?_eq_getElem (by omega)]
    simp [List.getD_eq_getElem?_getD, List.getElem?_eq_getElem (show i < l.length by omega)]
   simp only
   rw [hrev]
   exact key a.row a.rest hE (by omega) i i a (Nat.le_refl _) (by omega) h rfl (Nat.le_refl _) hsi.2.2.1 hsi.2.1 hsi.2.2.2 rfl
theorem entsOf_length : ∀ (ms : List Int) (ns : List Bool), (entsOf ms ns).length ≤ ns.length
 | [], _ => by simp [entsOf]
 | [_], _ => by simp [entsOf]
 | _ :: _ :: ms, [] => by simp [entsOf]
 | f :: t :: ms, b :: ns => by simp only [entsOf, List.length_cons]; have := entsOf_length ms ns; omega
theorem runM_good (hcf : ∀ pr a ms r b, a.good → cf pr a ms = some (r, b) → ROk a b) : ∀ (m : M) (a : A) (ms : List Int) (r : Int) (b : A), a.good → runM cf m a ms = some (r, b) → ROk a b := by
 have tr : ∀ {a b c : A}, b.rest.length ≤ a.rest.length → ROk b c → ROk a c := fun h k => ⟨k.1, Nat.le_trans k.2 h⟩
 intro m
 induction m with
 | ret v => intro a ms r b h hr; simp only [runM, Option.some.injEq, Prod.mk.injEq] at hr; obtain ⟨_, rfl⟩ := hr; exact ⟨h, Nat.le_refl _⟩
 | look f k ih => intro a ms r b h hr; exact ih _ a ms r b h hr
 | lookB f k ih => intro a ms r b h hr; exact ih _ a ms r b h hr
 | dead k ih => intro a ms r b h hr; exact ih _ a ms r b h hr
 | take k ih =>
  intro a ms r b h hr
  simp only [runM] at hr
  split at hr
  ·rename_i hroom; exact tr take_rest (ih _ ms r b (good_take h hroom) hr)
  ·cases hr
 | none_ k ih =>
  intro a ms r b h hr
  simp only [runM] at hr
  split at hr
  ·rename_i hroom; exact tr (by rw [none_rest]; exact Nat.le_refl _) (ih _ ms r b (good_none h hroom) hr)
  ·cases hr
 | mark k ih =>
  intro a ms r b h hr
  simp only [runM] at hr
  split at hr
  ·exact ih a _ r b h hr
  ·cases hr
 | close hh kd k ih =>
  intro a ms r b h hr
  simp only [runM] at hr
  split at hr
  ·rename_i hroom; exact tr (by rw [close_rest]; exact Nat.le_refl _) (ih _ ms r b (good_close h hroom _ _) hr)
  ·cases hr
 | gap hh k ih =>
  intro a ms r b h hr
  simp only [runM] at hr
  split at hr
  ·rename_i hroom; exact tr (by rw [gap_rest]; exact Nat.le_refl _) (ih _ ms r b (good_gap h hroom _) hr)
  ·cases hr
 | last k ih => intro a ms r b h hr; exact ih _ a ms r b h hr
 | down k ih => intro a ms r b h hr; exact tr (by rw [down_rest]; exact Nat.le_refl _) (ih _ _ ms r b (good_down h) hr)
 | up k ih => intro a ms r b h hr; exact tr (b := a.up) (Nat.le_refl a.rest.length) (ih _ ms r b (good_up h) hr)
 | fail c k ih => intro a ms r b h hr; exact tr (by rw [fail_rest]; exact Nat.le_refl _) (ih _ ms r b (good_fail h c) hr)
 | lit hh head k ih =>
  intro a ms r b h hr
  simp only [runM] at hr
  split at hr
  ·exact ih _ a ms r b h hr
  ·cases hr
 | names ns k ih =>
  intro a ms r b h hr
  simp only [runM] at hr
  split at hr
  ·exact tr (by rw [names_rest]; exact Nat.le_refl _) (ih _ ms r b (names_good h _) hr)
  ·cases hr
 | group ns any k ih =>
  intro a ms r b h hr
  simp only [runM] at hr
  split at hr
  ·rename_i hc
   simp only [Bool.and_eq_true, Bool.or_eq_true, decide_eq_true_eq] at hc
   rcases hc with hc | hc
   ·rw [group_dead hc] at hr; exact ih a ms r b h hr
   ·obtain ⟨g1, g2, _⟩ := group_good h any (entsOf ms ns) (by have := entsOf_length ms ns; omega) (.inr hc.2)
    exact tr (by rw [g2]; exact Nat.le_refl _) (ih _ ms r b g1 hr)
  ·cases hr
 | call pr hs k ih =>
  intro a ms r b h hr
  simp only [runM] at hr
  split at hr
  ·rename_i r1 b1 hc
   have := hcf _ _ _ _ _ h hc
   exact tr this.2 (ih _ b1 ms r b this.1 hr)
  ·cases hr
end
theorem callN_good : ∀ (n : Nat) (pr : Proc) (a : A) (ms : List Int) (r : Int) (b : A), a.good → callN n pr a ms = some (r, b) → ROk a b
 | 0, pr, a, ms, r, b, _, h => by simp [callN] at h
 | n + 1, pr, a, ms, r, b, hg, h => runM_good (fun pr a ms r b => callN_good n pr a ms r b) (body pr) a ms r b hg h
end Go.AI.Rd
