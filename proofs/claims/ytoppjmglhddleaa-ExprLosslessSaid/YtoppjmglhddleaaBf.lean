/- DERIVED. THE EVALUATOR, THE READER, THE SCANNER: lemmas for Lossless. -/
import Derived.Test.YtoppjmglhddleaaBd
import Derived.KernelRfl
import Derived.Test.YtoppjmglhddleaaBe
import Derived.Test.YtoppjmglhddleaaProg
import Derived.Test.YtoppjmglhddleaaBa
import Derived.IntWalk
set_option linter.unusedVariables false
set_option linter.unusedSimpArgs false
namespace Go.AI
def zeroEq : AV → Value → Bool
 | .int n, .int .i64 m => decide (n = m)
 | .bool b, .bool d => b == d
 | .nil, .slice _ 0 0 => true
 | .str s, .string t => decide (s = t)
 | .ik k n, .int k' m => decide (k = k') && decide (n = m)
 | .undef, _ => true
 | _, _ => false
def zerosEq : List AV → List Value → Bool
 | [], [] => true
 | a :: l, v :: r => zeroEq a v && zerosEq l r
 | _, _ => false
def placesOf (P : Program) : List Field → Option (List (Nat × Nat))
 | [] => some []
 | f :: r => match P.info? f.type, placesOf P r with | some i, some l => some ((f.offset, i.size) :: l) | _, _ => none
def tyOKb (P : Program) (tid : El → Nat) (T : Nat) (ty : Ty) : Bool :=
 match P.info? T, P.underlying T with
 | some i, some d =>
  match i.zero with
  | some z =>
   (Nat.beq i.size ty.zero.length && (zerosEq ty.zero z.cells.toList && (descAgg d == ty.agg && (Nat.blt 0 ty.zero.length && (ty.agg || Nat.beq ty.zero.length 1))))) &&
   ((match ty.offs with
    | [] => true
    | _ => match d with
     | .struct fs => (match placesOf P fs.toList with | some l => decide (l = ty.offs.zip ty.szs) | none => false) && (decide (fs.toList.map (·.type) = ty.ftys) && (Nat.beq ty.offs.length ty.szs.length && ty.szs.all fun m => Nat.blt 0 m))
     | _ => false) &&
   (match ty.el with
    | none => true
    | some e => (match d with | .slice t => Nat.beq t (tid e) | _ => false) &&
     (match P.info? (tid e) with
     | some j => (match j.zero with | some y => Nat.beq j.size e.sz && (Nat.beq y.cells.size e.sz && (Nat.blt 0 j.bytes && Nat.ble j.bytes 32768)) | none => false)
     | none => false)))
  | none => false
 | _, _ => false
def tysOKb (P : Program) (tid : El → Nat) : List (Nat × Ty) → Bool
 | [] => true
 | (T, ty) :: r => tyOKb P tid T ty && tysOKb P tid r
theorem zeroEq_ok {a : AV} {v : Value} (h : zeroEq a v = true) (w : World) (S : Nat → Nat → Prop) (g : Nat) : FRel w S g a v := by
 unfold zeroEq at h
 split at h
 ·have := of_decide_eq_true h; subst this; exact .int _
 ·have := eq_of_beq h; subst this; exact .bool _
 ·exact .nil _
 ·have := of_decide_eq_true h; subst this; exact .str _
 ·simp only [Bool.and_eq_true, decide_eq_true_eq] at h; obtain ⟨rfl, rfl⟩ := h; exact .ik _ _
 ·exact .undef _
 ·cases h
theorem zerosEq_ok : ∀ {l : List AV} {vs : List Value}, zerosEq l vs = true → (∀ w S g, CR w S g l vs)
 | [], [], _ => fun w S g => .nil w S g
 | [], _ :: _, h => by simp [zerosEq] at h
 | _ :: _, [], h => by simp [zerosEq] at h
 | a :: l, v :: r, h => by
  simp only [zerosEq, Bool.and_eq_true] at h
  have h1 := zerosEq_ok h.2
  refine fun w S g => ⟨by simp [(h1 w S g).1], fun i hi => ?_⟩
  cases i with
  | zero => exact zeroEq_ok h.1 w S g
  | succ i => simpa using (h1 w S g).2 i (by simpa using hi)
theorem placesOf_ok {P : Program} : ∀ {l : List Field} {m : List (Nat × Nat)}, placesOf P l = some m → l.mapM (fun f => (P.info? f.type).map fun i => (f.offset, i.size)) = some m
 | [], m, h => by simp [placesOf] at h; subst h; simp
 | f :: r, m, h => by
  simp only [placesOf] at h
  split at h
  ·rename_i i l h1 h2
   simp only [Option.some.injEq] at h
   subst h
   simp [List.mapM_cons, h1, placesOf_ok h2]
  ·cases h
theorem tyOKb_ok {P : Program} {tid : El → Nat} {T : Nat} {ty : Ty} (h : tyOKb P tid T ty = true) : TyOK P tid T ty := by
 unfold tyOKb at h
 split at h
 rotate_left
 ·cases h
 rename_i i d hi hd
 split at h
 rotate_left
 ·cases h
 rename_i z hz
 simp only [Bool.and_eq_true] at h
 obtain ⟨⟨h1, h2, h3, h4, h5⟩, h6, h7⟩ := h
 have z1 := zerosEq_ok h2
 refine ⟨⟨i, z, hi, hz, Nat.eq_of_beq_eq_true h1, z1, trivial⟩, ⟨d, hd, eq_of_beq h3⟩, Nat.le_of_ble_eq_true h4, fun ha => ?_, fun hne => ?_, fun e he => ?_⟩
 ·rw [ha] at h5; exact Nat.eq_of_beq_eq_true (by simpa using h5)
 ·split at h6
  ·rename_i hq; exact absurd hq hne
  ·split at h6
   ·rename_i fs
    simp only [Bool.and_eq_true] at h6
    obtain ⟨q1, q2, q3, q4⟩ := h6
    split at q1
    ·rename_i l hl
     have := of_decide_eq_true q1
     subst this
     exact ⟨fs, hd, placesOf_ok hl, of_decide_eq_true q2, Nat.eq_of_beq_eq_true q3, fun m hm => Nat.le_of_ble_eq_true (List.all_eq_true.1 q4 m hm)⟩
    ·cases q1
   ·cases h6
 ·rw [he] at h7
  simp only [Bool.and_eq_true] at h7
  obtain ⟨q1, q2⟩ := h7
  split at q1
  rotate_left
  ·cases q1
  rename_i t
  have := Nat.eq_of_beq_eq_true q1
  subst this
  split at q2
  rotate_left
  ·cases q2
  rename_i j hj
  split at q2
  rotate_left
  ·cases q2
  rename_i y hy
  simp only [Bool.and_eq_true] at q2
  exact ⟨hd, j, y, hj, hy, Nat.eq_of_beq_eq_true q2.1, Nat.eq_of_beq_eq_true q2.2.1, Nat.le_of_ble_eq_true q2.2.2.1, Nat.le_of_ble_eq_true q2.2.2.2⟩
theorem findN_mem {α : Type} : ∀ {l : List (Nat × α)} {k : Nat} {a : α}, findN l k = some a → (k, a) ∈ l
 | [], k, a, h => by simp [findN] at h
 | (i, b) :: r, k, a, h => by
  simp only [findN] at h
  split at h
  ·rename_i hb
   have := Nat.eq_of_beq_eq_true hb
   subst this
   simp only [Option.some.injEq] at h
   subst h; simp
  ·exact List.mem_cons_of_mem _ (findN_mem h)
theorem tabOK_of {P : Program} {tab : Tab} (h : tysOKb P tab.tid tab.tys = true) (he : eqsOKb P tab.eqs = true) (hc : cvsOKb P tab.cvs = true) : TabOK P tab := by
 have hall : ∀ (l : List (Nat × Ty)), tysOKb P tab.tid l = true → ∀ T ty, (T, ty) ∈ l → TyOK P tab.tid T ty := by
  intro l
  induction l with
  | nil => intro _ T ty hm; simp at hm
  | cons x l ih =>
   intro h T ty hm
   obtain ⟨T0, ty0⟩ := x
   simp only [tysOKb, Bool.and_eq_true] at h
   rcases List.mem_cons.1 hm with hm | hm
   ·cases hm; exact tyOKb_ok h.1
   ·exact ih h.2 T ty hm
 exact ⟨fun T ty ht => hall _ h T ty (findN_mem ht), fun T a ht => eqsOKb_of he T a ht, fun T a ht => cvsOKb_of hc T a ht⟩
def FnsOK (P : Program) : List (Nat × FnI) → Prop
 | [] => True
 | (f, fi) :: r => FnOK P f fi ∧ FnsOK P r
theorem fnsOK_of {P : Program} : ∀ {l : List (Nat × FnI)}, FnsOK P l → ∀ f fi, findN l f = some fi → FnOK P f fi
 | [], _, f, fi, h => by simp [findN] at h
 | (g, gi) :: r, h, f, fi, hf => by
  simp only [findN] at hf
  split at hf
  ·rename_i hb
   have := Nat.eq_of_beq_eq_true hb
   subst this
   simp only [Option.some.injEq] at hf
   subst hf; exact h.1
  ·exact fnsOK_of h.2 f fi hf
end Go.AI
section
set_option maxRecDepth 100000
namespace Go.AI
open Go.Proofs.Try
theorem tys_ok : tysOKb prog T0.tid T0.tys = true := by kernel_rfl
theorem eqs_ok : eqsOKb prog T0.eqs = true := by kernel_rfl
theorem cvs_ok : cvsOKb prog T0.cvs = true := by kernel_rfl
theorem mix_ok : prog.follows .mixedOrders = true := by kernel_rfl
theorem X.ok : FnOK prog 6 X.I := ⟨func6, by kernel_rfl, ⟨_, rfl⟩, by kernel_rfl⟩
theorem X1.ok : FnOK prog 17 X1.I := ⟨func17, by kernel_rfl, ⟨_, rfl⟩, by kernel_rfl⟩
theorem deeper.ok : FnOK prog 16 deeper.I := ⟨func16, by kernel_rfl, ⟨_, rfl⟩, by kernel_rfl⟩
theorem node.ok : FnOK prog 20 node.I := ⟨func20, by kernel_rfl, ⟨_, rfl⟩, by kernel_rfl⟩
theorem binary.ok : FnOK prog 18 binary.I := ⟨func18, by kernel_rfl, ⟨_, rfl⟩, by kernel_rfl⟩
theorem Kind.ok : FnOK prog 23 Kind.I := ⟨func23, by kernel_rfl, ⟨_, rfl⟩, by kernel_rfl⟩
theorem Mark.ok : FnOK prog 30 Mark.I := ⟨func30, by kernel_rfl, ⟨_, rfl⟩, by kernel_rfl⟩
theorem Down.ok : FnOK prog 40 Down.I := ⟨func40, by kernel_rfl, ⟨_, rfl⟩, by kernel_rfl⟩
theorem Up.ok : FnOK prog 41 Up.I := ⟨func41, by kernel_rfl, ⟨_, rfl⟩, by kernel_rfl⟩
theorem Ahead.ok : FnOK prog 54 Ahead.I := ⟨func54, by kernel_rfl, ⟨_, rfl⟩, by kernel_rfl⟩
theorem here.ok : FnOK prog 55 here.I := ⟨func55, by kernel_rfl, ⟨_, rfl⟩, by kernel_rfl⟩
theorem Fail.ok : FnOK prog 35 Fail.I := ⟨func35, by kernel_rfl, ⟨_, rfl⟩, by kernel_rfl⟩
theorem leaves.ok : FnOK prog 36 leaves.I := ⟨func36, by kernel_rfl, ⟨_, rfl⟩, by kernel_rfl⟩
theorem Take.ok : FnOK prog 44 Take.I := ⟨func44, by kernel_rfl, ⟨_, rfl⟩, by kernel_rfl⟩
theorem Close.ok : FnOK prog 32 Close.I := ⟨func32, by kernel_rfl, ⟨_, rfl⟩, by kernel_rfl⟩
theorem None_.ok : FnOK prog 24 None_.I := ⟨func24, by kernel_rfl, ⟨_, rfl⟩, by kernel_rfl⟩
theorem primary.ok : FnOK prog 59 primary.I := ⟨func59, by kernel_rfl, ⟨_, rfl⟩, by kernel_rfl⟩
theorem unary.ok : FnOK prog 42 unary.I := ⟨func42, by kernel_rfl, ⟨_, rfl⟩, by kernel_rfl⟩
theorem unary1.ok : FnOK prog 60 unary1.I := ⟨func60, by kernel_rfl, ⟨_, rfl⟩, by kernel_rfl⟩
theorem operand.ok : FnOK prog 72 operand.I := ⟨func72, by kernel_rfl, ⟨_, rfl⟩, by kernel_rfl⟩
theorem period.ok : FnOK prog 73 period.I := ⟨func73, by kernel_rfl, ⟨_, rfl⟩, by kernel_rfl⟩
theorem index.ok : FnOK prog 74 index.I := ⟨func74, by kernel_rfl, ⟨_, rfl⟩, by kernel_rfl⟩
theorem arguments.ok : FnOK prog 75 arguments.I := ⟨func75, by kernel_rfl, ⟨_, rfl⟩, by kernel_rfl⟩
theorem literal.ok : FnOK prog 76 literal.I := ⟨func76, by kernel_rfl, ⟨_, rfl⟩, by kernel_rfl⟩
theorem values.ok : FnOK prog 77 values.I := ⟨func77, by kernel_rfl, ⟨_, rfl⟩, by kernel_rfl⟩
theorem value.ok : FnOK prog 90 value.I := ⟨func90, by kernel_rfl, ⟨_, rfl⟩, by kernel_rfl⟩
theorem value1.ok : FnOK prog 97 value1.I := ⟨func97, by kernel_rfl, ⟨_, rfl⟩, by kernel_rfl⟩
theorem Name.ok : FnOK prog 28 Name.I := ⟨func28, by kernel_rfl, ⟨_, rfl⟩, by kernel_rfl⟩
theorem List_.ok : FnOK prog 10 List_.I := ⟨func10, by kernel_rfl, ⟨_, rfl⟩, by kernel_rfl⟩
theorem List1.ok : FnOK prog 34 List1.I := ⟨func34, by kernel_rfl, ⟨_, rfl⟩, by kernel_rfl⟩
theorem Expect.ok : FnOK prog 26 Expect.I := ⟨func26, by kernel_rfl, ⟨_, rfl⟩, by kernel_rfl⟩
theorem Sig.ok : FnOK prog 8 Sig.I := ⟨func8, by kernel_rfl, ⟨_, rfl⟩, by kernel_rfl⟩
theorem Sig1.ok : FnOK prog 21 Sig1.I := ⟨func21, by kernel_rfl, ⟨_, rfl⟩, by kernel_rfl⟩
theorem comes.ok : FnOK prog 33 comes.I := ⟨func33, by kernel_rfl, ⟨_, rfl⟩, by kernel_rfl⟩
theorem flat.ok : FnOK prog 87 flat.I := ⟨func87, by kernel_rfl, ⟨_, rfl⟩, by kernel_rfl⟩
theorem Type_.ok : FnOK prog 7 Type_.I := ⟨func7, by kernel_rfl, ⟨_, rfl⟩, by kernel_rfl⟩
theorem form.ok : FnOK prog 19 form.I := ⟨func19, by kernel_rfl, ⟨_, rfl⟩, by kernel_rfl⟩
theorem taken.ok : FnOK prog 29 taken.I := ⟨func29, by kernel_rfl, ⟨_, rfl⟩, by kernel_rfl⟩
theorem unless_.ok : FnOK prog 88 unless_.I := ⟨func88, by kernel_rfl, ⟨_, rfl⟩, by kernel_rfl⟩
theorem named.ok : FnOK prog 89 named.I := ⟨func89, by kernel_rfl, ⟨_, rfl⟩, by kernel_rfl⟩
theorem Params.ok : FnOK prog 22 Params.I := ⟨func22, by kernel_rfl, ⟨_, rfl⟩, by kernel_rfl⟩
theorem Params1.ok : FnOK prog 50 Params1.I := ⟨func50, by kernel_rfl, ⟨_, rfl⟩, by kernel_rfl⟩
theorem entry.ok : FnOK prog 51 entry.I := ⟨func51, by kernel_rfl, ⟨_, rfl⟩, by kernel_rfl⟩
theorem entry1.ok : FnOK prog 63 entry1.I := ⟨func63, by kernel_rfl, ⟨_, rfl⟩, by kernel_rfl⟩
theorem names.ok : FnOK prog 52 names.I := ⟨func52, by kernel_rfl, ⟨_, rfl⟩, by kernel_rfl⟩
theorem group.ok : FnOK prog 53 group.I := ⟨func53, by kernel_rfl, ⟨_, rfl⟩, by kernel_rfl⟩
theorem TParams.ok : FnOK prog 9 TParams.I := ⟨func9, by kernel_rfl, ⟨_, rfl⟩, by kernel_rfl⟩
theorem TParams1.ok : FnOK prog 25 TParams1.I := ⟨func25, by kernel_rfl, ⟨_, rfl⟩, by kernel_rfl⟩
theorem TParams11.ok : FnOK prog 27 TParams11.I := ⟨func27, by kernel_rfl, ⟨_, rfl⟩, by kernel_rfl⟩
theorem Index.ok : FnOK prog 64 Index.I := ⟨func64, by kernel_rfl, ⟨_, rfl⟩, by kernel_rfl⟩
theorem Contains.ok : FnOK prog 56 Contains.I := ⟨func56, by kernel_rfl, ⟨_, rfl⟩, by kernel_rfl⟩
theorem qualified.ok : FnOK prog 45 qualified.I := ⟨func45, by kernel_rfl, ⟨_, rfl⟩, by kernel_rfl⟩
theorem elements.ok : FnOK prog 46 elements.I := ⟨func46, by kernel_rfl, ⟨_, rfl⟩, by kernel_rfl⟩
theorem items.ok : FnOK prog 47 items.I := ⟨func47, by kernel_rfl, ⟨_, rfl⟩, by kernel_rfl⟩
theorem field.ok : FnOK prog 48 field.I := ⟨func48, by kernel_rfl, ⟨_, rfl⟩, by kernel_rfl⟩
theorem element.ok : FnOK prog 49 element.I := ⟨func49, by kernel_rfl, ⟨_, rfl⟩, by kernel_rfl⟩
theorem embedded.ok : FnOK prog 61 embedded.I := ⟨func61, by kernel_rfl, ⟨_, rfl⟩, by kernel_rfl⟩
theorem union.ok : FnOK prog 31 union.I := ⟨func31, by kernel_rfl, ⟨_, rfl⟩, by kernel_rfl⟩
theorem hasName.ok : FnOK prog 62 hasName.I := ⟨func62, by kernel_rfl, ⟨_, rfl⟩, by kernel_rfl⟩
theorem partner.ok : FnOK prog 78 partner.I := ⟨func78, by kernel_rfl, ⟨_, rfl⟩, by kernel_rfl⟩
theorem Done.ok : FnOK prog 11 Done.I := ⟨func11, by kernel_rfl, ⟨_, rfl⟩, by kernel_rfl⟩
theorem NewReader.ok : FnOK prog 5 NewReader.I := ⟨func5, by kernel_rfl, ⟨_, rfl⟩, by kernel_rfl⟩
theorem Prec.ok : FnOK prog 43 Prec.I := ⟨func43, by kernel_rfl, ⟨_, rfl⟩, by kernel_rfl⟩
theorem s1more.ok : FnOK prog 96 s1more.I := ⟨func96, by kernel_rfl, ⟨_, rfl⟩, by kernel_rfl⟩
theorem Width.ok : FnOK prog 85 Width.I := ⟨func85, by kernel_rfl, ⟨_, rfl⟩, by kernel_rfl⟩
theorem s2cut.ok : FnOK prog 91 s2cut.I := ⟨func91, by kernel_rfl, ⟨_, rfl⟩, by kernel_rfl⟩
theorem Signs.ok : FnOK prog 95 Signs.I := ⟨func95, by kernel_rfl, ⟨_, rfl⟩, by kernel_rfl⟩
theorem Keywords.ok : FnOK prog 79 Keywords.I := ⟨func79, by kernel_rfl, ⟨_, rfl⟩, by kernel_rfl⟩
theorem Keyword.ok : FnOK prog 68 Keyword.I := ⟨func68, by kernel_rfl, ⟨_, rfl⟩, by kernel_rfl⟩
theorem Operator.ok : FnOK prog 84 Operator.I := ⟨func84, by kernel_rfl, ⟨_, rfl⟩, by kernel_rfl⟩
theorem sEnds.ok : FnOK prog 38 sEnds.I := ⟨func38, by kernel_rfl, ⟨_, rfl⟩, by kernel_rfl⟩
theorem sDigit.ok : FnOK prog 92 sDigit.I := ⟨func92, by kernel_rfl, ⟨_, rfl⟩, by kernel_rfl⟩
theorem srow.ok : FnOK prog 80 srow.I := ⟨func80, by kernel_rfl, ⟨_, rfl⟩, by kernel_rfl⟩
theorem Digits.ok : FnOK prog 69 Digits.I := ⟨func69, by kernel_rfl, ⟨_, rfl⟩, by kernel_rfl⟩
theorem number.ok : FnOK prog 98 number.I := ⟨func98, by kernel_rfl, ⟨_, rfl⟩, by kernel_rfl⟩
theorem UTF8.ok : FnOK prog 99 UTF8.I := ⟨func99, by kernel_rfl, ⟨_, rfl⟩, by kernel_rfl⟩
theorem Escape.ok : FnOK prog 93 (Escape.I id) := ⟨(by show _ = some (Func.hid id f93); rw [show Func.hid id f93 = f93 by kernel_rfl]; exact func93), by kernel_rfl, ⟨_, rfl⟩, by kernel_rfl⟩
theorem Unquote.ok : FnOK prog 82 Unquote.I := ⟨func82, by kernel_rfl, ⟨_, rfl⟩, by kernel_rfl⟩
theorem sChar.ok : FnOK prog 94 sChar.I := ⟨func94, by kernel_rfl, ⟨_, rfl⟩, by kernel_rfl⟩
theorem sRune.ok : FnOK prog 83 sRune.I := ⟨func83, by kernel_rfl, ⟨_, rfl⟩, by kernel_rfl⟩
theorem letter.ok : FnOK prog 66 letter.I := ⟨func66, by kernel_rfl, ⟨_, rfl⟩, by kernel_rfl⟩
theorem digit.ok : FnOK prog 67 digit.I := ⟨func67, by kernel_rfl, ⟨_, rfl⟩, by kernel_rfl⟩
theorem blank.ok : FnOK prog 65 blank.I := ⟨func65, by kernel_rfl, ⟨_, rfl⟩, by kernel_rfl⟩
theorem sfind.ok : FnOK prog 58 sfind.I := ⟨func58, by kernel_rfl, ⟨_, rfl⟩, by kernel_rfl⟩
theorem quoted.ok : FnOK prog 81 quoted.I := ⟨func81, by kernel_rfl, ⟨_, rfl⟩, by kernel_rfl⟩
theorem said.ok : FnOK prog 86 said.I := ⟨func86, by kernel_rfl, ⟨_, rfl⟩, by kernel_rfl⟩
theorem sNext.ok : FnOK prog 57 sNext.I := ⟨func57, by kernel_rfl, ⟨_, rfl⟩, by kernel_rfl⟩
theorem stext.ok : FnOK prog 70 stext.I := ⟨func70, by kernel_rfl, ⟨_, rfl⟩, by kernel_rfl⟩
theorem sother.ok : FnOK prog 71 sother.I := ⟨func71, by kernel_rfl, ⟨_, rfl⟩, by kernel_rfl⟩
theorem sends.ok : FnOK prog 39 sends.I := ⟨func39, by kernel_rfl, ⟨_, rfl⟩, by kernel_rfl⟩
theorem Bare.ok : FnOK prog 37 Bare.I := ⟨func37, by kernel_rfl, ⟨_, rfl⟩, by kernel_rfl⟩
theorem Scan.ok : FnOK prog 14 Scan.I := ⟨func14, by kernel_rfl, ⟨_, rfl⟩, by kernel_rfl⟩
theorem toks.ok : FnOK prog 4 toks.I := ⟨func4, by kernel_rfl, ⟨_, rfl⟩, by kernel_rfl⟩
theorem neat.ok : FnOK prog 12 neat.I := ⟨func12, by kernel_rfl, ⟨_, rfl⟩, by kernel_rfl⟩
noncomputable def fnsT : List (Nat × FnI) := [(6, X.I), (17, X1.I), (16, deeper.I), (20, node.I), (18, binary.I), (23, Kind.I), (30, Mark.I), (40, Down.I), (41, Up.I), (54, Ahead.I), (55, here.I), (35, Fail.I), (36, leaves.I), (44, Take.I), (32, Close.I), (24, None_.I), (59, primary.I), (42, unary.I), (60, unary1.I), (72, operand.I), (73, period.I), (74, index.I), (75, arguments.I), (76, literal.I), (77, values.I), (90, value.I), (97, value1.I), (28, Name.I), (10, List_.I), (34, List1.I), (26, Expect.I), (8, Sig.I), (21, Sig1.I), (33, comes.I), (87, flat.I), (7, Type_.I), (19, form.I), (29, taken.I), (88, unless_.I), (89, named.I), (22, Params.I), (50, Params1.I), (51, entry.I), (63, entry1.I), (52, names.I), (53, group.I), (9, TParams.I), (25, TParams1.I), (27, TParams11.I), (64, Index.I), (56, Contains.I), (45, qualified.I), (46, elements.I), (47, items.I), (48, field.I), (49, element.I), (61, embedded.I), (31, union.I), (62, hasName.I), (78, partner.I), (11, Done.I), (5, NewReader.I), (43, Prec.I), (96, s1more.I), (85, Width.I), (91, s2cut.I), (95, Signs.I), (79, Keywords.I), (68, Keyword.I), (84, Operator.I), (38, sEnds.I), (92, sDigit.I), (80, srow.I), (69, Digits.I), (98, number.I), (99, UTF8.I), (93, Escape.I id), (82, Unquote.I), (94, sChar.I), (83, sRune.I), (66, letter.I), (67, digit.I), (65, blank.I), (58, sfind.I), (81, quoted.I), (86, said.I), (57, sNext.I), (70, stext.I), (71, sother.I), (39, sends.I), (37, Bare.I), (14, Scan.I), (4, toks.I), (12, neat.I)]
theorem fns_ok : FnsOK prog fnsT := ⟨X.ok, X1.ok, deeper.ok, node.ok, binary.ok, Kind.ok, Mark.ok, Down.ok, Up.ok, Ahead.ok, here.ok, Fail.ok, leaves.ok, Take.ok, Close.ok, None_.ok, primary.ok, unary.ok, unary1.ok, operand.ok, period.ok, index.ok, arguments.ok, literal.ok, values.ok, value.ok, value1.ok, Name.ok, List_.ok, List1.ok, Expect.ok, Sig.ok, Sig1.ok, comes.ok, flat.ok, Type_.ok, form.ok, taken.ok, unless_.ok, named.ok, Params.ok, Params1.ok, entry.ok, entry1.ok, names.ok, group.ok, TParams.ok, TParams1.ok, TParams11.ok, Index.ok, Contains.ok, qualified.ok, elements.ok, items.ok, field.ok, element.ok, embedded.ok, union.ok, hasName.ok, partner.ok, Done.ok, NewReader.ok, Prec.ok, s1more.ok, Width.ok, s2cut.ok, Signs.ok, Keywords.ok, Keyword.ok, Operator.ok, sEnds.ok, sDigit.ok, srow.ok, Digits.ok, number.ok, UTF8.ok, Escape.ok, Unquote.ok, sChar.ok, sRune.ok, letter.ok, digit.ok, blank.ok, sfind.ok, quoted.ok, said.ok, sNext.ok, stext.ok, sother.ok, sends.ok, Bare.ok, Scan.ok, toks.ok, neat.ok, trivial⟩
theorem X.fd : findN fnsT X.n = some X.I := by kernel_rfl
theorem X1.fd : findN fnsT X1.n = some X1.I := by kernel_rfl
theorem deeper.fd : findN fnsT deeper.n = some deeper.I := by kernel_rfl
theorem node.fd : findN fnsT node.n = some node.I := by kernel_rfl
theorem binary.fd : findN fnsT binary.n = some binary.I := by kernel_rfl
theorem Kind.fd : findN fnsT Kind.n = some Kind.I := by kernel_rfl
theorem Mark.fd : findN fnsT Mark.n = some Mark.I := by kernel_rfl
theorem Down.fd : findN fnsT Down.n = some Down.I := by kernel_rfl
theorem Up.fd : findN fnsT Up.n = some Up.I := by kernel_rfl
theorem Ahead.fd : findN fnsT Ahead.n = some Ahead.I := by kernel_rfl
theorem here.fd : findN fnsT here.n = some here.I := by kernel_rfl
theorem Fail.fd : findN fnsT Fail.n = some Fail.I := by kernel_rfl
theorem leaves.fd : findN fnsT leaves.n = some leaves.I := by kernel_rfl
theorem Take.fd : findN fnsT Take.n = some Take.I := by kernel_rfl
theorem Close.fd : findN fnsT Close.n = some Close.I := by kernel_rfl
theorem None_.fd : findN fnsT None_.n = some None_.I := by kernel_rfl
theorem primary.fd : findN fnsT primary.n = some primary.I := by kernel_rfl
theorem unary.fd : findN fnsT unary.n = some unary.I := by kernel_rfl
theorem unary1.fd : findN fnsT unary1.n = some unary1.I := by kernel_rfl
theorem operand.fd : findN fnsT operand.n = some operand.I := by kernel_rfl
theorem period.fd : findN fnsT period.n = some period.I := by kernel_rfl
theorem index.fd : findN fnsT index.n = some index.I := by kernel_rfl
theorem arguments.fd : findN fnsT arguments.n = some arguments.I := by kernel_rfl
theorem literal.fd : findN fnsT literal.n = some literal.I := by kernel_rfl
theorem values.fd : findN fnsT values.n = some values.I := by kernel_rfl
theorem value.fd : findN fnsT value.n = some value.I := by kernel_rfl
theorem value1.fd : findN fnsT value1.n = some value1.I := by kernel_rfl
theorem Name.fd : findN fnsT Name.n = some Name.I := by kernel_rfl
theorem List_.fd : findN fnsT List_.n = some List_.I := by kernel_rfl
theorem List1.fd : findN fnsT List1.n = some List1.I := by kernel_rfl
theorem Expect.fd : findN fnsT Expect.n = some Expect.I := by kernel_rfl
theorem Sig.fd : findN fnsT Sig.n = some Sig.I := by kernel_rfl
theorem Sig1.fd : findN fnsT Sig1.n = some Sig1.I := by kernel_rfl
theorem comes.fd : findN fnsT comes.n = some comes.I := by kernel_rfl
theorem flat.fd : findN fnsT flat.n = some flat.I := by kernel_rfl
theorem Type_.fd : findN fnsT Type_.n = some Type_.I := by kernel_rfl
theorem form.fd : findN fnsT form.n = some form.I := by kernel_rfl
theorem taken.fd : findN fnsT taken.n = some taken.I := by kernel_rfl
theorem unless_.fd : findN fnsT unless_.n = some unless_.I := by kernel_rfl
theorem named.fd : findN fnsT named.n = some named.I := by kernel_rfl
theorem Params.fd : findN fnsT Params.n = some Params.I := by kernel_rfl
theorem Params1.fd : findN fnsT Params1.n = some Params1.I := by kernel_rfl
theorem entry.fd : findN fnsT entry.n = some entry.I := by kernel_rfl
theorem entry1.fd : findN fnsT entry1.n = some entry1.I := by kernel_rfl
theorem names.fd : findN fnsT names.n = some names.I := by kernel_rfl
theorem group.fd : findN fnsT group.n = some group.I := by kernel_rfl
theorem TParams.fd : findN fnsT TParams.n = some TParams.I := by kernel_rfl
theorem TParams1.fd : findN fnsT TParams1.n = some TParams1.I := by kernel_rfl
theorem TParams11.fd : findN fnsT TParams11.n = some TParams11.I := by kernel_rfl
theorem Index.fd : findN fnsT Index.n = some Index.I := by kernel_rfl
theorem Contains.fd : findN fnsT Contains.n = some Contains.I := by kernel_rfl
theorem qualified.fd : findN fnsT qualified.n = some qualified.I := by kernel_rfl
theorem elements.fd : findN fnsT elements.n = some elements.I := by kernel_rfl
theorem items.fd : findN fnsT items.n = some items.I := by kernel_rfl
theorem field.fd : findN fnsT field.n = some field.I := by kernel_rfl
theorem element.fd : findN fnsT element.n = some element.I := by kernel_rfl
theorem embedded.fd : findN fnsT embedded.n = some embedded.I := by kernel_rfl
theorem union.fd : findN fnsT union.n = some union.I := by kernel_rfl
theorem hasName.fd : findN fnsT hasName.n = some hasName.I := by kernel_rfl
theorem partner.fd : findN fnsT partner.n = some partner.I := by kernel_rfl
theorem Done.fd : findN fnsT Done.n = some Done.I := by kernel_rfl
theorem NewReader.fd : findN fnsT NewReader.n = some NewReader.I := by kernel_rfl
theorem Prec.fd : findN fnsT Prec.n = some Prec.I := by kernel_rfl
theorem s1more.fd : findN fnsT s1more.n = some s1more.I := by kernel_rfl
theorem Width.fd : findN fnsT Width.n = some Width.I := by kernel_rfl
theorem s2cut.fd : findN fnsT s2cut.n = some s2cut.I := by kernel_rfl
theorem Signs.fd : findN fnsT Signs.n = some Signs.I := by kernel_rfl
theorem Keywords.fd : findN fnsT Keywords.n = some Keywords.I := by kernel_rfl
theorem Keyword.fd : findN fnsT Keyword.n = some Keyword.I := by kernel_rfl
theorem Operator.fd : findN fnsT Operator.n = some Operator.I := by kernel_rfl
theorem sEnds.fd : findN fnsT sEnds.n = some sEnds.I := by kernel_rfl
theorem sDigit.fd : findN fnsT sDigit.n = some sDigit.I := by kernel_rfl
theorem srow.fd : findN fnsT srow.n = some srow.I := by kernel_rfl
theorem Digits.fd : findN fnsT Digits.n = some Digits.I := by kernel_rfl
theorem number.fd : findN fnsT number.n = some number.I := by kernel_rfl
theorem UTF8.fd : findN fnsT UTF8.n = some UTF8.I := by kernel_rfl
theorem Escape.fd : findN fnsT Escape.n = some (Escape.I id) := by kernel_rfl
theorem Unquote.fd : findN fnsT Unquote.n = some Unquote.I := by kernel_rfl
theorem sChar.fd : findN fnsT sChar.n = some sChar.I := by kernel_rfl
theorem sRune.fd : findN fnsT sRune.n = some sRune.I := by kernel_rfl
theorem letter.fd : findN fnsT letter.n = some letter.I := by kernel_rfl
theorem digit.fd : findN fnsT digit.n = some digit.I := by kernel_rfl
theorem blank.fd : findN fnsT blank.n = some blank.I := by kernel_rfl
theorem sfind.fd : findN fnsT sfind.n = some sfind.I := by kernel_rfl
theorem quoted.fd : findN fnsT quoted.n = some quoted.I := by kernel_rfl
theorem said.fd : findN fnsT said.n = some said.I := by kernel_rfl
theorem sNext.fd : findN fnsT sNext.n = some sNext.I := by kernel_rfl
theorem stext.fd : findN fnsT stext.n = some stext.I := by kernel_rfl
theorem sother.fd : findN fnsT sother.n = some sother.I := by kernel_rfl
theorem sends.fd : findN fnsT sends.n = some sends.I := by kernel_rfl
theorem Bare.fd : findN fnsT Bare.n = some Bare.I := by kernel_rfl
theorem Scan.fd : findN fnsT Scan.n = some Scan.I := by kernel_rfl
theorem toks.fd : findN fnsT toks.n = some toks.I := by kernel_rfl
theorem neat.fd : findN fnsT neat.n = some neat.I := by kernel_rfl
end Go.AI
end
namespace Go.AI.Rd
noncomputable abbrev W : Call1 := Wc T0 fnsT
theorem fx {τ : STy} {f : Nat} {fi : FnI} (hf : findN fnsT f = some fi) {args : List AV} {p : τ.T} {r : AV × τ.T} (lim : Nat) (h : evalBody T0 W τ lim fi args p = some r) : W τ f args p = some r := Wc_fix hf lim h
theorem wi (n : Int) (h : -9223372036854775808 ≤ n) (h' : n ≤ 9223372036854775807) : IntKind.i64.wrap n = n := IntWalk.i64_in n ⟨h, h'⟩
section
variable {τ : STy} {f : Nat} {args : List AV} {p q : τ.T} {R : Type}
theorem cX_u {a : AV} {K : Unit → τ.T → Option R} (h : W τ f args p = some (a, q)) : cX W .u τ f args p K = K () q := by
 unfold cX; rw [h]; rfl
theorem cX_i {x : Int} {K : Int → τ.T → Option R} (h : W τ f args p = some (.int x, q)) : cX W .i τ f args p K = K x q := by
 unfold cX; rw [h]; rfl
theorem cX_b {x : Bool} {K : Bool → τ.T → Option R} (h : W τ f args p = some (.bool x, q)) : cX W .b τ f args p K = K x q := by
 unfold cX; rw [h]; rfl
theorem cX_ent {x y : Int} {b : Bool} {K : Ent → τ.T → Option R} (h : W τ f args p = some (.agg [.int x, .int y, .bool b], q)) : cX W (.e .ent) τ f args p K = K ⟨x, y, b⟩ q := by
 unfold cX; rw [h]; rfl
end
def sigIx : Int → List Tok → List Int
 | _, [] => []
 | i, t :: r => if sg t then i :: sigIx (i + 1) r else sigIx (i + 1) r
def toP (a : A) : PS :=
 { l := a.pre ++ a.rest, sig := sigIx 0 (a.pre ++ a.rest), next := (sigs a.pre).length, read := a.pre.length, row := a.row, opn := a.opn, dc := (match a.dg with | some d => d.c | none => 0), df := (match a.dg with | some d => d.f | none => 0), dt := (match a.dg with | some d => d.t | none => 0), failed := a.dead }
structure A.ok (a : A) : Prop where
 pre : ∀ t, a.pre.getLast? = some t → sg t = true
 len : a.pre.length + a.rest.length < 1099511627776
 opn : 0 ≤ a.opn ∧ a.opn ≤ 100
 high : ∀ x ∈ a.row, 0 ≤ x.h ∧ x.h ≤ 101
 row : a.row.length < 4294967296
theorem sigs_le (l : List Tok) : (sigs l).length ≤ l.length := List.length_filter_le _ _
theorem sigs_append (l m : List Tok) : sigs (l ++ m) = sigs l ++ sigs m := List.filter_append ..
theorem sigIx_append (i : Int) (l m : List Tok) : sigIx i (l ++ m) = sigIx i l ++ sigIx (i + l.length) m := by
 induction l generalizing i with
 | nil => simp [sigIx]
 | cons t r ih =>
  simp only [List.cons_append, sigIx, List.length_cons, Int.natCast_add]
  rw [ih]
  have : i + 1 + (r.length : Int) = i + ((r.length : Int) + ((1 : Nat) : Int)) := by omega
  rw [this]
  split <;> rfl
theorem sigIx_length (i : Int) (l : List Tok) : (sigIx i l).length = (sigs l).length := by
 induction l generalizing i with
 | nil => rfl
 | cons t r ih =>
  simp only [sigIx, sigs, List.filter_cons]
  split
  ·simp only [List.length_cons]; rw [ih]; rfl
  ·rw [ih]; rfl
theorem sigIx_get (i : Int) (l : List Tok) (n : Nat) (hn : n < (sigs l).length) (d : Tok) : i ≤ (sigIx i l).getD n 0 ∧ (sigIx i l).getD n 0 < i + l.length ∧ l.getD ((sigIx i l).getD n 0 - i).toNat d = (sigs l).getD n d := by
 induction l generalizing i n with
 | nil => simp [sigs] at hn
 | cons t r ih =>
  by_cases ht : sg t = true
  ·have hs : sigs (t :: r) = t :: sigs r := by simp [sigs, List.filter_cons, ht]
   rw [hs] at hn ⊢
   have hx : sigIx i (t :: r) = i :: sigIx (i + 1) r := by simp [sigIx, ht]
   rw [hx]
   cases n with
   | zero => simp only [List.getD_cons_zero, List.length_cons]; refine ⟨by omega, by omega, ?_⟩; simp
   | succ n =>
    simp only [List.getD_cons_succ, List.length_cons] at hn ⊢
    obtain ⟨h1, h2, h3⟩ := ih (i + 1) n (by omega)
    refine ⟨by omega, by omega, ?_⟩
    rw [show ((sigIx (i + 1) r).getD n 0 - i).toNat = ((sigIx (i + 1) r).getD n 0 - (i + 1)).toNat + 1 by omega, List.getD_cons_succ]
    exact h3
  ·have hs : sigs (t :: r) = sigs r := by simp [sigs, List.filter_cons, ht]
   rw [hs] at hn ⊢
   have hx : sigIx i (t :: r) = sigIx (i + 1) r := by simp [sigIx, ht]
   rw [hx]
   obtain ⟨h1, h2, h3⟩ := ih (i + 1) n hn
   simp only [List.length_cons]
   refine ⟨by omega, by omega, ?_⟩
   rw [show ((sigIx (i + 1) r).getD n 0 - i).toNat = ((sigIx (i + 1) r).getD n 0 - (i + 1)).toNat + 1 by omega, List.getD_cons_succ]
   exact h3
theorem getD_app_left {α : Type} (l m : List α) (n : Nat) (d : α) (h : n < l.length) : (l ++ m).getD n d = l.getD n d := by
 simp [List.getD_eq_getElem?_getD, List.getElem?_append_left h]
theorem getD_app_right {α : Type} (l m : List α) (n : Nat) (d : α) (h : l.length ≤ n) : (l ++ m).getD n d = m.getD (n - l.length) d := by
 simp [List.getD_eq_getElem?_getD, List.getElem?_append_right h]
theorem sig_at (pre rest : List Tok) (n : Nat) (hn : n < (sigs rest).length) (d : Tok) :
  0 ≤ (sigIx 0 (pre ++ rest)).getD ((sigs pre).length + n) 0 ∧ (sigIx 0 (pre ++ rest)).getD ((sigs pre).length + n) 0 < ((pre ++ rest).length : Int) ∧
  (pre ++ rest).getD ((sigIx 0 (pre ++ rest)).getD ((sigs pre).length + n) 0).toNat d = (sigs rest).getD n d := by
 rw [sigIx_append]
 have hl : (sigIx 0 pre).length = (sigs pre).length := sigIx_length 0 pre
 rw [getD_app_right _ _ _ _ (by omega), hl, Nat.add_sub_cancel_left]
 obtain ⟨h1, h2, h3⟩ := sigIx_get (0 + (pre.length : Int)) rest n hn d
 rw [List.length_append]
 refine ⟨by omega, by omega, ?_⟩
 rw [getD_app_right _ _ _ _ (by omega), ← h3]
 congr 1
 omega
theorem sigs_snoc {l : List Tok} {t : Tok} (h : l.getLast? = some t) (ht : sg t = true) : ∃ m, sigs l = m ++ [t] := by
 obtain ⟨k, rfl⟩ := List.getLast?_eq_some_iff.1 h
 exact ⟨sigs k, by simp [sigs_append, sigs, ht]⟩
theorem sig_last {pre rest : List Tok} {t : Tok} (h : pre.getLast? = some t) (ht : sg t = true) (d : Tok) :
  0 < (sigs pre).length ∧ (sigIx 0 (pre ++ rest)).getD ((sigs pre).length - 1) 0 = (pre.length : Int) - 1 ∧ 0 < pre.length ∧ (pre ++ rest).getD (pre.length - 1) d = t := by
 obtain ⟨k, rfl⟩ := List.getLast?_eq_some_iff.1 h
 have hs : sigs (k ++ [t]) = sigs k ++ [t] := by simp [sigs_append, sigs, ht]
 have hl : (sigIx 0 k).length = (sigs k).length := sigIx_length 0 k
 rw [hs]
 refine ⟨by simp, ?_, by simp, ?_⟩
 ·rw [sigIx_append, sigIx_append, List.length_append]
  rw [getD_app_left _ _ _ _ (by simp [sigIx, ht]; omega), getD_app_right _ _ _ _ (by simp; omega)]
  simp [sigIx, ht, hl]
 ·simp [List.getD_eq_getElem?_getD]
section
variable {a : A}
theorem sigs_nil_of_not {l : List Tok} (h : ∀ t, l.getLast? = some t → sg t = true) (hs : (sigs l).length = 0) : l = [] := by
 cases hl : l.getLast? with
 | none => exact List.getLast?_eq_none_iff.1 hl
 | some t =>
  obtain ⟨m, hm⟩ := sigs_snoc hl (h t hl)
  rw [hm] at hs; simp at hs
theorem kinds_dead (h : a.dead = true) : a.kinds = [] := by
 unfold A.dead at h; unfold A.kinds
 cases hd : a.dg with
 | none => rw [hd] at h; cases h
 | some d => rfl
theorem kinds_live (h : a.dead = false) : a.kinds = (sigs a.rest).map (·.k) := by
 unfold A.dead at h; unfold A.kinds
 cases hd : a.dg with
 | some d => rw [hd] at h; cases h
 | none => rfl
theorem dg_live (h : a.dead = false) : a.dg = none := by
 unfold A.dead at h
 cases hd : a.dg with
 | some d => rw [hd] at h; cases h
 | none => rfl
theorem W_Ahead (h : a.ok) (n : Int) : W .prog Ahead.n [.rdr 0, .int n] (toP a) = some (.int (if n < 0 then 0 else a.kinds.getD n.toNat 0), toP a) := by
 refine fx Ahead.fd 0 ?_
 rw [Ahead_eq]
 have hl := h.len
 have hs := sigs_le a.rest
 have hp := sigs_le a.pre
 by_cases hd : a.dead = true
 ·rw [if_pos (by exact hd), kinds_dead hd]; simp
 have hd : a.dead = false := by simpa using hd
 rw [if_neg (by show ¬ a.dead = true; rw [hd]; decide), kinds_live hd]
 by_cases hn : n < 0
 ·rw [if_pos (by simpa using hn), if_pos hn]
 rw [if_neg (by simpa using hn), if_neg hn]
 have e1 : (((toP a).sig).length : Int) = (sigs a.pre).length + (sigs a.rest).length := by
  show ((sigIx 0 (a.pre ++ a.rest)).length : Int) = _
  rw [sigIx_length, sigs_append, List.length_append]; omega
 have e2 : (toP a).next = (sigs a.pre).length := rfl
 rw [e1, e2, wi _ (by omega) (by omega)]
 by_cases hc : (sigs a.rest).length ≤ n.toNat
 ·rw [if_pos (by simp; omega)]
  rw [List.getD_eq_getElem?_getD, List.getElem?_eq_none (by simpa using hc)]; rfl
 rw [if_neg (by simp; omega)]
 obtain ⟨h1, h2, h3⟩ := sig_at a.pre a.rest n.toNat (by omega) ⟨0, 0, 0⟩
 rw [wi _ (by omega) (by omega), if_pos (by omega), if_pos (by omega)]
 have e3 : (((sigs a.pre).length : Int) + n).toNat = (sigs a.pre).length + n.toNat := by omega
 rw [e3]
 show (if 0 ≤ List.getD (sigIx 0 (a.pre ++ a.rest)) _ 0 then _ else none) = _
 rw [if_pos h1]
 show (if List.getD (sigIx 0 (a.pre ++ a.rest)) _ 0 < ((a.pre ++ a.rest).length : Int) then _ else none) = _
 rw [if_pos h2]
 show some (AV.int (Tok.k (List.getD (a.pre ++ a.rest) (List.getD (sigIx 0 (a.pre ++ a.rest)) _ 0).toNat _)), _) = _
 rw [h3, List.getD_eq_getElem?_getD, List.getD_eq_getElem?_getD, List.getElem?_map]
 cases (sigs a.rest)[n.toNat]? <;> rfl
theorem W_Kind (h : a.ok) : W .prog Kind.n [.rdr 0] (toP a) = some (.int (a.kinds.getD 0 0), toP a) := by
 refine fx Kind.fd 0 ?_
 rw [Kind_eq, cX_i (W_Ahead h 0)]; rfl
theorem W_here (h : a.ok) : W .prog here.n [.rdr 0] (toP a) = some (.int a.here, toP a) := by
 refine fx here.fd 0 ?_
 rw [here_eq]
 have hl := h.len
 have hs := sigs_le a.rest
 have hp := sigs_le a.pre
 have e2 : (toP a).next = (sigs a.pre).length := rfl
 have e1 : (((toP a).sig).length : Int) = (sigs a.pre).length + (sigs a.rest).length := by
  show ((sigIx 0 (a.pre ++ a.rest)).length : Int) = _
  rw [sigIx_length, sigs_append, List.length_append]; omega
 have e4 : (toP a).sig = sigIx 0 (a.pre ++ a.rest) := rfl
 have e5 : (toP a).l = a.pre ++ a.rest := rfl
 rw [e2, e1, e4, e5]
 unfold A.here
 cases hg : a.pre.getLast? with
 | some t =>
  obtain ⟨q1, q2, q3, q4⟩ := sig_last (rest := a.rest) hg (h.pre t hg) ⟨0, 0, 0⟩
  rw [if_pos (by simp; omega), wi _ (by omega) (by omega), if_pos (by omega), if_pos (by omega)]
  have e3 : (((sigs a.pre).length : Int) - 1).toNat = (sigs a.pre).length - 1 := by omega
  rw [e3, q2, if_pos (by omega), if_pos (by rw [List.length_append]; omega)]
  have e6 : ((a.pre.length : Int) - 1).toNat = a.pre.length - 1 := by omega
  rw [e6, q4]
 | none =>
  have hpn : a.pre = [] := List.getLast?_eq_none_iff.1 hg
  have hps : sigs a.pre = [] := by rw [hpn]; rfl
  have hsl : (sigs a.pre).length = 0 := by rw [hps]; rfl
  rw [if_neg (by simp [hsl])]
  by_cases hr : 0 < (sigs a.rest).length
  ·rw [if_pos (by simp; omega), if_pos (by omega), if_pos (by omega)]
   obtain ⟨q1, q2, q3⟩ := sig_at a.pre a.rest 0 hr ⟨0, 0, 0⟩
   rw [hsl] at q1 q2 q3
   show (if 0 ≤ List.getD (sigIx 0 (a.pre ++ a.rest)) 0 0 then _ else none) = _
   rw [if_pos q1]
   show (if List.getD (sigIx 0 (a.pre ++ a.rest)) 0 0 < _ then _ else none) = _
   rw [if_pos q2]
   show some (AV.int (Tok.f (List.getD (a.pre ++ a.rest) (List.getD (sigIx 0 (a.pre ++ a.rest)) (0 + 0) 0).toNat _)), _) = _
   rw [q3]
   cases hf : sigs a.rest with
   | nil => rw [hf] at hr; simp at hr
   | cons x y => rfl
  ·have hr' : sigs a.rest = [] := List.length_eq_zero_iff.1 (by omega)
   rw [if_neg (by simp; omega)]
   simp only [hr', hpn]
   cases hh : a.rest with
   | nil => simp
   | cons x y => simp
theorem W_Mark : W .prog Mark.n [.rdr 0] (toP a) = some (.int a.row.length, toP a) := by
 refine fx Mark.fd 0 ?_
 rw [Mark_eq]; rfl
theorem toP_dead (d : Diag) (hd : a.dg = some d) : (toP a).failed = true := by show a.dead = true; unfold A.dead; rw [hd]; rfl
theorem W_Fail (h : a.ok) (c : Int) : W .prog Fail.n [.rdr 0, .int c] (toP a) = some (.undef, toP (a.fail c)) := by
 refine fx Fail.fd 0 ?_
 rw [Fail_eq]
 cases hd : a.dg with
 | some d => rw [if_pos (toP_dead d hd)]; unfold A.fail; rw [hd]
 | none =>
  have hd' : a.dead = false := by unfold A.dead; rw [hd]; rfl
  rw [if_neg (by show ¬ a.dead = true; rw [hd']; decide), cX_i (W_here h)]
  have hl := h.len
  have hs := sigs_le a.rest
  have hp := sigs_le a.pre
  have e2 : (toP a).next = (sigs a.pre).length := rfl
  have e1 : (((toP a).sig).length : Int) = (sigs a.pre).length + (sigs a.rest).length := by
   show ((sigIx 0 (a.pre ++ a.rest)).length : Int) = _
   rw [sigIx_length, sigs_append, List.length_append]; omega
  have e4 : (toP a).sig = sigIx 0 (a.pre ++ a.rest) := rfl
  have e5 : (toP a).l = a.pre ++ a.rest := rfl
  rw [e1, e2, e4, e5]
  by_cases hr : 0 < (sigs a.rest).length
  ·obtain ⟨q1, q2, q3⟩ := sig_at a.pre a.rest 0 hr ⟨0, 0, 0⟩
   rw [Nat.add_zero] at q1 q2 q3
   rw [if_pos (by simp; omega), if_pos (by omega), if_pos (by omega), Int.toNat_natCast, if_pos q1, if_pos q2]
   unfold A.fail; rw [hd]
   simp only
   rw [q3]
   cases hf : sigs a.rest with
   | nil => rw [hf] at hr; simp at hr
   | cons x y => simp [toP, A.dead]
  ·rw [if_neg (by simp; omega)]
   have hr' : sigs a.rest = [] := List.length_eq_zero_iff.1 (by omega)
   unfold A.fail; rw [hd, hr']
   simp [toP, A.dead]
end
end Go.AI.Rd
namespace Go.AI.Rd
theorem Node.eta (n : Node) : Node.mk (Node.k n) (Node.f n) (Node.t n) (Node.kids n) = n := by cases n; rfl
theorem cutSig_some : ∀ {l s : List Tok} {t : Tok} {r : List Tok}, cutSig l = some (s, t, r) → l = s ++ t :: r ∧ sigs s = [] ∧ sg t = true
 | [], s, t, r, h => by simp [cutSig] at h
 | x :: l, s, t, r, h => by
  unfold cutSig at h
  split at h
  ·rename_i hx; simp only [Option.some.injEq, Prod.mk.injEq] at h; obtain ⟨rfl, rfl, rfl⟩ := h; exact ⟨rfl, rfl, hx⟩
  ·rename_i hx
   split at h
   ·rename_i s' u q hc
    simp only [Option.some.injEq, Prod.mk.injEq] at h; obtain ⟨rfl, rfl, rfl⟩ := h
    obtain ⟨h1, h2, h3⟩ := cutSig_some hc
    refine ⟨by rw [h1]; rfl, ?_, h3⟩
    unfold sigs at h2 ⊢
    rw [List.filter_cons, if_neg hx]; exact h2
   ·cases h
theorem cutSig_none : ∀ {l : List Tok}, cutSig l = none → sigs l = []
 | [], _ => rfl
 | x :: l, h => by
  unfold cutSig at h
  split at h
  ·cases h
  ·rename_i hx
   split at h
   ·cases h
   ·rename_i hc
    have := cutSig_none hc
    unfold sigs at this ⊢
    rw [List.filter_cons, if_neg hx]; exact this
theorem cutSig_sigs {l s : List Tok} {t : Tok} {r : List Tok} (h : cutSig l = some (s, t, r)) : sigs l = t :: sigs r := by
 obtain ⟨h1, h2, h3⟩ := cutSig_some h
 rw [h1, sigs_append, h2]
 simp [sigs, h3]
theorem sg_ge {t : Tok} (h : sg t = true) : 10 ≤ t.k := of_decide_eq_true h
theorem sigs_sg {l : List Tok} {t : Tok} (h : t ∈ sigs l) : sg t = true := (List.mem_filter.1 h).2
theorem high_ge (l : List Made) (h : Int) : h ≤ high l h := by
 induction l generalizing h with
 | nil => exact Int.le_refl _
 | cons x r ih => exact Int.le_trans (Int.le_max_left _ _) (ih _)
theorem high_le (l : List Made) (h b : Int) (hb : h ≤ b) (hl : ∀ x ∈ l, x.h + 1 ≤ b) : high l h ≤ b := by
 induction l generalizing h with
 | nil => exact hb
 | cons x r ih => exact ih _ (Int.max_le.2 ⟨hb, hl x (by simp)⟩) (fun y hy => hl y (by simp [hy]))
section
variable {a : A}
theorem fail_dg (c : Int) : (a.fail c).pre = a.pre ∧ (a.fail c).rest = a.rest ∧ (a.fail c).row = a.row ∧ (a.fail c).opn = a.opn := by
 unfold A.fail; split <;> exact ⟨rfl, rfl, rfl, rfl⟩
theorem ok_fail (h : a.ok) (c : Int) : (a.fail c).ok := by
 obtain ⟨h1, h2, h3, h4⟩ := fail_dg (a := a) c
 exact ⟨by rw [h1]; exact h.pre, by rw [h1, h2]; exact h.len, by rw [h4]; exact h.opn, by rw [h3]; exact h.high, by rw [h3]; exact h.row⟩
theorem room_iff : a.room = true ↔ a.row.length + a.rest.length + 8 < 4294967264 := by unfold A.room; exact decide_eq_true_iff
theorem ok_take (h : a.ok) (hr : a.room = true) : a.take.ok := by
 unfold A.take
 split
 ·exact h
 ·split
  ·exact h
  ·rename_i s t r hc
   obtain ⟨h1, h2, h3⟩ := cutSig_some hc
   have hl := h.len
   have hl2 : a.rest.length = s.length + 1 + r.length := by rw [h1]; simp; omega
   rw [room_iff] at hr
   refine ⟨fun u hu => ?_, ?_, h.opn, fun x hx => ?_, ?_⟩
   ·rw [← List.append_assoc] at hu; simp at hu; rw [← hu]; exact h3
   ·simp; omega
   ·simp only [List.mem_append, List.mem_map] at hx
    rcases hx with hx | ⟨y, _, rfl⟩
    ·exact h.high x hx
    ·simp [leaf]
   ·simp; omega
theorem ok_none (h : a.ok) (hr : a.room = true) : a.none_.ok := by
 rw [room_iff] at hr
 unfold A.none_; split
 ·exact h
 ·refine ⟨h.pre, h.len, h.opn, fun x hx => ?_, by simp; omega⟩
  simp only [List.mem_append, List.mem_singleton] at hx
  rcases hx with hx | rfl
  ·exact h.high x hx
  ·exact ⟨Int.le_refl 0, (by decide : (0 : Int) ≤ 101)⟩
theorem clamp_le (m : Int) : a.clamp m ≤ a.row.length := by unfold A.clamp; omega
theorem closed_high (k : Nat) (kind : Int) (h : a.ok) (hd : ∀ x ∈ a.row, x.h ≤ 100) : 1 ≤ (a.closed k kind).h ∧ (a.closed k kind).h ≤ 101 := by
 refine ⟨high_ge _ _, high_le _ _ _ (by decide) fun x hx => ?_⟩
 have := hd x (List.mem_of_mem_drop (List.IsSuffix.subset (List.dropWhile_suffix _) hx))
 omega
theorem closed_high' (k : Nat) (kind : Int) (h : a.ok) : 1 ≤ (a.closed k kind).h ∧ (a.closed k kind).h ≤ 102 := by
 refine ⟨high_ge _ _, high_le _ _ _ (by decide) fun x hx => ?_⟩
 have := (h.high x (List.mem_of_mem_drop (List.IsSuffix.subset (List.dropWhile_suffix _) hx))).2
 omega
end
structure A.good (a : A) : Prop extends A.ok a where
 low : a.dead = false → ∀ x ∈ a.row, x.h ≤ 100
section
variable {a : A}
theorem good_fail (h : a.good) (c : Int) : (a.fail c).good := by
 refine ⟨ok_fail h.took c, fun hd => ?_⟩
 obtain ⟨_, _, h3, _⟩ := fail_dg (a := a) c
 rw [h3]
 unfold A.fail A.dead at hd
 cases hg : a.dg with
 | some d => rw [hg] at hd; simp [hg] at hd
 | none => rw [hg] at hd; simp at hd
theorem good_take (h : a.good) (hr : a.room = true) : a.take.good := by
 refine ⟨ok_take h.took hr, fun hd => ?_⟩
 unfold A.take at hd ⊢
 split
 ·exact h.low (by simp_all)
 ·rename_i hg
  have hl := h.low (by unfold A.dead; rw [hg]; rfl)
  split
  ·exact hl
  ·intro x hx
   simp only [List.mem_append, List.mem_map] at hx
   rcases hx with hx | ⟨y, _, rfl⟩
   ·exact hl x hx
   ·simp [leaf]
theorem good_none (h : a.good) (hr : a.room = true) : a.none_.good := by
 refine ⟨ok_none h.took hr, fun hd => ?_⟩
 unfold A.none_ at hd ⊢
 split
 ·exact h.low (by simp_all)
 ·rename_i hg
  have hl := h.low (by unfold A.dead; rw [hg]; rfl)
  intro x hx
  simp only [List.mem_append, List.mem_singleton] at hx
  rcases hx with hx | rfl
  ·exact hl x hx
  ·exact (by decide : (0 : Int) ≤ 100)
theorem live_of (hg : a.dg = none) : a.dead = false := by unfold A.dead; rw [hg]; rfl
theorem closeRow_mem {k : Nat} {x y : Made} (h : y ∈ a.row.take k ++ ((a.row.drop k).takeWhile triv ++ [x])) : y ∈ a.row ∨ y = x := by
 simp only [List.mem_append, List.mem_singleton] at h
 rcases h with h | h | h
 ·exact .inl (List.mem_of_mem_take h)
 ·exact .inl (List.mem_of_mem_drop (List.IsPrefix.subset (List.takeWhile_prefix _) h))
 ·exact .inr h
theorem closeRow_len (k : Nat) (x : Made) : (a.row.take k ++ ((a.row.drop k).takeWhile triv ++ [x])).length ≤ a.row.length + 1 := by
 have h1 := (List.takeWhile_prefix triv (l := a.row.drop k)).length_le
 simp only [List.length_append, List.length_take, List.length_drop, List.length_singleton] at h1 ⊢
 omega
theorem good_close (h : a.good) (hr : a.room = true) (m kind : Int) : (a.close m kind).good := by
 rw [room_iff] at hr
 unfold A.close
 split
 ·exact h
 ·rename_i hg
  have hl := h.low (live_of hg)
  have hc := closed_high (a.clamp m) kind h.took hl
  have hlen := closeRow_len (a := a) (a.clamp m) (a.closed (a.clamp m) kind)
  have hb : A.ok { a with row := a.row.take (a.clamp m) ++ ((a.row.drop (a.clamp m)).takeWhile triv ++ [a.closed (a.clamp m) kind]) } := by
   refine ⟨h.pre, h.len, h.opn, fun x hx => ?_, by simp only; omega⟩
   rcases closeRow_mem hx with hx | rfl
   ·exact h.high x hx
   ·omega
  simp only
  split
  ·refine ⟨ok_fail hb 202, fun hd => ?_⟩
   unfold A.fail A.dead at hd
   simp [hg] at hd
  ·rename_i hx
   refine ⟨hb, fun _ x hx => ?_⟩
   rcases closeRow_mem hx with hx | rfl
   ·exact hl x hx
   ·omega
theorem good_down (h : a.good) : a.down.2.good := by
 unfold A.down
 split
 ·exact h
 ·split
  ·exact good_fail h 202
  ·rename_i ho
   have := h.opn
   exact ⟨⟨h.pre, h.len, ⟨by simp only; omega, by simp only; omega⟩, h.high, h.row⟩, h.low⟩
theorem good_up (h : a.good) : a.up.good := by
 have := h.opn
 exact ⟨⟨h.pre, h.len, ⟨by unfold A.up; simp only; omega, by unfold A.up; simp only; omega⟩, h.high, h.row⟩, h.low⟩
theorem W_Up (h : a.ok) : W .prog Up.n [.rdr 0] (toP a) = some (.undef, toP a.up) := by
 refine fx Up.fd 0 ?_
 have := h.opn
 rw [Up_eq, wi _ (by show _ ≤ a.opn - 1; omega) (by show a.opn - 1 ≤ _; omega)]; rfl
theorem W_Down (h : a.ok) : W .prog Down.n [.rdr 0] (toP a) = some (.bool a.down.1, toP a.down.2) := by
 refine fx Down.fd 0 ?_
 have ho := h.opn
 rw [Down_eq]
 unfold A.down
 cases hd : a.dg with
 | some d =>
  have := toP_dead d hd
  rw [if_neg (by simp [this])]
  unfold Down.j0
  rw [if_pos this]
 | none =>
  have hf : (toP a).failed = false := live_of hd
  rw [if_pos (by simp [hf])]
  by_cases hx : a.opn = 100
  ·rw [if_pos (by show decide (a.opn = 100) = true; simp [hx]), cX_u (W_Fail h 202)]
   unfold Down.j0
   have : (toP (a.fail 202)).failed = true := by
    show (a.fail 202).dead = true
    unfold A.fail A.dead; rw [hd]; rfl
   rw [if_pos this]
   simp only [if_pos hx]
  ·rw [if_neg (by show ¬ decide (a.opn = 100) = true; simpa using hx)]
   unfold Down.j0
   rw [if_neg (by simp [hf]), wi _ (by show _ ≤ a.opn + 1; omega) (by show a.opn + 1 ≤ _; omega)]
   simp only [if_neg hx]
   simp [toP, A.dead, hd]
theorem W_None (h : a.ok) (hr : a.room = true) : W .prog None_.n [.rdr 0] (toP a) = some (.undef, toP a.none_) := by
 rw [room_iff] at hr
 refine fx None_.fd 0 ?_
 rw [None__eq]
 unfold A.none_
 cases hd : a.dg with
 | some d => rw [if_neg (by simp [toP_dead d hd])]
 | none =>
  have hf : (toP a).failed = false := live_of hd
  rw [if_pos (by simp [hf]), cX_i (W_here h), if_pos (by show a.row.length + 1 < maxRow; unfold maxRow; omega)]
  simp [toP, A.dead, hd]
theorem leaves_l0 (lim : Nat) (to : Int) (l : List Tok) (p : PS) : ∀ (d i n0 : Nat) (row : List Made), i + d = l.length → d < n0 → row.length + d + 8 < 4294967296 → l.length < 1099511627776 →
  leaves.l0 W lim n0 to l l.length i { p with row := row } = some (.undef, { p with row := row ++ (l.drop i).map leaf, read := to })
 | 0, i, 0, row, hi, hn, hr, hl => by omega
 | 0, i, n0 + 1, row, hi, hn, hr, hl => by
  rw [leaves.l0_succ, if_neg (by simp; omega), List.drop_of_length_le (by omega)]; simp
 | d + 1, i, 0, row, hi, hn, hr, hl => by omega
 | d + 1, i, n0 + 1, row, hi, hn, hr, hl => by
  rw [leaves.l0_succ, if_pos (by simp; omega), if_pos (by omega), if_pos (by omega), if_pos (by simp only [List.length_singleton]; unfold maxRow; omega), wi _ (by omega) (by omega)]
  have := leaves_l0 lim to l p d (i + 1) n0 (row ++ [leaf (l.getD i ⟨0, 0, 0⟩)]) (by omega) (by omega) (by simp; omega) hl
  rw [Int.natCast_add, Int.natCast_one] at this
  refine Eq.trans this ?_
  have hx : l.drop i = l.getD i ⟨0, 0, 0⟩ :: l.drop (i + 1) := by
   rw [List.drop_eq_getElem_cons (by omega), List.getD_eq_getElem?_getD, List.getElem?_eq_getElem (by omega)]; rfl
  rw [hx]
  simp
theorem W_Take (h : a.ok) (hr : a.room = true) : W .prog Take.n [.rdr 0] (toP a) = some (.undef, toP a.take) := by
 rw [room_iff] at hr
 refine fx Take.fd 0 ?_
 rw [Take_eq, cX_i (W_Kind h)]
 unfold A.take
 cases hd : a.dg with
 | some d =>
  have hdd : a.dead = true := toP_dead d hd
  rw [kinds_dead hdd, if_neg (by simp)]
 | none =>
  rw [kinds_live (live_of hd)]
  cases hc : cutSig a.rest with
  | none => rw [cutSig_none hc, if_neg (by simp)]
  | some x =>
   obtain ⟨s, t, r⟩ := x
   obtain ⟨h1, h2, h3⟩ := cutSig_some hc
   have hss := cutSig_sigs hc
   have hl := h.len
   have hl2 : a.rest.length = s.length + 1 + r.length := by rw [h1]; simp; omega
   have hsl := sigs_le a.rest
   have hpl := sigs_le a.pre
   have e1 : (((toP a).sig).length : Int) = (sigs a.pre).length + (sigs a.rest).length := by
    show ((sigIx 0 (a.pre ++ a.rest)).length : Int) = _
    rw [sigIx_length, sigs_append, List.length_append]; omega
   have e2 : (toP a).next = (sigs a.pre).length := rfl
   have hrl : (sigs a.rest).length = (sigs r).length + 1 := by rw [hss]; rfl
   have hj : List.getD (toP a).sig ((toP a).next).toNat 0 = (a.pre.length : Int) + s.length := by
    show List.getD (sigIx 0 (a.pre ++ a.rest)) ((sigs a.pre).length : Int).toNat 0 = _
    have h4 : (sigIx 0 a.pre).length = (sigs a.pre).length := sigIx_length _ _
    have h5 : (sigIx (0 + (a.pre.length : Int)) s).length = 0 := by rw [sigIx_length, h2]; rfl
    rw [Int.toNat_natCast, sigIx_append, getD_app_right _ _ _ _ (by omega), h4, Nat.sub_self, h1, sigIx_append, getD_app_right _ _ _ _ (by omega), h5]
    simp [sigIx, h3]
   rw [if_pos (by rw [hss]; have := sg_ge h3; simp; omega), e1, if_pos (by omega), if_pos (by omega)]
   simp only
   rw [hj, wi _ (by omega) (by omega)]
   have hlv : W .prog leaves.n [.rdr 0, .int ((a.pre.length : Int) + s.length + 1)] (toP a) = some (.undef, { toP a with row := a.row ++ (s ++ [t]).map leaf, read := (a.pre.length : Int) + s.length + 1 }) := by
    refine fx leaves.fd (a.rest.length + 2) ?_
    rw [leaves_eq]
    show (if 0 ≤ (a.pre.length : Int) + s.length + 1 then if (a.pre.length : Int) + s.length + 1 ≤ ((a.pre ++ a.rest).length : Int) then if (0 : Int) ≤ (a.pre.length : Int) then if (a.pre.length : Int) ≤ (a.pre.length : Int) + s.length + 1 then _ else none else none else none else none) = _
    rw [if_pos (by omega), if_pos (by rw [List.length_append]; omega), if_pos (by omega), if_pos (by omega)]
    have hq : List.drop (Int.toNat (toP a).read) (List.take (Int.toNat ((a.pre.length : Int) + s.length + 1)) (toP a).l) = s ++ [t] := by
     show List.drop (a.pre.length : Int).toNat (List.take _ (a.pre ++ a.rest)) = _
     have : ((a.pre.length : Int) + s.length + 1).toNat = a.pre.length + (s.length + 1) := by omega
     rw [this, List.take_length_add_append, Int.toNat_natCast, List.drop_left, h1]
     have : s.length + 1 = s.length + 1 := rfl
     rw [List.take_length_add_append]; rfl
    rw [hq]
    have := leaves_l0 (a.rest.length + 2) ((a.pre.length : Int) + s.length + 1) (s ++ [t]) (toP a) (s ++ [t]).length 0 (a.rest.length + 2) a.row (by simp) (by simp; omega) (by simp; omega) (by simp; omega)
    exact this
   rw [cX_u hlv]
   simp only
   rw [wi _ (by show _ ≤ (((sigs a.pre).length : Int) + 1); omega) (by show (((sigs a.pre).length : Int) + 1) ≤ _; omega)]
   have e6 : a.pre ++ a.rest = a.pre ++ (s ++ [t]) ++ r := by rw [h1]; simp
   have e7 : (sigs (a.pre ++ (s ++ [t]))).length = (sigs a.pre).length + 1 := by rw [sigs_append, sigs_append, h2]; simp [sigs, h3]
   simp only [toP, A.dead, hd]
   rw [e7, e6]
   simp
   omega
theorem W_Expect (h : a.ok) (hr : a.room = true) (c : Int) (hc : c ≠ 0) : W .prog Expect.n [.rdr 0, .int c] (toP a) =
  some (.bool (decide (a.kinds.getD 0 0 = c)), toP (if a.kinds.getD 0 0 = c then a.take else a.fail 201)) := by
 refine fx Expect.fd 0 ?_
 rw [Expect_eq, if_neg (by simpa using hc), cX_i (W_Kind h)]
 by_cases hk : a.kinds.getD 0 0 = c
 ·rw [if_neg (by rw [hk]; simp), cX_u (W_Take h hr), if_pos hk, decide_eq_true hk]
 ·rw [if_pos (decide_eq_true hk), cX_u (W_Fail h 201), if_neg hk, decide_eq_false hk]
end
end Go.AI.Rd
namespace Go.AI.Rd
theorem Index_l0 (lim : Nat) (v : Int) (s : List Int) (hs : s.length < 1099511627776) : ∀ (d i n0 : Nat), i + d = s.length → d < n0 →
  ∃ r, Index.l0 W lim n0 s v s.length i () = some (.int r, ()) ∧ decide (r ≥ 0) = (s.drop i).contains v
 | _, i, 0, hi, hn => by omega
 | 0, i, n0 + 1, hi, hn => by
  refine ⟨-1, ?_, ?_⟩
  ·rw [Index.l0_succ, if_neg (by simp; omega)]
  ·rw [List.drop_of_length_le (by omega)]; rfl
 | d + 1, i, n0 + 1, hi, hn => by
  have hx : s.drop i = s.getD i 0 :: s.drop (i + 1) := by
   rw [List.drop_eq_getElem_cons (by omega), List.getD_eq_getElem?_getD, List.getElem?_eq_getElem (by omega)]; rfl
  rw [Index.l0_succ, if_pos (by simp; omega), if_pos (by omega), if_pos (by omega), Int.toNat_natCast, hx]
  by_cases hv : v = s.getD i 0
  ·refine ⟨i, by rw [if_pos (decide_eq_true hv)], ?_⟩
   rw [List.contains_cons, ← hv]; simp
  ·obtain ⟨r, h1, h2⟩ := Index_l0 lim v s hs d (i + 1) n0 (by omega) (by omega)
   refine ⟨r, ?_, ?_⟩
   ·rw [if_neg (by simp only [decide_eq_true_eq]; exact hv), wi _ (by omega) (by omega)]
    rw [Int.natCast_add, Int.natCast_one] at h1; exact h1
   ·rw [h2, List.contains_cons]
    have : (v == s.getD i 0) = false := by simp only [beq_eq_false_iff_ne]; exact hv
    rw [this]; rfl
theorem W_Contains (s : List Int) (hs : s.length < 1099511627776) (v : Int) : W .unit Contains.n [.sl .int s, .int v] () = some (.bool (s.contains v), ()) := by
 refine fx Contains.fd 0 ?_
 rw [Contains_eq]
 obtain ⟨r, h1, h2⟩ := Index_l0 (s.length + 1) v s hs s.length 0 (s.length + 1) (by omega) (by omega)
 have : W .unit Index.n [.sl .int s, .int v] () = some (.int r, ()) := by
  refine fx Index.fd (s.length + 1) ?_
  rw [Index_eq]; exact h1
 rw [cX_i this, h2]; rfl
section
variable {a : A}
theorem W_comes (h : a.ok) (ks : List Int) (hk : ks.length < 1099511627776) : W .prog comes.n [.rdr 0, .sl .int ks] (toP a) = some (.bool (comesF ks a.kinds), toP a) := by
 refine fx comes.fd 0 ?_
 rw [comes_eq, cX_i (W_Kind h)]
 unfold comesF
 by_cases hx : a.kinds.getD 0 0 = 0
 ·rw [if_neg (by rw [hx]; simp), hx]; simp
 ·rw [if_pos (decide_eq_true hx), cX_i (W_Kind h), cX_b (W_Contains ks hk _), decide_eq_true hx]; rfl
theorem W_taken (h : a.ok) (hr : a.room = true) (ks : List Int) (hk : ks.length < 1099511627776) : W .prog taken.n [.rdr 0, .sl .int ks] (toP a) =
  some (.bool (comesF ks a.kinds), toP (if comesF ks a.kinds = true then a.take else a)) := by
 refine fx taken.fd 0 ?_
 rw [taken_eq, cX_b (W_comes h ks hk)]
 by_cases hx : comesF ks a.kinds = true
 ·rw [if_pos hx, cX_u (W_Take h hr), if_pos hx]
 ·rw [if_neg hx, if_neg hx]
theorem W_embedded (h : a.ok) : W .prog embedded.n [.rdr 0] (toP a) = some (.bool (embF a.kinds), toP a) := by
 refine fx embedded.fd 0 ?_
 rw [embedded_eq, cX_i (W_Ahead h 1)]
 simp only [show ¬ ((1 : Int) < 0) by decide, if_false, show (1 : Int).toNat = 1 by decide]
 simp only [cX_i (W_Kind h)]
 unfold embF
 generalize a.kinds.getD 1 0 = x
 generalize a.kinds.getD 0 0 = y
 by_cases h1 : x = 15
 ·simp [h1]
 by_cases h2 : x = 16
 ·simp [h2]
 by_cases h3 : x = 64
 ·simp [h3]
 by_cases h4 : x = 61
 ·simp [h4]
 simp [h1, h2, h3, h4]
theorem W_Prec (k : Int) : W .unit Prec.n [.int k] () = some (.int (precF k), ()) := by
 refine fx Prec.fd 0 ?_
 rw [Prec_eq]
 by_cases h1 : k = 22
 ·subst h1; rfl
 by_cases h2 : k = 23
 ·subst h2; rfl
 by_cases h3 : k = 24
 ·subst h3; rfl
 by_cases h4 : k = 28
 ·subst h4; rfl
 by_cases h5 : k = 29
 ·subst h5; rfl
 by_cases h6 : k = 25
 ·subst h6; rfl
 by_cases h7 : k = 30
 ·subst h7; rfl
 by_cases h8 : k = 20
 ·subst h8; rfl
 by_cases h9 : k = 21
 ·subst h9; rfl
 by_cases h10 : k = 26
 ·subst h10; rfl
 by_cases h11 : k = 27
 ·subst h11; rfl
 by_cases h12 : k = 46
 ·subst h12; rfl
 by_cases h13 : k = 52
 ·subst h13; rfl
 by_cases h14 : k = 47
 ·subst h14; rfl
 by_cases h15 : k = 53
 ·subst h15; rfl
 by_cases h16 : k = 48
 ·subst h16; rfl
 by_cases h17 : k = 54
 ·subst h17; rfl
 by_cases h18 : k = 42
 ·subst h18; rfl
 by_cases h19 : k = 43
 ·subst h19; rfl
 simp [*, precF, Prec.j0, Prec.j1]
theorem precF_le (k : Int) : 0 ≤ precF k ∧ precF k ≤ 5 := by
 unfold precF; repeat' split
 all_goals omega
theorem kinds_pos {x : Int} (h : x ∈ a.kinds) : 10 ≤ x := by
 unfold A.kinds at h
 split at h
 ·cases h
 ·obtain ⟨t, ht, rfl⟩ := List.mem_map.1 h
  exact sg_ge (sigs_sg ht)
theorem kinds_len (h : a.ok) : a.kinds.length < 1099511627776 := by
 have := sigs_le a.rest
 have := h.len
 unfold A.kinds
 split
 ·simp
 ·simp only [List.length_map]; omega
theorem W_Ahead' (h : a.ok) (n : Nat) : W .prog Ahead.n [.rdr 0, .int n] (toP a) = some (.int (a.kinds.getD n 0), toP a) := by
 rw [W_Ahead h n, if_neg (by omega), Int.toNat_natCast]
theorem partner_l0 (h : a.ok) (lim : Nat) : ∀ (d n n0 : Nat) (o : Int), n + d = a.kinds.length → d < n0 → -(n : Int) ≤ o → o ≤ n →
  ∃ r : Int, partner.l0 W lim n0 n o (toP a) = some (.int r, toP a) ∧
   (match behindF (a.kinds.drop n) o with | some x => 0 ≤ r ∧ r < a.kinds.length ∧ a.kinds.getD (r.toNat + 1) 0 = x | none => r = -1)
 | _, n, 0, o, hi, hn, _, _ => by omega
 | 0, n, n0 + 1, o, hi, hn, _, _ => by
  refine ⟨-1, ?_, ?_⟩
  ·rw [partner.l0_succ, cX_i (W_Ahead' h n), if_neg]
   rw [List.getD_eq_getElem?_getD, List.getElem?_eq_none (by omega)]; simp
  ·rw [List.drop_of_length_le (by omega)]; rfl
 | d + 1, n, n0 + 1, o, hi, hn, ho1, ho2 => by
  have hkl := kinds_len h
  have hx : a.kinds.drop n = a.kinds.getD n 0 :: a.kinds.drop (n + 1) := by
   rw [List.drop_eq_getElem_cons (by omega), List.getD_eq_getElem?_getD, List.getElem?_eq_getElem (by omega)]; rfl
  have hpos : 10 ≤ a.kinds.getD n 0 := by
   rw [List.getD_eq_getElem?_getD, List.getElem?_eq_getElem (by omega)]
   exact kinds_pos (List.getElem_mem _)
  have ih := fun o' h1 h2 => partner_l0 h lim d (n + 1) n0 o' (by omega) (by omega) h1 h2
  simp only [Int.natCast_add, Int.natCast_one] at ih
  rw [hx, partner.l0_succ, cX_i (W_Ahead' h n), if_pos (decide_eq_true (by omega)), cX_i (W_Ahead' h n)]
  unfold behindF
  by_cases h1 : a.kinds.getD n 0 = 58
  ·rw [if_pos (decide_eq_true h1), if_pos h1, wi _ (by omega) (by omega), wi _ (by omega) (by omega)]
   exact ih _ (by omega) (by omega)
  ·rw [if_neg (by simp only [decide_eq_true_eq]; exact h1), if_neg h1]
   by_cases h2 : a.kinds.getD n 0 = 63
   ·rw [if_pos (decide_eq_true h2), if_pos h2, wi (o - 1) (by omega) (by omega)]
    by_cases h3 : o - 1 = 0
    ·rw [if_pos (decide_eq_true h3), if_pos h3]
     refine ⟨n, rfl, ?_⟩
     refine ⟨by omega, by omega, ?_⟩
     rw [Int.toNat_natCast, List.getD_eq_getElem?_getD, List.getD_eq_getElem?_getD, List.getElem?_drop, Nat.add_zero]
    ·rw [if_neg (by simp only [decide_eq_true_eq]; exact h3), if_neg h3, wi _ (by omega) (by omega)]
     exact ih _ (by omega) (by omega)
   ·rw [if_neg (by simp only [decide_eq_true_eq]; exact h2), if_neg h2, wi _ (by omega) (by omega)]
    exact ih _ (by omega) (by omega)
theorem W_hasName (h : a.ok) : W .prog hasName.n [.rdr 0] (toP a) = some (.bool (hasNameF a.kinds), toP a) := by
 refine fx hasName.fd 0 ?_
 have hkl := kinds_len h
 rw [hasName_eq, cX_i (W_Kind h)]
 unfold hasNameF
 by_cases h0 : a.kinds.getD 0 0 = 10
 rotate_left
 ·rw [if_pos (decide_eq_true h0), if_pos h0]
 rw [if_neg (by rw [h0]; simp), if_neg (by rw [h0]; simp)]
 have h1 := W_Ahead' h 1
 rw [cX_i (show W .prog Ahead.n [.rdr 0, .int 1] (toP a) = _ from h1)]
 have hp : a.kinds.getD 1 0 = 58 → ∃ r : Int, W .prog partner.n [.rdr 0, .int 1] (toP a) = some (.int r, toP a) ∧
   (match behindF (a.kinds.drop 1) 0 with | some x => 0 ≤ r ∧ r < a.kinds.length ∧ a.kinds.getD (r.toNat + 1) 0 = x | none => r = -1) := by
  intro hx
  have hl : 1 < a.kinds.length := by
   refine Nat.lt_of_not_le fun hc => ?_
   rw [List.getD_eq_getElem?_getD, List.getElem?_eq_none (by omega)] at hx; simp at hx
  obtain ⟨r, q1, q2⟩ := partner_l0 h (a.kinds.length + 1) (a.kinds.length - 1) 1 (a.kinds.length + 1) 0 (by omega) (by omega) (by omega) (by omega)
  refine ⟨r, ?_, q2⟩
  refine fx partner.fd (a.kinds.length + 1) ?_
  rw [partner_eq]; exact q1
 by_cases h2 : a.kinds.getD 1 0 = 60
 ·rw [if_pos (decide_eq_true h2), if_pos (.inl h2)]
  unfold hasName.j0
  rw [if_pos (decide_eq_true h2)]
 rw [if_neg (by simp only [decide_eq_true_eq]; exact h2)]
 by_cases h3 : a.kinds.getD 1 0 = 62
 ·rw [if_pos (decide_eq_true h3), if_pos (.inr (.inl h3))]
  unfold hasName.j0
  rw [if_pos (decide_eq_true h3)]
 rw [if_neg (by simp only [decide_eq_true_eq]; exact h3)]
 unfold hasName.j0
 by_cases h4 : a.kinds.getD 1 0 = 61
 ·rw [if_pos (decide_eq_true h4), if_pos (.inr (.inr h4))]
 rw [if_neg (by simp only [decide_eq_true_eq]; exact h4), if_neg (c := a.kinds.getD 1 0 = 60 ∨ a.kinds.getD 1 0 = 62 ∨ a.kinds.getD 1 0 = 61) (by rintro (h | h | h) <;> contradiction)]
 by_cases h5 : a.kinds.getD 1 0 = 58
 rotate_left
 ·rw [if_neg (by simp only [decide_eq_true_eq]; exact h5), if_neg h5]
 rw [if_pos (decide_eq_true h5), if_pos h5]
 rw [cX_i (show W .prog Ahead.n [.rdr 0, .int 2] (toP a) = _ from W_Ahead' h 2)]
 by_cases h6 : a.kinds.getD 2 0 = 63
 ·rw [if_pos (decide_eq_true h6), if_pos h6]
 rw [if_neg (by simp only [decide_eq_true_eq]; exact h6), if_neg h6]
 obtain ⟨r, q1, q2⟩ := hp h5
 rw [cX_i q1]
 cases hb : behindF (a.kinds.drop 1) 0 with
 | none =>
  rw [hb] at q2
  simp only at q2 ⊢
  rw [if_pos (by rw [q2]; rfl)]
 | some x =>
  rw [hb] at q2
  simp only at q2 ⊢
  obtain ⟨q2, q3, q4⟩ := q2
  rw [if_neg (by simp; omega), wi _ (by omega) (by omega)]
  have e : r + 1 = ((r.toNat + 1 : Nat) : Int) := by omega
  rw [e, cX_i (W_Ahead' h _), q4]
  by_cases h7 : x = 0
  ·simp [h7]
  ·by_cases h8 : x = 60
   ·simp [h8]
   ·simp [h7, h8]
theorem drop_getD {row : List Made} {k : Nat} (h : k < row.length) : row.drop k = row.getD k (El.dflt .made) :: row.drop (k + 1) := by
 rw [List.drop_eq_getElem_cons h, List.getD_eq_getElem?_getD, List.getElem?_eq_getElem h]; rfl
theorem Close_l0 (h : a.ok) (lim : Nat) (kind : Int) : ∀ (d k n0 : Nat), k + d = a.row.length → d < n0 →
  ∃ j : Nat, j = k + ((a.row.drop k).takeWhile triv).length ∧ j ≤ a.row.length ∧
   Close.l0 W lim n0 k kind (toP a) = Close.l2 W lim lim j (a.row.drop j) (a.row.drop j).length 0 kind a.here a.here [] 1 (toP a)
 | _, k, 0, hi, hn => by omega
 | 0, k, n0 + 1, hi, hn => by
  refine ⟨k, ?_, by omega, ?_⟩
  ·rw [List.drop_of_length_le (by omega)]; rfl
  ·rw [Close.l0_succ, if_neg (by simp only [decide_eq_true_eq]; show ¬ (k : Int) < (a.row.length : Int); omega), cX_i (W_here h), cX_i (W_here h), if_pos (by omega), if_pos (by show (k : Int) ≤ (a.row.length : Int); omega), Int.toNat_natCast]; rfl
 | d + 1, k, n0 + 1, hi, hn => by
  have hrl := h.row
  have hx := drop_getD (row := a.row) (k := k) (by omega)
  rw [Close.l0_succ, if_pos (by simp only [decide_eq_true_eq]; show (k : Int) < (a.row.length : Int); omega), if_pos (by omega), if_pos (by show (k : Int) < (a.row.length : Int); omega), Int.toNat_natCast]
  by_cases ht : triv (a.row.getD k (El.dflt .made)) = true
  ·obtain ⟨j, h1, h2, h3⟩ := Close_l0 h lim kind d (k + 1) n0 (by omega) (by omega)
   refine ⟨j, ?_, h2, ?_⟩
   ·rw [h1, hx, List.takeWhile_cons, if_pos ht, List.length_cons]; omega
   ·rw [if_pos (by exact ht), wi _ (by omega) (by omega)]
    rw [Int.natCast_add, Int.natCast_one] at h3; exact h3
  ·refine ⟨k, ?_, by omega, ?_⟩
   ·rw [hx, List.takeWhile_cons, if_neg ht]; rfl
   ·rw [if_neg (by exact ht), cX_i (W_here h), cX_i (W_here h), if_pos (by omega), if_pos (by show (k : Int) ≤ (a.row.length : Int); omega)]; rfl
theorem getLast?_drop_cons {α : Type} (l : List α) (i : Nat) (h : i < l.length) : (l.drop i).getLast? = l.getLast? := by
 rw [List.getLast?_drop, if_neg (by omega)]
noncomputable def closeEnd (k : Int) (kind f t : Int) (kids : List Node) (hi : Int) (p : PS) : Option (AV × PS) :=
 if 0 ≤ k then
 if k ≤ ((p.row).length : Int) then
 if ((List.take (Int.toNat k) p.row)).length + ([(⟨(Node.mk kind f t kids), hi⟩ : Made)]).length < maxRow then
 if (decide (hi > 100)) then
 cX W .u .prog Fail.n [.rdr 0, .int 202] ({ p with row := ((List.take (Int.toNat k) p.row) ++ [(⟨(Node.mk kind f t kids), hi⟩ : Made)]) }) fun _ (p17 : PS) =>
 some (.undef, p17)
 else
 some (.undef, { p with row := ((List.take (Int.toNat k) p.row) ++ [(⟨(Node.mk kind f t kids), hi⟩ : Made)]) })
 else none
 else none
 else none
theorem Close_l2 (lim : Nat) (k : Int) (l : List Made) (kind : Int) (p : PS) (hl : l.length < 4294967295) (hh : ∀ x ∈ l, 0 ≤ x.h ∧ x.h ≤ 101) : ∀ (d i n0 : Nat) (f t hi : Int), i + d = l.length → d < n0 → 
  Close.l2 W lim n0 k l l.length i kind f t ((l.take i).map (·.n)) hi p =
   closeEnd k kind (if i = 0 then (match l.head? with | some x => Node.f x.n | none => f) else f) (if d = 0 then t else (match l.getLast? with | some x => Node.t x.n | none => t)) (l.map (·.n)) (high (l.drop i) hi) p
 | _, i, 0, f, t, hi, h1, h2 => by omega
 | 0, i, n0 + 1, f, t, hi, h1, h2 => by
  rw [Close.l2_succ, if_neg (by simp; omega), show l.take i = l from List.take_of_length_le (by omega), show l.drop i = [] from List.drop_of_length_le (by omega)]
  simp only [high, if_true]
  by_cases h0 : i = 0
  ·have : l = [] := List.length_eq_zero_iff.1 (by omega)
   rw [if_pos h0, this]; rfl
  ·rw [if_neg h0]; rfl
 | d + 1, i, n0 + 1, f, t, hi, h1, h2 => by
  have hx := drop_getD (row := l) (k := i) (by omega)
  have hmem : l.getD i (El.dflt .made) ∈ l := by
   rw [List.getD_eq_getElem?_getD, List.getElem?_eq_getElem (by omega)]; exact List.getElem_mem _
  have hhx := hh _ hmem
  have htk : (l.take i).map (·.n) ++ [(l.getD i (El.dflt .made)).n] = (l.take (i + 1)).map (·.n) := by
   rw [List.take_add_one, List.map_append, List.getD_eq_getElem?_getD, List.getElem?_eq_getElem (by omega)]; rfl
  rw [Close.l2_succ, if_pos (by simp; omega), if_pos (by omega), if_pos (by omega), Int.toNat_natCast, hx]
  simp only [Node.eta, high]
  rw [htk, wi _ (by omega) (by omega), wi _ (by omega) (by omega)]
  have hlt : ((l.take i).map (·.n)).length + [(l.getD i (El.dflt .made)).n].length < maxRow := by
   simp only [List.length_map, List.length_take, List.length_singleton]; unfold maxRow; omega
  have ih := fun f t hi => Close_l2 lim k l kind p hl hh d (i + 1) n0 f t hi (by omega) (by omega)
  simp only [Int.natCast_add, Int.natCast_one] at ih
  have hlast : d = 0 → l.getLast? = some (l.getD i (El.dflt .made)) := by
   intro hd
   rw [← getLast?_drop_cons l i (by omega), hx, List.drop_of_length_le (by omega)]; rfl
  have et : (if d = 0 then Node.t (l.getD i (El.dflt .made)).n else (match l.getLast? with | some x => Node.t x.n | none => Node.t (l.getD i (El.dflt .made)).n)) = (match l.getLast? with | some x => Node.t x.n | none => t) := by
   by_cases hd : d = 0
   ·rw [if_pos hd, hlast hd]
   ·rw [if_neg hd]
    cases hg : l.getLast? with
    | none => rw [List.getLast?_eq_none_iff] at hg; rw [hg] at h1; simp at h1
    | some x => rfl
  by_cases h0 : i = 0
  ·subst h0
   rw [if_pos (by simp), if_pos hlt, ih, if_neg (show ¬ 0 + 1 = 0 by omega), et, if_pos rfl, if_neg (show ¬ d + 1 = 0 by omega)]
   have : l.head? = some (l.getD 0 (El.dflt .made)) := by
    rw [List.drop_zero] at hx; rw [hx]; rfl
   rw [this]
  ·rw [if_neg (by simp; omega), if_pos hlt, ih, if_neg (show ¬ i + 1 = 0 by omega), et, if_neg h0, if_neg (show ¬ d + 1 = 0 by omega)]
theorem row_cut {row : List Made} {k : Nat} (hk : k ≤ row.length) : row.take (k + ((row.drop k).takeWhile triv).length) = row.take k ++ (row.drop k).takeWhile triv := by
 rw [List.take_add]
 congr 1
 exact (List.prefix_iff_eq_take.1 (List.takeWhile_prefix _)).symm
theorem row_cut' {row : List Made} {k : Nat} : row.drop (k + ((row.drop k).takeWhile triv).length) = (row.drop k).dropWhile triv := by
 rw [← List.drop_drop]
 have := List.takeWhile_append_dropWhile (p := triv) (l := row.drop k)
 conv => lhs; arg 2; rw [← this]
 exact List.drop_left
theorem W_Close (h : a.good) (hr : a.room = true) (m kind : Int) : W .prog Close.n [.rdr 0, .int m, .int kind] (toP a) = some (.undef, toP (a.close m kind)) := by
 have hg2 := good_close h hr m kind
 rw [room_iff] at hr
 refine fx Close.fd (a.row.length + 2) ?_
 rw [Close_eq]
 unfold A.close
 cases hd : a.dg with
 | some d => rw [if_pos (toP_dead d hd)]
 | none =>
  have hf : (toP a).failed = false := live_of hd
  have hlow := h.low (live_of hd)
  rw [if_neg (by simp [hf])]
  have hm : min (max m 0) (((toP a).row).length : Int) = ((a.clamp m : Nat) : Int) := by
   show min (max m 0) ((a.row).length : Int) = _
   unfold A.clamp; omega
  have hcl := clamp_le (a := a) m
  rw [hm]
  obtain ⟨j, j1, j2, j3⟩ := Close_l0 h.took (a.row.length + 2) kind (a.row.length - a.clamp m) (a.clamp m) (a.row.length + 2) (by omega) (by omega)
  rw [j3]
  have := Close_l2 (a.row.length + 2) j (a.row.drop j) kind (toP a) (by simp; omega) (fun x hx => h.high x (List.mem_of_mem_drop hx)) (a.row.drop j).length 0 (a.row.length + 2) a.here a.here 1 (by omega) (by simp; omega)
  simp only [List.take_zero, List.map_nil, if_true, List.drop_zero] at this
  refine Eq.trans this ?_
  have hdj : a.row.drop j = (a.row.drop (a.clamp m)).dropWhile triv := by rw [j1]; exact row_cut'
  have htj : a.row.take j = a.row.take (a.clamp m) ++ (a.row.drop (a.clamp m)).takeWhile triv := by rw [j1]; exact row_cut hcl
  have hcd : (⟨Node.mk kind (match (a.row.drop j).head? with | some x => Node.f x.n | none => a.here) (if (a.row.drop j).length = 0 then a.here else (match (a.row.drop j).getLast? with | some x => Node.t x.n | none => a.here)) ((a.row.drop j).map (·.n)), high (a.row.drop j) 1⟩ : Made) = a.closed (a.clamp m) kind := by
   rw [hdj]
   unfold A.closed nodeOf
   congr 2
   split
   ·rename_i hz
    rw [List.length_eq_zero_iff.1 hz]; rfl
   ·rfl
  unfold closeEnd
  rw [if_pos (by omega), if_pos (by show (j : Int) ≤ (a.row.length : Int); omega), Int.toNat_natCast]
  rw [if_pos (by show (List.take j a.row).length + 1 < maxRow; simp only [List.length_take]; unfold maxRow; omega)]
  rw [hcd]
  have hhi : high (a.row.drop j) 1 = (a.closed (a.clamp m) kind).h := by rw [← hcd]
  rw [hhi]
  have hrow : List.take j (toP a).row ++ [a.closed (a.clamp m) kind] = a.row.take (a.clamp m) ++ ((a.row.drop (a.clamp m)).takeWhile triv ++ [a.closed (a.clamp m) kind]) := by
   show List.take j a.row ++ _ = _
   rw [htj, List.append_assoc]
  rw [hrow]
  have hlen := closeRow_len (a := a) (a.clamp m) (a.closed (a.clamp m) kind)
  have hc := closed_high (a.clamp m) kind h.took hlow
  have hb : A.ok { a with row := a.row.take (a.clamp m) ++ ((a.row.drop (a.clamp m)).takeWhile triv ++ [a.closed (a.clamp m) kind]) } := by
   refine ⟨h.pre, h.len, h.opn, fun x hx => ?_, by simp only; omega⟩
   rcases closeRow_mem hx with hx | rfl
   ·exact h.high x hx
   ·omega
  by_cases hx : 100 < (a.closed (a.clamp m) kind).h
  ·rw [if_pos (decide_eq_true hx)]
   simp only [if_pos hx]
   have := W_Fail hb 202
   have e : (toP { a with row := a.row.take (a.clamp m) ++ ((a.row.drop (a.clamp m)).takeWhile triv ++ [a.closed (a.clamp m) kind]) }) = { toP a with row := a.row.take (a.clamp m) ++ ((a.row.drop (a.clamp m)).takeWhile triv ++ [a.closed (a.clamp m) kind]) } := by simp [toP, A.dead]
   rw [e] at this
   rw [cX_u this]
   simp only [hd]
  ·rw [if_neg (by simp only [decide_eq_true_eq]; exact hx)]
   simp only [if_neg hx]
   simp [toP, A.dead, hd]
end
end Go.AI.Rd
namespace Go.AI.Rd
theorem W_named (n : Node) (hn : Node.k n = 207 → Node.kids n ≠ []) : W .unit named.n [.agg [.int (Node.k n), .int (Node.f n), .int (Node.t n), .sl .node (Node.kids n)]] () = some (.bool (namedF n), ()) := by
 refine fx named.fd 0 ?_
 rw [named_eq]
 unfold namedF
 by_cases h1 : Node.k n = 201
 ·rw [if_pos (decide_eq_true h1), decide_eq_true h1]; rfl
 rw [if_neg (by simp only [decide_eq_true_eq]; exact h1), decide_eq_false h1]
 by_cases h2 : Node.k n = 207
 ·have := hn h2
  have h3 : 0 < (Node.kids n).length := List.length_pos_iff.2 this
  rw [if_pos (decide_eq_true h2), if_pos (by omega), if_pos (by omega), decide_eq_true h2]; rfl
 ·rw [if_neg (by simp only [decide_eq_true_eq]; exact h2), decide_eq_false h2]; rfl
theorem part0_ne {n : Node} (h : part0 n = true) : Node.kids n ≠ [] := by
 unfold part0 at h; intro hc; rw [hc] at h; cases h
section
variable {a : A}
theorem first_at (k : Nat) (hk : k < a.row.length) : a.first k = if triv (a.row.getD k (El.dflt .made)) = true then a.first ((k : Int) + 1) else some (a.row.getD k (El.dflt .made)) := by
 unfold A.first
 have e : ((k : Int) + 1).toNat = k + 1 := by omega
 rw [Int.toNat_natCast, e, drop_getD hk, List.find?_cons]
 by_cases ht : triv (a.row.getD k (El.dflt .made)) = true
 ·rw [if_pos ht, ht]; rfl
 ·rw [if_neg ht]
  have : triv (a.row.getD k (El.dflt .made)) = false := by simpa using ht
  rw [this]; rfl
theorem first_end (k : Nat) (hk : a.row.length ≤ k) : a.first k = none := by
 unfold A.first; rw [Int.toNat_natCast, List.drop_of_length_le hk]; rfl
theorem literal_l0 (h : a.ok) (lim : Nat) (head : Bool) : ∀ (d k n0 : Nat), k + d = a.row.length → d < n0 → a.litOK k = true →
  literal.l0 W lim n0 k head (toP a) = some (.bool (a.lit k head), toP a)
 | _, k, 0, hi, hn, _ => by omega
 | 0, k, n0 + 1, hi, hn, _ => by
  rw [literal.l0_succ, if_neg (by simp only [decide_eq_true_eq]; show ¬ (k : Int) < (a.row.length : Int); omega), if_pos (by simp only [decide_eq_true_eq]; show (k : Int) ≥ (a.row.length : Int); omega)]
  unfold A.lit; rw [first_end k (by omega)]
 | d + 1, k, n0 + 1, hi, hn, hlit => by
  have hrl := h.row
  have hf := first_at (a := a) k (by omega)
  have c1 : (k : Int) < (((toP a).row).length : Int) := by show (k : Int) < (a.row.length : Int); omega
  have c2 : ¬ (k : Int) ≥ (((toP a).row).length : Int) := by omega
  rw [literal.l0_succ, if_pos (decide_eq_true c1), if_pos (by omega), if_pos c1, Int.toNat_natCast]
  by_cases ht : triv (a.row.getD k (El.dflt .made)) = true
  ·rw [if_pos ht] at hf
   have hl2 : a.litOK ((k + 1 : Nat) : Int) = true := by
    unfold A.litOK at hlit ⊢
    rw [hf] at hlit
    simp only [Bool.and_eq_true] at hlit ⊢
    exact ⟨decide_eq_true (by omega), by rw [Int.natCast_add]; exact hlit.2⟩
   rw [if_pos (by exact ht), wi _ (by omega) (by omega)]
   have := literal_l0 h lim head d (k + 1) n0 (by omega) (by omega) hl2
   rw [Int.natCast_add, Int.natCast_one] at this
   rw [this]
   unfold A.lit; rw [hf]
  ·rw [if_neg ht] at hf
   rw [if_neg (by exact ht)]
   have e : List.getD (toP a).row k (El.dflt .made) = a.row.getD k (El.dflt .made) := rfl
   simp only [e]
   unfold A.litOK at hlit
   rw [hf] at hlit
   unfold A.lit
   rw [hf]
   simp only [Bool.and_eq_true] at hlit
   replace hlit := hlit.2
   dsimp only at hlit ⊢
   generalize (a.row.getD k (El.dflt .made)).n = x at hlit ⊢
   unfold Rd.litOK at hlit
   simp only [Bool.and_eq_true, Bool.or_eq_true, decide_eq_true_eq] at hlit
   obtain ⟨l1, l2⟩ := hlit
   have hx : Node.k x = 207 → Node.kids x ≠ [] := fun hk => part0_ne (l1.resolve_left (fun hc => hc hk))
   rw [if_neg (by simp only [decide_eq_true_eq]; exact c2), if_pos (by omega), if_pos c1]
   unfold literalF
   by_cases k1 : Node.k x = 220
   ·simp [k1]
   by_cases k2 : Node.k x = 221
   ·simp [k2]
   by_cases k3 : Node.k x = 222
   ·simp [k3]
   by_cases k4 : Node.k x = 224
   ·simp [k4]
   by_cases k5 : Node.k x = 208
   ·obtain ⟨p1, p2⟩ := l2.resolve_left (fun hc => hc k5)
    have hne := part0_ne p1
    have hpos : 0 < (Node.kids x).length := List.length_pos_iff.2 hne
    have hk0 : Node.k ((Node.kids x).getD 0 (El.dflt .node)) = 207 → Node.kids ((Node.kids x).getD 0 (El.dflt .node)) ≠ [] := fun hk => part0_ne (p2.resolve_left (fun hc => hc hk))
    have hW := W_named _ hk0
    cases head with
    | true => simp [k5]
    | false =>
     simp only [k5, decide_true, Bool.not_false, if_true, Int.toNat_zero]
     have hq : (0 : Int) < ((Node.kids x).length : Int) := by omega
     simp only [Int.le_refl, if_true, hq, cX_b hW]
     simp; rfl
   ·have hW := W_named x hx
    cases head with
    | true => simp [k1, k2, k3, k4, k5]
    | false =>
     simp only [k1, k2, k3, k4, k5, decide_false, Bool.not_false, if_true, cX_b hW]
     simp
theorem W_literal (h : a.ok) (m : Int) (head : Bool) (hl : a.litOK m = true) : W .prog literal.n [.rdr 0, .int m, .bool head] (toP a) = some (.bool (a.lit m head), toP a) := by
 refine fx literal.fd (a.row.length + 2) ?_
 have hm : 0 ≤ m := by
  unfold A.litOK at hl
  simp only [Bool.and_eq_true, decide_eq_true_eq] at hl
  exact hl.1
 obtain ⟨k, rfl⟩ : ∃ k : Nat, m = k := ⟨m.toNat, by omega⟩
 rw [literal_eq]
 by_cases hk : k < a.row.length
 ·exact literal_l0 h _ head (a.row.length - k) k _ (by omega) (by omega) hl
 ·rw [literal.l0_succ, if_neg (by simp only [decide_eq_true_eq]; show ¬ (k : Int) < (a.row.length : Int); omega), if_pos (by simp only [decide_eq_true_eq]; show (k : Int) ≥ (a.row.length : Int); omega)]
  unfold A.lit; rw [first_end k (by omega)]
theorem fail_dead (hd : a.dead = true) (c : Int) : a.fail c = a := by
 unfold A.dead at hd; unfold A.fail
 cases hg : a.dg with
 | none => rw [hg] at hd; cases hd
 | some d => rfl
def EntPos (l : List Ent) : Prop := ∀ e ∈ l, (0 ≤ e.from_ ∧ e.from_ < 4294967296) ∧ (0 ≤ e.to_ ∧ e.to_ < 4294967296)
theorem ent_getD {l : List Ent} {i : Nat} (h : i < l.length) : l.drop i = l.getD i (El.dflt .ent) :: l.drop (i + 1) := by
 rw [List.drop_eq_getElem_cons h, List.getD_eq_getElem?_getD, List.getElem?_eq_getElem h]; rfl
theorem ent_mem {l : List Ent} {i : Nat} (h : i < l.length) : l.getD i (El.dflt .ent) ∈ l := by
 rw [List.getD_eq_getElem?_getD, List.getElem?_eq_getElem h]; exact List.getElem_mem _
theorem badEnts_cons (e : Ent) (r : List Ent) : badEnts a (e :: r) = ((!e.named && (r.isEmpty || !(match a.first e.from_ with | some x => decide (Node.k x.n = 201) | none => false))) || badEnts a r) := rfl
noncomputable def nameEnd (lim n0 : Nat) (l : List Ent) (i k : Int) (p : PS) : Option (AV × PS) :=
 if (decide (i = (IntKind.i64.wrap (((l).length : Int) - 1)))) then
 cX W .u .prog Fail.n [.rdr 0, .int 201] p fun _ (p15 : PS) =>
 some (.undef, p15)
 else
 if (decide (k ≥ ((p.row).length : Int))) then
 cX W .u .prog Fail.n [.rdr 0, .int 201] p fun _ (p17 : PS) =>
 some (.undef, p17)
 else
 if 0 ≤ k then
 if k < ((p.row).length : Int) then
 if (decide ((Node.k ((List.getD p.row (Int.toNat k) (El.dflt .made)).n)) ≠ 201)) then
 cX W .u .prog Fail.n [.rdr 0, .int 201] p fun _ (p19 : PS) =>
 some (.undef, p19)
 else
 names.l0 W lim n0 l l (l.length : Int) (IntKind.i64.wrap (i + 1)) p
 else none
 else none
theorem names_l2 (h : a.ok) (lim n0 : Nat) (l : List Ent) (i : Int) (e : Ent) (t : Nat) (he : e.to_ = t) : ∀ (d k n2 : Nat), (t - k) + (a.row.length - k) = d → d < n2 →
  ∃ j : Nat, names.l2 W lim n0 n2 l i k l l.length i e.from_ e.to_ e.named (toP a) = nameEnd lim n0 l i j (toP a) ∧
   (((a.row.take t).drop k).any (fun x => !triv x) = true → j < a.row.length ∧ a.first k = some (a.row.getD j (El.dflt .made)))
 | _, k, 0, hd, hn => by omega
 | d, k, n2 + 1, hd, hn => by
  have hrl := h.row
  rw [names.l2_succ]
  by_cases c1 : (k : Int) < e.to_
  rotate_left
  ·rw [if_neg (by simp only [decide_eq_true_eq]; exact c1)]
   refine ⟨k, rfl, fun hany => ?_⟩
   rw [List.drop_of_length_le (by simp; omega)] at hany
   cases hany
  rw [if_pos (decide_eq_true c1)]
  by_cases c2 : k < a.row.length
  rotate_left
  ·rw [if_neg (by simp only [decide_eq_true_eq]; show ¬ (k : Int) < (a.row.length : Int); omega)]
   refine ⟨k, rfl, fun hany => ?_⟩
   rw [List.drop_of_length_le (by simp; omega)] at hany
   cases hany
  have c3 : (k : Int) < (((toP a).row).length : Int) := by show (k : Int) < (a.row.length : Int); omega
  rw [if_pos (decide_eq_true c3), if_pos (by omega), if_pos c3]
  rw [show Int.toNat (k : Int) = k from Int.toNat_natCast k]
  have hf := first_at (a := a) k c2
  by_cases ht : triv (a.row.getD k (El.dflt .made)) = true
  ·rw [if_pos (by exact ht), wi _ (by omega) (by omega)]
   rw [if_pos ht] at hf
   obtain ⟨j, j1, j2⟩ := names_l2 h lim n0 l i e t he ((t - (k + 1)) + (a.row.length - (k + 1))) (k + 1) n2 rfl (by omega)
   rw [Int.natCast_add, Int.natCast_one] at j1 j2
   refine ⟨j, j1, fun hany => ?_⟩
   rw [hf]
   refine j2 ?_
   have hx : ((a.row.take t).drop k) = a.row.getD k (El.dflt .made) :: ((a.row.take t).drop (k + 1)) := by
    rw [List.drop_eq_getElem_cons (by simp; omega), List.getElem_take, List.getD_eq_getElem?_getD, List.getElem?_eq_getElem c2]; rfl
   rw [hx, List.any_cons, ht] at hany
   simpa using hany
  ·rw [if_neg (by exact ht)]
   rw [if_neg ht] at hf
   refine ⟨k, ?_, fun _ => ⟨c2, hf⟩⟩
   unfold nameEnd
   rw [show Int.toNat (k : Int) = k from Int.toNat_natCast k]
theorem names_l0 (h : a.ok) (lim : Nat) (l : List Ent) (hl : l.length < 4294967296) (hp : EntPos l) (hlim : 4294967296 + a.row.length < lim) : ∀ (d i n0 : Nat), i + d = l.length → d < n0 →
  ∃ b : Bool, names.l0 W lim n0 l l l.length i (toP a) = some (.undef, toP (if b = true then a.fail 201 else a)) ∧
   (∀ m, entsOK a.row m (l.drop i) = true → b = badEnts a (l.drop i))
 | _, i, 0, hi, hn => by omega
 | 0, i, n0 + 1, hi, hn => by
  refine ⟨false, ?_, fun m _ => ?_⟩
  ·rw [names.l0_succ, if_neg (by simp; omega)]; rfl
  ·rw [List.drop_of_length_le (by omega)]; rfl
 | d + 1, i, n0 + 1, hi, hn => by
  have hx := ent_getD (l := l) (i := i) (by omega)
  have hm := hp _ (ent_mem (l := l) (i := i) (by omega))
  rw [names.l0_succ, if_pos (by simp; omega), if_pos (by omega), if_pos (by omega), Int.toNat_natCast, hx]
  obtain ⟨b, b1, b2⟩ := names_l0 h lim l hl hp hlim d (i + 1) n0 (by omega) (by omega)
  rw [Int.natCast_add, Int.natCast_one] at b1
  generalize l.getD i (El.dflt .ent) = e at hm hx ⊢
  by_cases hnm : e.named = true
  ·refine ⟨b, ?_, fun m hok => ?_⟩
   ·rw [if_pos hnm, wi _ (by omega) (by omega)]; exact b1
   ·simp only [entsOK, Bool.and_eq_true] at hok
    rw [b2 _ hok.2.2.2, badEnts_cons, hnm]; rfl
  ·rw [if_neg hnm]
   obtain ⟨k, hk⟩ : ∃ k : Nat, e.from_ = k := ⟨e.from_.toNat, by omega⟩
   obtain ⟨t, ht⟩ : ∃ t : Nat, e.to_ = t := ⟨e.to_.toNat, by omega⟩
   obtain ⟨j, j1, j2⟩ := names_l2 h lim n0 l i e t ht _ k lim rfl (by omega)
   rw [← hk] at j1 j2
   rw [j1]
   have hlast : decide ((i : Int) = IntKind.i64.wrap ((l.length : Int) - 1)) = (l.drop (i + 1)).isEmpty := by
    rw [wi _ (by omega) (by omega)]
    by_cases hz : d = 0
    ·rw [List.drop_of_length_le (by omega), decide_eq_true (by omega)]; rfl
    ·rw [decide_eq_false (by omega), ent_getD (by omega)]; rfl
   have hnf : e.named = false := by simpa using hnm
   unfold nameEnd
   simp only [show (toP a).row = a.row from rfl]
   by_cases hz : (l.drop (i + 1)).isEmpty = true
   ·rw [if_pos (by rw [hlast]; exact hz), cX_u (W_Fail h 201)]
    refine ⟨true, rfl, fun m hok => ?_⟩
    rw [badEnts_cons, hnf, hz]; rfl
   rw [if_neg (by rw [hlast]; exact hz)]
   by_cases c1 : (j : Int) ≥ (a.row.length : Int)
   ·rw [if_pos (decide_eq_true c1), cX_u (W_Fail h 201)]
    refine ⟨true, rfl, fun m hok => ?_⟩
    simp only [entsOK, Bool.and_eq_true] at hok
    have := (j2 (by have := hok.2.2.1; rw [ht, hk] at this; simpa using this)).1
    omega
   rw [if_neg (by simp only [decide_eq_true_eq]; exact c1), if_pos (by omega), if_pos (by omega)]
   simp only [show Int.toNat (j : Int) = j from Int.toNat_natCast j]
   have efst : ∀ m, entsOK a.row m (e :: l.drop (i + 1)) = true → a.first e.from_ = some (a.row.getD j (El.dflt .made)) := by
    intro m hok
    simp only [entsOK, Bool.and_eq_true] at hok
    exact (j2 (by have := hok.2.2.1; rw [ht, hk] at this; simpa using this)).2
   by_cases c2 : Node.k (a.row.getD j (El.dflt .made)).n = 201
   ·rw [if_neg (by simp only [decide_eq_true_eq]; exact fun hc => hc c2), wi _ (by omega) (by omega)]
    refine ⟨b, b1, fun m hok => ?_⟩
    rw [badEnts_cons, efst m hok]
    simp only [entsOK, Bool.and_eq_true] at hok
    rw [b2 _ hok.2.2.2, hnf]
    simp only [c2]
    have : (l.drop (i + 1)).isEmpty = false := by simpa using hz
    rw [this]; rfl
   ·rw [if_pos (decide_eq_true c2), cX_u (W_Fail h 201)]
    refine ⟨true, rfl, fun m hok => ?_⟩
    rw [badEnts_cons, efst m hok, hnf]
    dsimp only
    rw [decide_eq_false c2]
    simp
theorem W_names (h : a.ok) (l : List Ent) (hl : l.length < 4294967296) (hp : EntPos l) (hok : a.dead = true ∨ entsOK a.row 0 l = true) :
  W .prog names.n [.rdr 0, .sl .ent l] (toP a) = some (.undef, toP (a.names l)) := by
 refine fx names.fd (8589934592 + a.row.length) ?_
 rw [names_eq]
 obtain ⟨b, b1, b2⟩ := names_l0 h (8589934592 + a.row.length) l hl hp (by omega) l.length 0 (8589934592 + a.row.length) (by omega) (by omega)
 refine b1.trans ?_
 unfold A.names
 rcases hok with hd | hok
 ·rw [fail_dead hd]; simp
 ·rw [b2 0 (by rw [List.drop_zero]; exact hok), List.drop_zero]
structure EntsAt (row : List Made) (l : List Ent) : Prop where
 seg : ∀ j, j < l.length → 0 ≤ (l.getD j (El.dflt .ent)).from_ ∧ (l.getD j (El.dflt .ent)).from_ ≤ (l.getD j (El.dflt .ent)).to_ ∧ (l.getD j (El.dflt .ent)).to_ ≤ (row.length : Int) ∧
  ((row.take (l.getD j (El.dflt .ent)).to_.toNat).drop (l.getD j (El.dflt .ent)).from_.toNat).any (fun x => !triv x) = true
 nxt : ∀ j, j + 1 < l.length → (l.getD j (El.dflt .ent)).to_ ≤ (l.getD (j + 1) (El.dflt .ent)).from_
theorem entsOK_le {row : List Made} : ∀ {l : List Ent} {m : Int}, entsOK row m l = true → m ≤ (row.length : Int)
 | [], m, h => by simpa [entsOK] using h
 | e :: r, m, h => by
  simp only [entsOK, Bool.and_eq_true, decide_eq_true_eq] at h
  have := entsOK_le h.2.2.2
  omega
theorem entsAt_of {row : List Made} : ∀ {l : List Ent} {m : Int}, 0 ≤ m → entsOK row m l = true → EntsAt row l ∧ (∀ e, l.head? = some e → m ≤ e.from_)
 | [], m, _, h => ⟨⟨fun j hj => by simp at hj, fun j hj => by simp at hj⟩, fun e he => by simp at he⟩
 | e :: r, m, hm, h => by
  simp only [entsOK, Bool.and_eq_true, decide_eq_true_eq] at h
  obtain ⟨h1, h2, h3, h4⟩ := h
  obtain ⟨ih, ih2⟩ := entsAt_of (by omega) h4
  refine ⟨⟨fun j hj => ?_, fun j hj => ?_⟩, fun x hx => ?_⟩
  ·cases j with
   | zero => exact ⟨by simp only [List.getD_cons_zero]; omega, h2, entsOK_le h4, h3⟩
   | succ j => simpa using ih.seg j (by simpa using hj)
  ·cases j with
   | zero =>
    simp only [List.getD_cons_zero, List.getD_cons_succ]
    cases r with
    | nil => simp at hj
    | cons y q => exact ih2 y rfl
   | succ j => simpa using ih.nxt j (by simpa using hj)
  ·simp only [List.head?_cons, Option.some.injEq] at hx; subst hx; exact h1
theorem close_row {b : A} (hd : b.dg = none) (m kind : Int) : (b.close m kind).row = b.row.take (b.clamp m) ++ ((b.row.drop (b.clamp m)).takeWhile triv ++ [b.closed (b.clamp m) kind]) ∧ (b.close m kind).pre = b.pre ∧ (b.close m kind).rest = b.rest ∧ (b.close m kind).opn = b.opn := by
 unfold A.close
 rw [hd]
 simp only
 split
 ·obtain ⟨h1, h2, h3, h4⟩ := fail_dg (a := { b with row := b.row.take (b.clamp m) ++ ((b.row.drop (b.clamp m)).takeWhile triv ++ [b.closed (b.clamp m) kind]), dg := none }) 202
  exact ⟨h3, h1, h2, h4⟩
 ·exact ⟨rfl, rfl, rfl, rfl⟩
theorem close_dead {b : A} (hd : b.dead = true) (m kind : Int) : b.close m kind = b := by
 unfold A.dead at hd; unfold A.close
 cases hg : b.dg with
 | none => rw [hg] at hd; cases hd
 | some d => rfl
theorem dropWhile_pos {l : List Made} (h : l.any (fun x => !triv x) = true) : 0 < (l.dropWhile triv).length := by
 induction l with
 | nil => cases h
 | cons x r ih =>
  rw [List.dropWhile_cons]
  split
  ·rename_i hx
   rw [List.any_cons, hx] at h
   exact ih (by simpa using h)
  ·simp
theorem group1_ok {b : A} (h : b.good) (hr : b.row.length + b.rest.length + 8 < 4294967264) {f t : Nat} (hft : f ≤ t) (ht : t ≤ b.row.length) (hany : b.dead = true ∨ ((b.row.take t).drop f).any (fun x => !triv x) = true) :
  (A.group1 (f, t) b).good ∧ (A.group1 (f, t) b).rest = b.rest ∧ (A.group1 (f, t) b).row.length ≤ b.row.length ∧ f ≤ (A.group1 (f, t) b).row.length ∧ (A.group1 (f, t) b).row.take f = b.row.take f ∧ (b.dead = true → A.group1 (f, t) b = b) := by
 have hcut : A.good { b with row := b.row.take t } := ⟨⟨h.pre, h.len, h.opn, fun x hx => h.high x (List.mem_of_mem_take hx), by simp; omega⟩, fun hd x hx => h.low hd x (List.mem_of_mem_take hx)⟩
 have hroom : A.room { b with row := b.row.take t } = true := by rw [room_iff]; simp; omega
 have hcl := good_close hcut hroom (f : Int) 233
 have hg1 : A.group1 (f, t) b = { A.close (f : Int) 233 { b with row := b.row.take t } with row := (A.close (f : Int) 233 { b with row := b.row.take t }).row ++ b.row.drop t } := by
  unfold A.group1; simp
 rw [hg1]
 by_cases hd : b.dead = true
 ·have hd2 : A.dead { b with row := b.row.take t } = true := hd
  rw [close_dead hd2]
  refine ⟨?_, rfl, by simp, by simp; omega, ?_, fun _ => by simp⟩
  ·simpa using h
  ·simp
 have hd : b.dead = false := by simpa using hd
 have hdg : ({ b with row := b.row.take t } : A).dg = none := dg_live hd
 obtain ⟨r1, r2, r3, r4⟩ := close_row hdg (f : Int) 233
 have hclamp : A.clamp { b with row := b.row.take t } (f : Int) = f := by unfold A.clamp; simp; omega
 rw [hclamp] at r1
 simp only at r1
 have hpos := dropWhile_pos (hany.resolve_left (by rw [hd]; decide))
 have hsum : (((b.row.take t).drop f).takeWhile triv).length + (((b.row.take t).drop f).dropWhile triv).length = t - f := by
  rw [← List.length_append, List.takeWhile_append_dropWhile]; simp; omega
 have hlen : (A.close (f : Int) 233 { b with row := b.row.take t }).row.length ≤ t ∧ f ≤ (A.close (f : Int) 233 { b with row := b.row.take t }).row.length := by
  rw [r1]; simp only [List.length_append, List.length_take, List.length_singleton]; omega
 refine ⟨⟨⟨by simp only [r2]; exact h.pre, by simp only [r2, r3]; exact h.len, by simp only [r4]; exact h.opn, fun x hx => ?_, by simp; omega⟩, fun hd2 x hx => ?_⟩, r3, by simp; omega, by simp; omega, ?_, fun hc => by rw [hd] at hc; cases hc⟩
 ·simp only [List.mem_append] at hx
  rcases hx with hx | hx
  ·exact hcl.high x hx
  ·exact h.high x (List.mem_of_mem_drop hx)
 ·simp only [List.mem_append] at hx
  rcases hx with hx | hx
  ·exact hcl.low hd2 x hx
  ·exact h.low hd x (List.mem_of_mem_drop hx)
 ·rw [List.take_append_of_le_length hlen.2, r1, List.take_append_of_le_length (by simp; omega), List.take_take, List.take_take]
  congr 1; omega
theorem toP_row (b : A) (r : List Made) : { toP b with row := r } = toP { b with row := r } := by simp [toP, A.dead]
noncomputable def groupEnd (lim n0 : Nat) (l : List Ent) (any : Bool) (i k : Int) (p : PS) : Option (AV × PS) :=
 if 0 ≤ i then
 if i < ((l).length : Int) then
 if 0 ≤ ((List.getD l (Int.toNat i) (El.dflt .ent)).to_) then
 if ((List.getD l (Int.toNat i) (El.dflt .ent)).to_) ≤ ((p.row).length : Int) then
 if ((List.drop (Int.toNat ((List.getD l (Int.toNat i) (El.dflt .ent)).to_)) p.row)).length < maxRow then
 if 0 ≤ i then
 if i < ((l).length : Int) then
 if 0 ≤ ((List.getD l (Int.toNat i) (El.dflt .ent)).to_) then
 if ((List.getD l (Int.toNat i) (El.dflt .ent)).to_) ≤ ((p.row).length : Int) then
 if 0 ≤ k then
 if k < ((l).length : Int) then
 cX W .u .prog Close.n [.rdr 0, .int ((List.getD l (Int.toNat k) (El.dflt .ent)).from_), .int 233] ({ p with row := (List.take (Int.toNat ((List.getD l (Int.toNat i) (El.dflt .ent)).to_)) p.row) }) fun _ (p9 : PS) =>
 if (p9.row).length + ((List.drop (Int.toNat ((List.getD l (Int.toNat i) (El.dflt .ent)).to_)) p.row)).length < maxRow then
 group.l0 W lim n0 l any (IntKind.i64.wrap (k - 1)) ({ p9 with row := (p9.row ++ (List.drop (Int.toNat ((List.getD l (Int.toNat i) (El.dflt .ent)).to_)) p.row)) })
 else none
 else none
 else none
 else none
 else none
 else none
 else none
 else none
 else none
 else none
 else none
 else none
theorem group_l2_step (lim n0 n2 : Nat) (l : List Ent) (any : Bool) (i k : Int) (p : PS) : group.l2 W lim n0 (n2 + 1) l any i k p =
  if any = true then (if decide (k > 0) = true then (if 0 ≤ (IntKind.i64.wrap (k - 1)) then (if (IntKind.i64.wrap (k - 1)) < ((l).length : Int) then
   (if (!((List.getD l (Int.toNat (IntKind.i64.wrap (k - 1))) (El.dflt .ent)).named)) = true then group.l2 W lim n0 n2 l any i (IntKind.i64.wrap (k - 1)) p else groupEnd lim n0 l any i k p) else none) else none)
   else groupEnd lim n0 l any i k p) else groupEnd lim n0 l any i k p := group.l2_succ W lim n0 n2 l any i k p
theorem groupEnd_ok (lim n0 : Nat) (l : List Ent) (any : Bool) (i k : Nat) {b : A} (hb : b.good) (hr : b.row.length + b.rest.length + 8 < 4294967264) (hi : i < l.length) (hk : k < l.length) (hll : l.length < 4294967296) {f t : Nat} (hf : (l.getD k (El.dflt .ent)).from_ = f) (ht : (l.getD i (El.dflt .ent)).to_ = t)
  (hft : f ≤ t) (htl : t ≤ b.row.length) (hany : b.dead = true ∨ ((b.row.take t).drop f).any (fun x => !triv x) = true) :
  groupEnd lim n0 l any i k (toP b) = group.l0 W lim n0 l any ((k : Int) - 1) (toP (A.group1 (f, t) b)) := by
 have hcut : A.good { b with row := b.row.take t } := ⟨⟨hb.pre, hb.len, hb.opn, fun x hx => hb.high x (List.mem_of_mem_take hx), by simp; omega⟩, fun hd x hx => hb.low hd x (List.mem_of_mem_take hx)⟩
 have hroom : A.room { b with row := b.row.take t } = true := by rw [room_iff]; simp; omega
 obtain ⟨g1, g2, g3, g4, g5, g6⟩ := group1_ok hb hr hft htl hany
 unfold groupEnd
 simp only [Int.toNat_natCast, hf, ht, show (toP b).row = b.row from rfl]
 have c1 : ((b.row.drop t).length) < maxRow := by simp only [List.length_drop]; unfold maxRow; omega
 rw [if_pos (by omega), if_pos (by omega), if_pos (by omega), if_pos (by omega), if_pos c1, if_pos (by omega), if_pos (by omega), if_pos (by omega), if_pos (by omega), if_pos (by omega), if_pos (by omega)]
 rw [toP_row, cX_u (W_Close hcut hroom (f : Int) 233)]
 have hlen : ((A.close (f : Int) 233 { b with row := b.row.take t }).row ++ b.row.drop t).length ≤ b.row.length := by
  have : A.group1 (f, t) b = { A.close (f : Int) 233 { b with row := b.row.take t } with row := (A.close (f : Int) 233 { b with row := b.row.take t }).row ++ b.row.drop t } := by
   unfold A.group1; simp
  rw [this] at g3; exact g3
 rw [if_pos (by rw [List.length_append] at hlen; show (A.close (f : Int) 233 { b with row := b.row.take t }).row.length + _ < maxRow; unfold maxRow; omega), wi _ (by omega) (by omega), toP_row]
 unfold A.group1
 simp only [Int.toNat_natCast]
 rfl
theorem backG_cons (any : Bool) (t f : Int) (x : Ent) (r : List Ent) : backG any t f (x :: r) = if (any && !x.named) = true then backG any t x.from_ r else (f, t) :: backG any x.to_ x.from_ r := rfl
theorem group_l2 (lim : Nat) (l : List Ent) (any : Bool) (row : List Made) (hl : l.length < 4294967296) (hE : EntsAt row l) (rest : List Tok) (hr : row.length + rest.length + 8 < 4294967264) (hlim : l.length < lim) : ∀ (k i n0 n2 : Nat) (b : A), k ≤ i → i < l.length → k < n2 → k < n0 →
  b.good → b.rest = rest → b.row.length ≤ row.length → (l.getD i (El.dflt .ent)).to_ ≤ (b.row.length : Int) → (l.getD k (El.dflt .ent)).from_ ≤ (l.getD i (El.dflt .ent)).to_ →
  ((row.take (l.getD i (El.dflt .ent)).to_.toNat).drop (l.getD k (El.dflt .ent)).from_.toNat).any (fun x => !triv x) = true →
  (b.row.take (l.getD i (El.dflt .ent)).to_.toNat = row.take (l.getD i (El.dflt .ent)).to_.toNat) →
  group.l2 W lim n0 n2 l any i k (toP b) = some (.undef, toP ((backG any (l.getD i (El.dflt .ent)).to_ (l.getD k (El.dflt .ent)).from_ (l.take k).reverse).foldl (fun b g => A.group1 g b) b))
 | _, _, _, 0, _, _, _, hn, _, _, _, _, _, _, _, _ => by omega
 | k, i, n0, n2 + 1, b, hki, hi, hn2, hn0, hb, hrest, hbl, hto, hfr, hany, htk => by
  have hsk := hE.seg k (by omega)
  have hsi := hE.seg i hi
  rw [group_l2_step]
  obtain ⟨f, hf⟩ : ∃ f : Nat, (l.getD k (El.dflt .ent)).from_ = f := ⟨(l.getD k (El.dflt .ent)).from_.toNat, by omega⟩
  obtain ⟨t, ht⟩ : ∃ t : Nat, (l.getD i (El.dflt .ent)).to_ = t := ⟨(l.getD i (El.dflt .ent)).to_.toNat, by omega⟩
  rw [hf, ht] at hfr
  rw [ht] at hto
  have hfr' : f ≤ t := by omega
  have hto' : t ≤ b.row.length := by omega
  have hany' : ((b.row.take t).drop f).any (fun x => !triv x) = true := by
   rw [ht, Int.toNat_natCast] at htk
   rw [hf, ht, Int.toNat_natCast, Int.toNat_natCast] at hany
   rw [htk]; exact hany
  have hend := groupEnd_ok lim n0 l any i k hb (by rw [hrest]; omega) hi (by omega) hl hf ht hfr' hto' (.inr hany')
  obtain ⟨g1, g2, g3, g4, g5, g6⟩ := group1_ok hb (by rw [hrest]; omega) hfr' hto' (.inr hany')
  -- what follows a group
  have hfin : ∀ x : List (Int × Int), (k = 0 → x = []) → (∀ j, k = j + 1 → x = backG any (l.getD j (El.dflt .ent)).to_ (l.getD j (El.dflt .ent)).from_ (l.take j).reverse) →
    groupEnd lim n0 l any i k (toP b) = some (.undef, toP ((((f : Int), (t : Int)) :: x).foldl (fun b g => A.group1 g b) b)) := by
   intro x x0 x1
   rw [hend]
   obtain ⟨m, rfl⟩ : ∃ m, n0 = m + 1 := ⟨n0 - 1, by omega⟩
   rw [group.l0_succ]
   cases k with
   | zero => rw [if_neg (by simp), x0 rfl]; rfl
   | succ j =>
    have hsj := hE.seg j (by omega)
    have hnx := hE.nxt j (by omega)
    have e : ((j + 1 : Nat) : Int) - 1 = j := by omega
    rw [e, if_pos (by simp), x1 j rfl, List.foldl_cons]
    have hjt : (l.getD j (El.dflt .ent)).to_ ≤ (f : Int) := by rw [← hf]; exact hnx
    have htk2 : (A.group1 ((f : Int), (t : Int)) b).row.take (l.getD j (El.dflt .ent)).to_.toNat = row.take (l.getD j (El.dflt .ent)).to_.toNat := by
     have e1 : ∀ r : List Made, (r.take f).take (l.getD j (El.dflt .ent)).to_.toNat = r.take (l.getD j (El.dflt .ent)).to_.toNat := fun r => by
      rw [List.take_take]; congr 1; omega
     have e2 : ∀ r : List Made, (r.take t).take f = r.take f := fun r => by rw [List.take_take]; congr 1; omega
     rw [ht, Int.toNat_natCast] at htk
     rw [← e1, g5, ← e2, htk, e2, e1]
    exact group_l2 lim l any row hl hE rest hr hlim j j m lim (A.group1 ((f : Int), (t : Int)) b) (Nat.le_refl _) (by omega) (by omega) (by omega) g1 (by rw [g2]; exact hrest) (by omega) (by omega) hsj.2.1 hsj.2.2.2 htk2
  rw [hf, ht]
  by_cases ha : any = true
  rotate_left
  ·rw [if_neg ha]
   have haf : any = false := by simpa using ha
   cases k with
   | zero => exact hfin [] (fun _ => rfl) (fun j hj => by omega)
   | succ j =>
    have hrev : (l.take (j + 1)).reverse = l.getD j (El.dflt .ent) :: (l.take j).reverse := by
     rw [List.take_add_one, List.getElem?_eq_getElem (by omega)]
     simp [List.getD_eq_getElem?_getD, List.getElem?_eq_getElem (show j < l.length by omega)]
    rw [hrev, backG_cons, if_neg (by rw [haf]; simp)]
    exact hfin _ (fun hk => by omega) (fun j' hj' => by
     have : j' = j := by omega
     rw [this])
  rw [if_pos ha]
  cases k with
  | zero =>
   rw [if_neg (by simp)]
   exact hfin [] (fun _ => rfl) (fun j hj => by omega)
  | succ j =>
   have hsj := hE.seg j (by omega)
   have hnx := hE.nxt j (by omega)
   have e : ((j + 1 : Nat) : Int) - 1 = j := by omega
   rw [if_pos (by simp), e, wi _ (by omega) (by omega), if_pos (by omega), if_pos (by omega), Int.toNat_natCast]
   have hrev : (l.take (j + 1)).reverse = l.getD j (El.dflt .ent) :: (l.take j).reverse := by
    rw [List.take_add_one, List.getElem?_eq_getElem (by omega)]
    simp [List.getD_eq_getElem?_getD, List.getElem?_eq_getElem (show j < l.length by omega)]
   rw [hrev]
   by_cases hnm : (l.getD j (El.dflt .ent)).named = true
   ·rw [if_neg (by rw [hnm]; decide), backG_cons, if_neg (by rw [ha, hnm]; decide)]
    exact hfin _ (fun hk => by omega) (fun j' hj' => by
     have : j' = j := by omega
     rw [this])
   ·have hnf : (l.getD j (El.dflt .ent)).named = false := by simpa using hnm
    rw [if_pos (by rw [hnf]; decide)]
    have hfj : (l.getD j (El.dflt .ent)).from_ ≤ (l.getD i (El.dflt .ent)).to_ := by omega
    have hanyj : ((row.take (l.getD i (El.dflt .ent)).to_.toNat).drop (l.getD j (El.dflt .ent)).from_.toNat).any (fun x => !triv x) = true := by
     rw [List.any_eq_true] at hany ⊢
     obtain ⟨x, x1, x2⟩ := hany
     refine ⟨x, ?_, x2⟩
     have hle : (l.getD j (El.dflt .ent)).from_.toNat ≤ (l.getD (j + 1) (El.dflt .ent)).from_.toNat := by omega
     have : (row.take (l.getD i (El.dflt .ent)).to_.toNat).drop (l.getD (j + 1) (El.dflt .ent)).from_.toNat = ((row.take (l.getD i (El.dflt .ent)).to_.toNat).drop (l.getD j (El.dflt .ent)).from_.toNat).drop ((l.getD (j + 1) (El.dflt .ent)).from_.toNat - (l.getD j (El.dflt .ent)).from_.toNat) := by
      rw [List.drop_drop]; congr 1; omega
     rw [this] at x1
     exact List.mem_of_mem_drop x1
    have := group_l2 lim l any row hl hE rest hr hlim j i n0 n2 b (by omega) hi (by omega) (by omega) hb hrest hbl (by rw [ht]; omega) hfj hanyj htk
    rw [this, ht, backG_cons, if_pos (by rw [ha, hnf]; decide)]
theorem W_group (h : a.good) (any : Bool) (l : List Ent) (hl : l.length < 4294967296) (hok : a.dead = true ∨ (a.room = true ∧ entsOK a.row 0 l = true)) :
  W .prog group.n [.rdr 0, .sl .ent l, .bool any] (toP a) = some (.undef, toP (a.group any l)) := by
 refine fx group.fd (l.length + 2) ?_
 rw [group_eq]
 unfold A.group
 cases hd : a.dg with
 | some d => rw [if_pos (toP_dead d hd)]
 | none =>
  have hdd := live_of hd
  obtain ⟨hr, he⟩ := hok.resolve_left (by rw [hdd]; decide)
  rw [room_iff] at hr
  rw [if_neg (by show ¬ a.dead = true; rw [hdd]; decide), wi _ (by omega) (by omega), group.l0_succ]
  obtain ⟨hE, _⟩ := entsAt_of (Int.le_refl 0) he
  by_cases hz : l = []
  ·subst hz; rfl
  ·obtain ⟨i, hi⟩ : ∃ i, l.length = i + 1 := ⟨l.length - 1, by have := List.length_pos_iff.2 hz; omega⟩
   have e : (l.length : Int) - 1 = i := by omega
   rw [e, if_pos (by simp)]
   have hsi := hE.seg i (by omega)
   have := group_l2 (l.length + 2) l any a.row hl hE a.rest (by omega) (by omega) i i (l.length + 1) (l.length + 2) a (Nat.le_refl _) (by omega) (by omega) (by omega) h rfl (Nat.le_refl _) hsi.2.2.1 hsi.2.1 hsi.2.2.2 rfl
   rw [this]
   have hrev : l.reverse = l.getD i (El.dflt .ent) :: (l.take i).reverse := by
    conv => lhs; rw [show l = l.take (i + 1) by rw [List.take_of_length_le (by omega)]]
    rw [List.take_add_one, List.getElem?_eq_getElem (by omega)]
    simp [List.getD_eq_getElem?_getD, List.getElem?_eq_getElem (show i < l.length by omega)]
   rw [hrev]; rfl
end
end Go.AI.Rd
namespace Go.AI.Rd
section
variable {a : A}
theorem fail_rest (c : Int) : (a.fail c).rest = a.rest := (fail_dg c).2.1
theorem take_rest : a.take.rest.length ≤ a.rest.length := by
 unfold A.take
 split
 ·exact Nat.le_refl _
 ·split
  ·exact Nat.le_refl _
  ·rename_i s t r hc
   obtain ⟨h1, _, _⟩ := cutSig_some hc
   rw [h1]; simp; omega
theorem take_lt (hk : a.kinds.getD 0 0 ≠ 0) : a.take.rest.length < a.rest.length := by
 unfold A.kinds at hk; unfold A.take
 cases hd : a.dg with
 | some d => rw [hd] at hk; exact absurd rfl hk
 | none =>
  rw [hd] at hk
  cases hc : cutSig a.rest with
  | none => simp only [cutSig_none hc] at hk; exact absurd rfl hk
  | some x =>
   obtain ⟨s, t, r⟩ := x
   obtain ⟨h1, _, _⟩ := cutSig_some hc
   simp only
   rw [h1]; simp; omega
theorem none_rest : a.none_.rest = a.rest := by unfold A.none_; split <;> rfl
theorem close_rest (m k : Int) : (a.close m k).rest = a.rest := by
 cases hd : a.dg with
 | none => exact (close_row hd m k).2.2.1
 | some d => rw [close_dead (by unfold A.dead; rw [hd]; rfl)]
theorem gap_rest (m : Int) : (a.gap m).rest = a.rest := by unfold A.gap; split <;> rfl
theorem gap_mem {m : Int} {x : Made} (h : x ∈ (a.gap m).row) : x ∈ a.row ∨ x.h = 0 := by
 unfold A.gap at h
 split at h
 ·exact .inl h
 ·simp only [List.mem_append, List.mem_cons] at h
  rcases h with h | rfl | h
  ·exact .inl (List.mem_of_mem_take h)
  ·exact .inr rfl
  ·exact .inl (List.mem_of_mem_drop h)
theorem gap_len (m : Int) : (a.gap m).row.length ≤ a.row.length + 1 := by
 unfold A.gap
 split
 ·omega
 ·simp only [List.length_append, List.length_take, List.length_cons, List.length_drop]; omega
theorem good_gap (h : a.good) (hr : a.room = true) (m : Int) : (a.gap m).good := by
 rw [room_iff] at hr
 have h1 : (a.gap m).pre = a.pre ∧ (a.gap m).opn = a.opn ∧ (a.gap m).dead = a.dead := by
  unfold A.gap A.dead; cases hd : a.dg <;> simp [hd]
 have hl := gap_len (a := a) m
 refine ⟨⟨by rw [h1.1]; exact h.pre, by rw [h1.1, gap_rest]; exact h.len, by rw [h1.2.1]; exact h.opn, fun x hx => ?_, by omega⟩, fun hd x hx => ?_⟩
 ·rcases gap_mem hx with hx | hx
  ·exact h.high x hx
  ·omega
 ·rw [h1.2.2] at hd
  rcases gap_mem hx with hx | hx
  ·exact h.low hd x hx
  ·omega
theorem down_rest : a.down.2.rest = a.rest := by
 unfold A.down; split
 ·rfl
 ·split
  ·exact fail_rest _
  ·rfl
theorem names_good (h : a.good) (l : List Ent) : (a.names l).good := by
 unfold A.names; split
 ·exact good_fail h _
 ·exact h
theorem names_rest (l : List Ent) : (a.names l).rest = a.rest := by
 unfold A.names; split
 ·exact fail_rest _
 ·rfl
end
theorem dead_cases {a : A} (hd : a.dead = true) : ∃ d, a.dg = some d := by
 unfold A.dead at hd
 cases hg : a.dg with
 | none => rw [hg] at hd; cases hd
 | some d => exact ⟨d, rfl⟩
theorem group_dead {a : A} (hd : a.dead = true) (any : Bool) (l : List Ent) : a.group any l = a := by obtain ⟨d, hg⟩ := dead_cases hd; unfold A.group; rw [hg]
def ROk (a b : A) : Prop := b.good ∧ b.rest.length ≤ a.rest.length
section
variable {cf : Proc → A → List Int → Option (Int × A)}
theorem group_good {a : A} (h : a.good) (any : Bool) (l : List Ent) (hl : l.length < 4294967296) (hok : a.dead = true ∨ (a.room = true ∧ entsOK a.row 0 l = true)) : (a.group any l).good ∧ (a.group any l).rest = a.rest ∧ (a.group any l).row.length ≤ a.row.length := by
 -- the same walk over the groups, plainly
 have key : ∀ (row : List Made) (rest : List Tok), EntsAt row l → row.length + rest.length + 8 < 4294967264 → ∀ (k i : Nat) (b : A), k ≤ i → i < l.length → b.good → b.rest = rest → b.row.length ≤ row.length →
   (l.getD i (El.dflt .ent)).to_ ≤ (b.row.length : Int) → (l.getD k (El.dflt .ent)).from_ ≤ (l.getD i (El.dflt .ent)).to_ →
   ((row.take (l.getD i (El.dflt .ent)).to_.toNat).drop (l.getD k (El.dflt .ent)).from_.toNat).any (fun x => !triv x) = true →
   (b.row.take (l.getD i (El.dflt .ent)).to_.toNat = row.take (l.getD i (El.dflt .ent)).to_.toNat) →
   ((backG any (l.getD i (El.dflt .ent)).to_ (l.getD k (El.dflt .ent)).from_ (l.take k).reverse).foldl (fun b g => A.group1 g b) b).good ∧
   ((backG any (l.getD i (El.dflt .ent)).to_ (l.getD k (El.dflt .ent)).from_ (l.take k).reverse).foldl (fun b g => A.group1 g b) b).rest = rest ∧
   ((backG any (l.getD i (El.dflt .ent)).to_ (l.getD k (El.dflt .ent)).from_ (l.take k).reverse).foldl (fun b g => A.group1 g b) b).row.length ≤ row.length := by
  intro row rest hE hr k
  induction k using Nat.strongRecOn with
  | _ k ih =>
  intro i b hki hi hb hrest hbl hto hfr hany htk
  have hsk := hE.seg k (by omega)
  have hsi := hE.seg i hi
  obtain ⟨f, hf⟩ : ∃ f : Nat, (l.getD k (El.dflt .ent)).from_ = f := ⟨(l.getD k (El.dflt .ent)).from_.toNat, by omega⟩
  obtain ⟨t, ht⟩ : ∃ t : Nat, (l.getD i (El.dflt .ent)).to_ = t := ⟨(l.getD i (El.dflt .ent)).to_.toNat, by omega⟩
  rw [hf, ht] at hfr
  rw [ht] at hto
  have hfr' : f ≤ t := by omega
  have hto' : t ≤ b.row.length := by omega
  have hany' : ((b.row.take t).drop f).any (fun x => !triv x) = true := by
   rw [ht, Int.toNat_natCast] at htk
   rw [hf, ht, Int.toNat_natCast, Int.toNat_natCast] at hany
   rw [htk]; exact hany
  obtain ⟨g1, g2, g3, g4, g5, g6⟩ := group1_ok hb (by rw [hrest]; omega) hfr' hto' (.inr hany')
  cases k with
  | zero =>
   rw [hf, ht]
   exact ⟨g1, by rw [← hrest]; exact g2, Nat.le_trans g3 hbl⟩
  | succ j =>
   have hsj := hE.seg j (by omega)
   have hnx := hE.nxt j (by omega)
   have hrev : (l.take (j + 1)).reverse = l.getD j (El.dflt .ent) :: (l.take j).reverse := by
    rw [List.take_add_one, List.getElem?_eq_getElem (by omega)]
    simp [List.getD_eq_getElem?_getD, List.getElem?_eq_getElem (show j < l.length by omega)]
   rw [hrev, backG_cons]
   split
   ·have hfj : (l.getD j (El.dflt .ent)).from_ ≤ (l.getD i (El.dflt .ent)).to_ := by omega
    refine ih j (by omega) i b (by omega) hi hb hrest hbl (by rw [ht]; omega) hfj ?_ htk
    rw [List.any_eq_true] at hany ⊢
    obtain ⟨x, x1, x2⟩ := hany
    refine ⟨x, ?_, x2⟩
    have : (row.take (l.getD i (El.dflt .ent)).to_.toNat).drop (l.getD (j + 1) (El.dflt .ent)).from_.toNat = ((row.take (l.getD i (El.dflt .ent)).to_.toNat).drop (l.getD j (El.dflt .ent)).from_.toNat).drop ((l.getD (j + 1) (El.dflt .ent)).from_.toNat - (l.getD j (El.dflt .ent)).from_.toNat) := by
     rw [List.drop_drop]; congr 1; omega
    rw [this] at x1
    exact List.mem_of_mem_drop x1
   ·rw [List.foldl_cons, hf, ht]
    have hjt : (l.getD j (El.dflt .ent)).to_ ≤ (f : Int) := by rw [← hf]; exact hnx
    have htk2 : (A.group1 ((f : Int), (t : Int)) b).row.take (l.getD j (El.dflt .ent)).to_.toNat = row.take (l.getD j (El.dflt .ent)).to_.toNat := by
     have e1 : ∀ r : List Made, (r.take f).take (l.getD j (El.dflt .ent)).to_.toNat = r.take (l.getD j (El.dflt .ent)).to_.toNat := fun r => by
      rw [List.take_take]; congr 1; omega
     have e2 : ∀ r : List Made, (r.take t).take f = r.take f := fun r => by rw [List.take_take]; congr 1; omega
     rw [ht, Int.toNat_natCast] at htk
     rw [← e1, g5, ← e2, htk, e2, e1]
    exact ih j (by omega) j (A.group1 ((f : Int), (t : Int)) b) (Nat.le_refl _) (by omega) g1 (by rw [g2]; exact hrest) (by omega) (by omega) hsj.2.1 hsj.2.2.2 htk2
 unfold A.group
 cases hd : a.dg with
 | some d => exact ⟨h, rfl, Nat.le_refl _⟩
 | none =>
  have hdd := live_of hd
  obtain ⟨hr, he⟩ := hok.resolve_left (by rw [hdd]; decide)
  rw [room_iff] at hr
  obtain ⟨hE, _⟩ := entsAt_of (Int.le_refl 0) he
  by_cases hz : l = []
  ·subst hz; exact ⟨h, rfl, Nat.le_refl _⟩
  ·obtain ⟨i, hi⟩ : ∃ i, l.length = i + 1 := ⟨l.length - 1, by have := List.length_pos_iff.2 hz; omega⟩
   have hsi := hE.seg i (by omega)
   have hrev : l.reverse = l.getD i (El.dflt .ent) :: (l.take i).reverse := by
    conv => lhs; rw [show l = l.take (i + 1) by rw [List.take_of_length_le (by omega)]]
    rw [List.take_add_one, List.getElem?_eq_getElem (by omega)]
    simp [List.getD_eq_getElem?_getD, List.getElem?_eq_getElem (show i < l.length by omega)]
   simp only
   rw [hrev]
   exact key a.row a.rest hE (by omega) i i a (Nat.le_refl _) (by omega) h rfl (Nat.le_refl _) hsi.2.2.1 hsi.2.1 hsi.2.2.2 rfl
theorem entsOf_length : ∀ (ms : List Int) (ns : List Bool), (entsOf ms ns).length ≤ ns.length
 | [], _ => by simp [entsOf]
 | [_], _ => by simp [entsOf]
 | _ :: _ :: ms, [] => by simp [entsOf]
 | f :: t :: ms, b :: ns => by simp only [entsOf, List.length_cons]; have := entsOf_length ms ns; omega
theorem runM_good (hcf : ∀ pr a ms r b, a.good → cf pr a ms = some (r, b) → ROk a b) : ∀ (m : M) (a : A) (ms : List Int) (r : Int) (b : A), a.good → runM cf m a ms = some (r, b) → ROk a b := by
 have tr : ∀ {a b c : A}, b.rest.length ≤ a.rest.length → ROk b c → ROk a c := fun h k => ⟨k.1, Nat.le_trans k.2 h⟩
 intro m
 induction m with
 | ret v => intro a ms r b h hr; simp only [runM, Option.some.injEq, Prod.mk.injEq] at hr; obtain ⟨_, rfl⟩ := hr; exact ⟨h, Nat.le_refl _⟩
 | look f k ih => intro a ms r b h hr; exact ih _ a ms r b h hr
 | lookB f k ih => intro a ms r b h hr; exact ih _ a ms r b h hr
 | dead k ih => intro a ms r b h hr; exact ih _ a ms r b h hr
 | take k ih =>
  intro a ms r b h hr
  simp only [runM] at hr
  split at hr
  ·rename_i hroom; exact tr take_rest (ih _ ms r b (good_take h hroom) hr)
  ·cases hr
 | none_ k ih =>
  intro a ms r b h hr
  simp only [runM] at hr
  split at hr
  ·rename_i hroom; exact tr (by rw [none_rest]; exact Nat.le_refl _) (ih _ ms r b (good_none h hroom) hr)
  ·cases hr
 | mark k ih =>
  intro a ms r b h hr
  simp only [runM] at hr
  split at hr
  ·exact ih a _ r b h hr
  ·cases hr
 | close hh kd k ih =>
  intro a ms r b h hr
  simp only [runM] at hr
  split at hr
  ·rename_i hroom; exact tr (by rw [close_rest]; exact Nat.le_refl _) (ih _ ms r b (good_close h hroom _ _) hr)
  ·cases hr
 | gap hh k ih =>
  intro a ms r b h hr
  simp only [runM] at hr
  split at hr
  ·rename_i hroom; exact tr (by rw [gap_rest]; exact Nat.le_refl _) (ih _ ms r b (good_gap h hroom _) hr)
  ·cases hr
 | last k ih => intro a ms r b h hr; exact ih _ a ms r b h hr
 | down k ih => intro a ms r b h hr; exact tr (by rw [down_rest]; exact Nat.le_refl _) (ih _ _ ms r b (good_down h) hr)
 | up k ih => intro a ms r b h hr; exact tr (b := a.up) (Nat.le_refl a.rest.length) (ih _ ms r b (good_up h) hr)
 | fail c k ih => intro a ms r b h hr; exact tr (by rw [fail_rest]; exact Nat.le_refl _) (ih _ ms r b (good_fail h c) hr)
 | lit hh head k ih =>
  intro a ms r b h hr
  simp only [runM] at hr
  split at hr
  ·exact ih _ a ms r b h hr
  ·cases hr
 | names ns k ih =>
  intro a ms r b h hr
  simp only [runM] at hr
  split at hr
  ·exact tr (by rw [names_rest]; exact Nat.le_refl _) (ih _ ms r b (names_good h _) hr)
  ·cases hr
 | group ns any k ih =>
  intro a ms r b h hr
  simp only [runM] at hr
  split at hr
  ·rename_i hc
   simp only [Bool.and_eq_true, Bool.or_eq_true, decide_eq_true_eq] at hc
   rcases hc with hc | hc
   ·rw [group_dead hc] at hr; exact ih a ms r b h hr
   ·obtain ⟨g1, g2, _⟩ := group_good h any (entsOf ms ns) (by have := entsOf_length ms ns; omega) (.inr hc.2)
    exact tr (by rw [g2]; exact Nat.le_refl _) (ih _ ms r b g1 hr)
  ·cases hr
 | call pr hs k ih =>
  intro a ms r b h hr
  simp only [runM] at hr
  split at hr
  ·rename_i r1 b1 hc
   have := hcf _ _ _ _ _ h hc
   exact tr this.2 (ih _ b1 ms r b this.1 hr)
  ·cases hr
end
theorem callN_good : ∀ (n : Nat) (pr : Proc) (a : A) (ms : List Int) (r : Int) (b : A), a.good → callN n pr a ms = some (r, b) → ROk a b
 | 0, pr, a, ms, r, b, _, h => by simp [callN] at h
 | n + 1, pr, a, ms, r, b, hg, h => runM_good (fun pr a ms r b => callN_good n pr a ms r b) (body pr) a ms r b hg h
end Go.AI.Rd
namespace Go.AI.Rd
theorem runM_mono {cf cg : Proc → A → List Int → Option (Int × A)} (h : ∀ pr a ms r, cf pr a ms = some r → cg pr a ms = some r) : ∀ (m : M) (a : A) (ms : List Int) (r : Int × A), runM cf m a ms = some r → runM cg m a ms = some r := by
 intro m
 induction m with
 | ret v => intro a ms r hr; exact hr
 | look f k ih => intro a ms r hr; exact ih _ a ms r hr
 | lookB f k ih => intro a ms r hr; exact ih _ a ms r hr
 | dead k ih => intro a ms r hr; exact ih _ a ms r hr
 | take k ih => intro a ms r hr; simp only [runM] at hr ⊢; split at hr; exact (by rename_i hc; rw [if_pos hc]; exact ih _ ms r hr); cases hr
 | none_ k ih => intro a ms r hr; simp only [runM] at hr ⊢; split at hr; exact (by rename_i hc; rw [if_pos hc]; exact ih _ ms r hr); cases hr
 | mark k ih => intro a ms r hr; simp only [runM] at hr ⊢; split at hr; exact (by rename_i hc; rw [if_pos hc]; exact ih a _ r hr); cases hr
 | close hh kd k ih => intro a ms r hr; simp only [runM] at hr ⊢; split at hr; exact (by rename_i hc; rw [if_pos hc]; exact ih _ ms r hr); cases hr
 | gap hh k ih => intro a ms r hr; simp only [runM] at hr ⊢; split at hr; exact (by rename_i hc; rw [if_pos hc]; exact ih _ ms r hr); cases hr
 | last k ih => intro a ms r hr; exact ih _ a ms r hr
 | down k ih => intro a ms r hr; exact ih _ _ ms r hr
 | up k ih => intro a ms r hr; exact ih _ ms r hr
 | fail c k ih => intro a ms r hr; exact ih _ ms r hr
 | lit hh head k ih => intro a ms r hr; simp only [runM] at hr ⊢; split at hr; exact (by rename_i hc; rw [if_pos hc]; exact ih _ a ms r hr); cases hr
 | names ns k ih => intro a ms r hr; simp only [runM] at hr ⊢; split at hr; exact (by rename_i hc; rw [if_pos hc]; exact ih _ ms r hr); cases hr
 | group ns any k ih => intro a ms r hr; simp only [runM] at hr ⊢; split at hr; exact (by rename_i hc; rw [if_pos hc]; exact ih _ ms r hr); cases hr
 | call pr hs k ih =>
  intro a ms r hr
  simp only [runM] at hr ⊢
  split at hr
  ·rename_i r1 b1 hc
   rw [h _ _ _ _ hc]; exact ih _ _ ms r hr
  ·cases hr
theorem callN_mono1 : ∀ (n : Nat) (pr : Proc) (a : A) (ms : List Int) (r : Int × A), callN n pr a ms = some r → callN (n + 1) pr a ms = some r
 | 0, pr, a, ms, r, h => by simp [callN] at h
 | n + 1, pr, a, ms, r, h => runM_mono (callN_mono1 n) (body pr) a ms r h
theorem callN_mono {n m : Nat} (hnm : n ≤ m) {pr : Proc} {a : A} {ms : List Int} {r : Int × A} (h : callN n pr a ms = some r) : callN m pr a ms = some r := by
 induction hnm with
 | refl => exact h
 | step _ ih => exact callN_mono1 _ _ _ _ _ ih
theorem take_dead {a : A} (hd : a.dead = true) : a.take = a := by obtain ⟨d, hg⟩ := dead_cases hd; unfold A.take; rw [hg]
theorem none_dead {a : A} (hd : a.dead = true) : a.none_ = a := by obtain ⟨d, hg⟩ := dead_cases hd; unfold A.none_; rw [hg]
theorem gap_dead {a : A} (hd : a.dead = true) (m : Int) : a.gap m = a := by obtain ⟨d, hg⟩ := dead_cases hd; unfold A.gap; rw [hg]
theorem down_dead {a : A} (hd : a.dead = true) : a.down = (false, a) := by obtain ⟨d, hg⟩ := dead_cases hd; unfold A.down; rw [hg]
theorem names_dead {a : A} (hd : a.dead = true) (l : List Ent) : a.names l = a := by unfold A.names; rw [fail_dead hd]; simp
theorem fail_dead' {a : A} (c : Int) : (a.fail c).dead = true := by
 unfold A.fail A.dead
 cases hd : a.dg with
 | none => rfl
 | some d => simp [hd]
end Go.AI.Rd
namespace Go.AI.Rd
def Rf (x : Option (Int × A)) (y : Option (AV × PS)) (e : Int → A → AV) : Prop := ∀ r b, x = some (r, b) → y = some (e r b, toP b)
section
variable {n : Nat} {a : A} {ms : List Int} {e : Int → A → AV}
theorem Rf.fix {x : Option (Int × A)} {f : Nat} {fi : FnI} (hf : findN fnsT f = some fi) {args : List AV} (lim : Nat) {p : PS} (h : Rf x (evalBody T0 W .prog lim fi args p) e) : Rf x (W .prog f args p) e :=
 fun r b hx => fx hf lim (h r b hx)
theorem Rf.ret {v : Int} {u : AV} (h : u = e v a) : Rf (runM (callN n) (.ret v) a ms) (some (u, toP a)) e := by
 intro r b hx
 simp only [runM, Option.some.injEq, Prod.mk.injEq] at hx
 obtain ⟨rfl, rfl⟩ := hx
 rw [h]
theorem Rf.kind {k : Int → M} {K : Int → PS → Option (AV × PS)} (hg : a.good) (h : ∀ x, x = a.kinds.getD 0 0 → Rf (runM (callN n) (k x) a ms) (K x (toP a)) e) : Rf (runM (callN n) (kind k) a ms) (cX W .i .prog Kind.n [.rdr 0] (toP a) K) e := by
 rw [cX_i (W_Kind hg.took)]; exact h _ rfl
theorem Rf.comes {ks : List Int} {k : Bool → M} {K : Bool → PS → Option (AV × PS)} (hk : ks.length < 1099511627776) (hg : a.good) (h1 : comesF ks a.kinds = true → Rf (runM (callN n) (k true) a ms) (K true (toP a)) e) (h2 : comesF ks a.kinds = false → Rf (runM (callN n) (k false) a ms) (K false (toP a)) e) :
  Rf (runM (callN n) (comes ks k) a ms) (cX W .b .prog comes.n [.rdr 0, .sl .int ks] (toP a) K) e := by
 rw [cX_b (W_comes hg.took ks hk)]
 show Rf (runM (callN n) (k (comesF ks a.kinds)) a ms) _ e
 cases hc : comesF ks a.kinds with
 | true => exact h1 hc
 | false => exact h2 hc
theorem Rf.lookB {f : List Int → Bool} {k : Bool → M} {K : Bool → PS → Option (AV × PS)} {g : Nat} {args : List AV} (hW : W .prog g args (toP a) = some (.bool (f a.kinds), toP a)) (h1 : f a.kinds = true → Rf (runM (callN n) (k true) a ms) (K true (toP a)) e) (h2 : f a.kinds = false → Rf (runM (callN n) (k false) a ms) (K false (toP a)) e) :
  Rf (runM (callN n) (.lookB f k) a ms) (cX W .b .prog g args (toP a) K) e := by
 rw [cX_b hW]
 show Rf (runM (callN n) (k (f a.kinds)) a ms) _ e
 cases hc : f a.kinds with
 | true => exact h1 hc
 | false => exact h2 hc
theorem Rf.dead {k : Bool → M} {y1 y2 : Option (AV × PS)} (h1 : a.dead = false → Rf (runM (callN n) (k false) a ms) y1 e) (h2 : a.dead = true → Rf (runM (callN n) (k true) a ms) y2 e) :
  Rf (runM (callN n) (.dead k) a ms) (if (!(toP a).failed) = true then y1 else y2) e := by
 show Rf (runM (callN n) (k a.dead) a ms) (if (!a.dead) = true then y1 else y2) e
 cases hd : a.dead with
 | true => simpa using h2 hd
 | false => simpa using h1 hd
theorem Rf.take {k : M} {K : Unit → PS → Option (AV × PS)} (hg : a.good) (h : ∀ b, b.good → b = a.take → Rf (runM (callN n) k b ms) (K () (toP b)) e) : Rf (runM (callN n) (.take k) a ms) (cX W .u .prog Take.n [.rdr 0] (toP a) K) e := by
 intro r b hx
 simp only [runM] at hx
 split at hx
 ·rename_i hr
  rw [cX_u (W_Take hg.took hr)]
  exact h _ (good_take hg hr) rfl r b hx
 ·cases hx
theorem Rf.taken {ks : List Int} {k : Bool → M} {K : Bool → PS → Option (AV × PS)} (hk : ks.length < 1099511627776) (hg : a.good) (h1 : ∀ b, comesF ks a.kinds = true → b.good → b = a.take → Rf (runM (callN n) (k true) b ms) (K true (toP b)) e) (h2 : comesF ks a.kinds = false → Rf (runM (callN n) (k false) a ms) (K false (toP a)) e) :
  Rf (runM (callN n) (taken ks k) a ms) (cX W .b .prog taken.n [.rdr 0, .sl .int ks] (toP a) K) e := by
 intro r b hx
 have hx' : runM (callN n) (if comesF ks a.kinds then .take (k true) else k false) a ms = some (r, b) := hx
 cases hc : comesF ks a.kinds with
 | true =>
  rw [hc, if_pos rfl] at hx'
  simp only [runM] at hx'
  split at hx'
  ·rename_i hr
   have := W_taken hg.took hr ks hk
   rw [hc, if_pos rfl] at this
   rw [cX_b this]
   exact h1 _ hc (good_take hg hr) rfl r b hx'
  ·cases hx'
 | false =>
  rw [hc, if_neg (by decide)] at hx'
  have : W .prog taken.n [.rdr 0, .sl .int ks] (toP a) = some (.bool false, toP a) := by
   refine fx taken.fd 0 ?_
   rw [taken_eq, cX_b (W_comes hg.took ks hk), hc, if_neg (by decide)]
  rw [cX_b this]
  exact h2 hc r b hx'
theorem Rf.expect {c : Int} {k : M} {K : Bool → PS → Option (AV × PS)} (hc : c ≠ 0) (hg : a.good) (h1 : ∀ b, b.good → Rf (runM (callN n) k b ms) (K true (toP b)) e) (h2 : ∀ b, b.good → Rf (runM (callN n) k b ms) (K false (toP b)) e) : Rf (runM (callN n) (expect c k) a ms) (cX W .b .prog Expect.n [.rdr 0, .int c] (toP a) K) e := by
 intro r b hx
 have hx' : runM (callN n) (if a.kinds.getD 0 0 = c then .take k else .fail 201 k) a ms = some (r, b) := hx
 have hW : ∀ hr, W .prog Expect.n [.rdr 0, .int c] (toP a) = _ := fun hr => W_Expect hg.took hr c hc
 by_cases hk : a.kinds.getD 0 0 = c
 ·rw [if_pos hk] at hx'
  simp only [runM] at hx'
  split at hx'
  ·rename_i hr
   have := hW hr
   rw [if_pos hk, decide_eq_true hk] at this
   rw [cX_b this]
   exact h1 _ (good_take hg hr) r b hx'
  ·cases hx'
 ·rw [if_neg hk] at hx'
  simp only [runM] at hx'
  have : W .prog Expect.n [.rdr 0, .int c] (toP a) = some (.bool false, toP (a.fail 201)) := by
   refine fx Expect.fd 0 ?_
   rw [Expect_eq, if_neg (by simpa using hc), cX_i (W_Kind hg.took), if_pos (decide_eq_true hk), cX_u (W_Fail hg.took 201)]
  rw [cX_b this]
  exact h2 _ (good_fail hg 201) r b hx'
theorem Rf.fail {c : Int} {k : M} {K : Unit → PS → Option (AV × PS)} (hg : a.good) (h : ∀ b, b.good → Rf (runM (callN n) k b ms) (K () (toP b)) e) : Rf (runM (callN n) (.fail c k) a ms) (cX W .u .prog Fail.n [.rdr 0, .int c] (toP a) K) e := by
 rw [cX_u (W_Fail hg.took c)]
 exact h _ (good_fail hg c)
theorem Rf.none_ {k : M} {K : Unit → PS → Option (AV × PS)} (hg : a.good) (h : ∀ b, b.good → Rf (runM (callN n) k b ms) (K () (toP b)) e) : Rf (runM (callN n) (.none_ k) a ms) (cX W .u .prog None_.n [.rdr 0] (toP a) K) e := by
 intro r b hx
 simp only [runM] at hx
 split at hx
 ·rename_i hr
  rw [cX_u (W_None hg.took hr)]
  exact h _ (good_none hg hr) r b hx
 ·cases hx
theorem Rf.mark {k : M} {K : Int → PS → Option (AV × PS)} (h : Rf (runM (callN n) k a (ms ++ [(a.row.length : Int)])) (K a.row.length (toP a)) e) : Rf (runM (callN n) (.mark k) a ms) (cX W .i .prog Mark.n [.rdr 0] (toP a) K) e := by
 intro r b hx
 simp only [runM] at hx
 split at hx
 ·rw [cX_i W_Mark]; exact h r b hx
 ·cases hx
theorem Rf.close {hh : Nat} {kd m : Int} {k : M} {K : Unit → PS → Option (AV × PS)} (hm : ms.getD hh 0 = m) (hg : a.good) (h : ∀ b, b.good → Rf (runM (callN n) k b ms) (K () (toP b)) e) : Rf (runM (callN n) (.close hh kd k) a ms) (cX W .u .prog Close.n [.rdr 0, .int m, .int kd] (toP a) K) e := by
 intro r b hx
 simp only [runM] at hx
 split at hx
 ·rename_i hr
  rw [hm] at hx
  rw [cX_u (W_Close hg hr m kd)]
  exact h _ (good_close hg hr m kd) r b hx
 ·cases hx
theorem Rf.down {k : Bool → M} {K : Bool → PS → Option (AV × PS)} (hg : a.good) (h : ∀ b c, b.good → Rf (runM (callN n) (k c) b ms) (K c (toP b)) e) : Rf (runM (callN n) (.down k) a ms) (cX W .b .prog Down.n [.rdr 0] (toP a) K) e := by
 rw [cX_b (W_Down hg.took)]
 exact h _ _ (good_down hg)
theorem Rf.up {k : M} {K : Unit → PS → Option (AV × PS)} (hg : a.good) (h : ∀ b, b.good → Rf (runM (callN n) k b ms) (K () (toP b)) e) : Rf (runM (callN n) (.up k) a ms) (cX W .u .prog Up.n [.rdr 0] (toP a) K) e := by
 rw [cX_u (W_Up hg.took)]
 exact h _ (good_up hg)
theorem Rf.lit {hh : Nat} {m : Int} {head : Bool} {k : Bool → M} {K : Bool → PS → Option (AV × PS)} (hm : ms.getD hh 0 = m) (hlv : a.dead = false) (hg : a.good) (h : ∀ c, Rf (runM (callN n) (k c) a ms) (K c (toP a)) e) : Rf (runM (callN n) (.lit hh head k) a ms) (cX W .b .prog literal.n [.rdr 0, .int m, .bool head] (toP a) K) e := by
 intro r b hx
 simp only [runM] at hx
 split at hx
 ·rename_i hr
  simp only [Bool.or_eq_true] at hr
  rw [hm] at hx hr
  rw [cX_b (W_literal hg.took m head (hr.resolve_left (by rw [hlv]; decide)))]
  exact h _ r b hx
 ·cases hx
theorem live_of_kind {x : Int} (h : x = a.kinds.getD 0 0) (hx : x ≠ 0) : a.dead = false := by
 cases hd : a.dead with
 | false => rfl
 | true => rw [kinds_dead hd] at h; exact absurd h hx
theorem Rf.names {ns : List Bool} {l : List Ent} {k : M} {K : Unit → PS → Option (AV × PS)} (hns : ns.length < 4294967296) (hl : entsOf ms ns = l) (hp : EntPos l) (hg : a.good) (h : ∀ b, b.good → Rf (runM (callN n) k b ms) (K () (toP b)) e) : Rf (runM (callN n) (.names ns k) a ms) (cX W .u .prog names.n [.rdr 0, .sl .ent l] (toP a) K) e := by
 intro r b hx
 simp only [runM] at hx
 split at hx
 ·rename_i hr
  simp only [Bool.and_eq_true, Bool.or_eq_true, decide_eq_true_eq] at hr
  rw [hl] at hx hr
  have hll := entsOf_length ms ns
  rw [hl] at hll
  rw [cX_u (W_names hg.took l (by omega) hp (hr.imp_right (·.2)))]
  exact h _ (names_good hg l) r b hx
 ·cases hx
theorem Rf.group {ns : List Bool} {any : Bool} {l : List Ent} {k : M} {K : Unit → PS → Option (AV × PS)} (hns : ns.length < 4294967296) (hl : entsOf ms ns = l) (hg : a.good) (h : ∀ b, b.good → Rf (runM (callN n) k b ms) (K () (toP b)) e) : Rf (runM (callN n) (.group ns any k) a ms) (cX W .u .prog group.n [.rdr 0, .sl .ent l, .bool any] (toP a) K) e := by
 intro r b hx
 simp only [runM] at hx
 split at hx
 ·rename_i hr
  simp only [Bool.and_eq_true, Bool.or_eq_true, decide_eq_true_eq] at hr
  rw [hl] at hx hr
  have hll := entsOf_length ms ns
  rw [hl] at hll
  rw [cX_u (W_group hg any l (by omega) (hr.imp_right (·.2)))]
  exact h _ (group_good hg any l (by omega) (hr.imp_right (·.2))).1 r b hx
 ·cases hx
theorem Rf.ite {c : Prop} [Decidable c] {x : Option (Int × A)} {y1 y2 : Option (AV × PS)} (h1 : c → Rf x y1 e) (h2 : ¬ c → Rf x y2 e) : Rf x (if c then y1 else y2) e := by
 split
 ·exact h1 ‹_›
 ·exact h2 ‹_›
theorem Rf.callU {pr : Proc} {hs : List Nat} {k : Int → M} {f : Nat} {args : List AV} {K : Unit → PS → Option (AV × PS)} {u : Int → A → AV} (hg : a.good) (H : Rf (callN n pr a (hs.map fun h => ms.getD h 0)) (W .prog f args (toP a)) u)
  (h : ∀ r b, b.good → b.rest.length ≤ a.rest.length → Rf (runM (callN n) (k r) b ms) (K () (toP b)) e) : Rf (runM (callN n) (.call pr hs k) a ms) (cX W .u .prog f args (toP a) K) e := by
 intro r b hx
 simp only [runM] at hx
 split at hx
 ·rename_i r1 b1 hc
  rw [cX_u (H _ _ hc)]
  have hk := callN_good n pr a _ _ _ hg hc
  exact h _ _ hk.1 hk.2 r b hx
 ·cases hx
theorem Rf.callI {pr : Proc} {hs : List Nat} {k : Int → M} {f : Nat} {args : List AV} {K : Int → PS → Option (AV × PS)} (hg : a.good) (H : Rf (callN n pr a (hs.map fun h => ms.getD h 0)) (W .prog f args (toP a)) (fun r _ => .int r))
  (h : ∀ r b, b.good → b.rest.length ≤ a.rest.length → Rf (runM (callN n) (k r) b ms) (K r (toP b)) e) : Rf (runM (callN n) (.call pr hs k) a ms) (cX W .i .prog f args (toP a) K) e := by
 intro r b hx
 simp only [runM] at hx
 split at hx
 ·rename_i r1 b1 hc
  rw [cX_i (H _ _ hc)]
  have hk := callN_good n pr a _ _ _ hg hc
  exact h _ _ hk.1 hk.2 r b hx
 ·cases hx
theorem Rf.callB {pr : Proc} {hs : List Nat} {k : Int → M} {f : Nat} {args : List AV} {K : Bool → PS → Option (AV × PS)} (hg : a.good) (H : Rf (callN n pr a (hs.map fun h => ms.getD h 0)) (W .prog f args (toP a)) (fun r _ => .bool (decide (r ≠ 0))))
  (h : ∀ r b, b.good → b.rest.length ≤ a.rest.length → Rf (runM (callN n) (k r) b ms) (K (decide (r ≠ 0)) (toP b)) e) : Rf (runM (callN n) (.call pr hs k) a ms) (cX W .b .prog f args (toP a) K) e := by
 intro r b hx
 simp only [runM] at hx
 split at hx
 ·rename_i r1 b1 hc
  rw [cX_b (H _ _ hc)]
  have hk := callN_good n pr a _ _ _ hg hc
  exact h _ _ hk.1 hk.2 r b hx
 ·cases hx
theorem Rf.callE {pr : Proc} {hs : List Nat} {k : Int → M} {f : Nat} {args : List AV} {K : Ent → PS → Option (AV × PS)} (hg : a.good) (H : Rf (callN n pr a (hs.map fun h => ms.getD h 0)) (W .prog f args (toP a)) (fun r b => .agg [.int a.row.length, .int b.row.length, .bool (decide (r ≠ 0))]))
  (h : ∀ r b, b.good → b.rest.length ≤ a.rest.length → Rf (runM (callN n) (k r) b ms) (K ⟨a.row.length, b.row.length, decide (r ≠ 0)⟩ (toP b)) e) : Rf (runM (callN n) (.call pr hs k) a ms) (cX W (.e .ent) .prog f args (toP a) K) e := by
 intro r b hx
 simp only [runM] at hx
 split at hx
 ·rename_i r1 b1 hc
  rw [cX_ent (H _ _ hc)]
  have hk := callN_good n pr a _ _ _ hg hc
  exact h _ _ hk.1 hk.2 r b hx
 ·cases hx
theorem Rf.kindT {x : Option (Int × A)} {K : Int → PS → Option (AV × PS)} (hg : a.good) (h : Rf x (K (a.kinds.getD 0 0) (toP a)) e) : Rf x (cX W .i .prog Kind.n [.rdr 0] (toP a) K) e := by
 rw [cX_i (W_Kind hg.took)]; exact h
theorem Rf.prec {x : Option (Int × A)} {k : Int} {K : Int → Unit → Option (AV × PS)} (h : Rf x (K (precF k) ()) e) : Rf x (cX W .i .unit Prec.n [.int k] () K) e := by
 rw [cX_i (W_Prec k)]; exact h
theorem Rf.wrap {x : Option (Int × A)} {y : Int → Option (AV × PS)} {z : Int} (hz : -9223372036854775808 ≤ z ∧ z ≤ 9223372036854775807) (h : Rf x (y z) e) : Rf x (y (IntKind.i64.wrap z)) e := by
 rw [wi z hz.1 hz.2]; exact h
theorem Rf.tail {pr : Proc} {hs : List Nat} {y : Option (AV × PS)} (H : Rf (callN n pr a (hs.map fun h => ms.getD h 0)) y e) : Rf (runM (callN n) (.call pr hs .ret) a ms) y e := by
 intro r b hx
 simp only [runM] at hx
 split at hx
 ·rename_i r1 b1 hc
  simp only [Option.some.injEq, Prod.mk.injEq] at hx
  obtain ⟨rfl, rfl⟩ := hx
  exact H _ _ hc
 ·cases hx
end
end Go.AI.Rd
