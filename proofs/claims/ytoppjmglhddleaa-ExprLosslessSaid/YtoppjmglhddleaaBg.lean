/- DERIVED. THE EVALUATOR, THE READER, THE SCANNER: lemmas for Lossless. -/
import Derived.Test.YtoppjmglhddleaaBf
set_option linter.unusedVariables false
set_option linter.unusedSimpArgs false
section
namespace Go.AI.Rd
def cl : Proc → Nat × List AV × List AV
 | .takeP => (Take.n, [.rdr 0], [])
 | .X1 h => (X1.n, [], [.cbox (.rdr 0), .cbox (.bool h)])
 | .unary1 h => (unary1.n, [], [.cbox (.rdr 0), .cbox (.bool h)])
 | .flat => (flat.n, [.rdr 0], [])
 | .values => (values.n, [.rdr 0], [])
 | .form => (form.n, [.rdr 0], [])
 | .field => (field.n, [.rdr 0], [])
 | .element => (element.n, [.rdr 0], [])
 | .value1 => (value1.n, [], [.cbox (.rdr 0)])
 | .Sig1 => (Sig1.n, [], [.cbox (.rdr 0)])
 | .Params1 => (Params1.n, [], [.cbox (.rdr 0)])
 | .entry1 => (entry1.n, [], [.cbox (.rdr 0)])
 | .List1 h => (List1.n, [], [.cbox (.rdr 0), .cbox (.bool h)])
 | .TParams1 => (TParams1.n, [], [.cbox (.rdr 0)])
 | .TParams11 => (TParams11.n, [], [.cbox (.rdr 0)])
 | _ => (0, [], [])
def isC : Proc → Bool
 | .takeP => true
 | .X1 _ => true
 | .unary1 _ => true
 | .flat => true
 | .values => true
 | .form => true
 | .field => true
 | .element => true
 | .value1 => true
 | .Sig1 => true
 | .Params1 => true
 | .entry1 => true
 | .List1 _ => true
 | .TParams1 => true
 | .TParams11 => true
 | _ => false
def argsOf : Proc → Nat × List AV
 | .deeper pr => (deeper.n, [.rdr 0, .clos (cl pr).1 (cl pr).2.1 (cl pr).2.2])
 | .node k pr => (node.n, [.rdr 0, .int k, .clos (cl pr).1 (cl pr).2.1 (cl pr).2.2])
 | .items pr => (items.n, [.rdr 0, .clos (cl pr).1 (cl pr).2.1 (cl pr).2.2])
 | .takeP => (Take.n, [.rdr 0])
 | .X h => (X.n, [.rdr 0, .bool h])
 | .X1 h => (X1.n, [.cbox (.rdr 0), .cbox (.bool h)])
 | .binary q h => (binary.n, [.rdr 0, .int q, .bool h])
 | .unary h => (unary.n, [.rdr 0, .bool h])
 | .unary1 h => (unary1.n, [.cbox (.rdr 0), .cbox (.bool h)])
 | .primary h => (primary.n, [.rdr 0, .bool h])
 | .period => (period.n, [.rdr 0])
 | .index => (index.n, [.rdr 0])
 | .unless ks => (unless_.n, [.rdr 0, .sl .int ks])
 | .arguments => (arguments.n, [.rdr 0])
 | .value => (value.n, [.rdr 0])
 | .value1 => (value1.n, [.cbox (.rdr 0)])
 | .values => (values.n, [.rdr 0])
 | .operand => (operand.n, [.rdr 0])
 | .flat => (flat.n, [.rdr 0])
 | .Name => (Name.n, [.rdr 0])
 | .Type => (Type_.n, [.rdr 0])
 | .form => (form.n, [.rdr 0])
 | .elements => (elements.n, [.rdr 0])
 | .qualified => (qualified.n, [.rdr 0])
 | .field => (field.n, [.rdr 0])
 | .element => (element.n, [.rdr 0])
 | .union => (union.n, [.rdr 0])
 | .Sig => (Sig.n, [.rdr 0])
 | .Sig1 => (Sig1.n, [.cbox (.rdr 0)])
 | .Params => (Params.n, [.rdr 0])
 | .Params1 => (Params1.n, [.cbox (.rdr 0)])
 | .entry => (entry.n, [.rdr 0])
 | .entry1 => (entry1.n, [.cbox (.rdr 0)])
 | .List h => (List_.n, [.rdr 0, .bool h])
 | .List1 h => (List1.n, [.cbox (.rdr 0), .cbox (.bool h)])
 | .TParams => (TParams.n, [.rdr 0])
 | .TParams1 => (TParams1.n, [.cbox (.rdr 0)])
 | .TParams11 => (TParams11.n, [.cbox (.rdr 0)])
 | _ => (0, [])
def fnP : Proc → Bool
 | .deeper pr => isC pr && fnP pr
 | .node _ pr => isC pr && fnP pr
 | .items pr => isC pr && fnP pr
 | .takeP | .X _ | .X1 _ | .binary _ _ | .unary _ | .unary1 _ | .primary _ | .period | .index | .arguments | .value | .value1 | .values | .operand | .flat | .Name | .Type | .form | .elements | .qualified | .field | .element | .union | .Sig | .Sig1 | .Params | .Params1 | .entry | .entry1 => true
 | .unless ks => decide (ks.length < 1099511627776)
 | .List _ | .List1 _ => true
 | .TParams | .TParams1 | .TParams11 => true
 | _ => false
def resE : Proc → A → Int → A → AV
 | .period, _ => fun r _ => .int r
 | .index, _ => fun r _ => .int r
 | .indexL, _ => fun r _ => .int r
 | .elements, _ => fun r _ => .int r
 | .unless _, _ => fun r _ => .bool (decide (r ≠ 0))
 | .union, _ => fun r _ => .bool (decide (r ≠ 0))
 | .unionL _, _ => fun r _ => .bool (decide (r ≠ 0))
 | .entry, a => fun r b => .agg [.int a.row.length, .int b.row.length, .bool (decide (r ≠ 0))]
 | _, _ => fun _ _ => .undef
noncomputable def loopOf : Proc → List Int → Nat → Nat → A → Option (AV × PS)
 | .itemsL pr, _, lim, n0, a => items.l0 W lim n0 (cl pr).1 (cl pr).2.1 (cl pr).2.2 (toP a)
 | .binaryL q h, ms, lim, n0, a => binary.l0 W lim n0 q h (ms.getD 0 0) (precF (a.kinds.getD 0 0)) (toP a)
 | .primaryL h, ms, lim, n0, a => primary.l0 W lim n0 h (ms.getD 0 0) (toP a)
 | .indexL, _, lim, n0, a => index.l0 W lim n0 (toP a)
 | .argsL, _, lim, n0, a => arguments.l0 W lim n0 (toP a)
 | .valuesL, _, lim, n0, a => values.l0 W lim n0 (toP a)
 | .flatL k, _, lim, n0, a => flat.l0 W lim n0 k (toP a)
 | .formL, ms, lim, n0, a => form.l1 W lim n0 (ms.getD 0 0) (toP a)
 | .fieldL, ms, lim, n0, a => field.l1 W lim n0 (ms.getD 0 0) (toP a)
 | .unionL more, _, lim, n0, a => union.l0 W lim n0 more (toP a)
 | .ParamsL ns, ms, lim, n0, a => Params1.l0 W lim n0 (entsOf ms ns) (ns.any id) (toP a)
 | .ListL h, _, lim, n0, a => List1.l0 W lim n0 h (toP a)
 | .TParamsL more, _, lim, n0, a => TParams1.l0 W lim n0 more (toP a)
 | .TParams11L, _, lim, n0, a => TParams11.l0 W lim n0 (toP a)
 | _, _, _, _, _ => none
def lpP : Proc → Bool
 | .itemsL pr => isC pr && fnP pr
 | .binaryL _ _ | .primaryL _ | .indexL | .argsL | .valuesL | .flatL _ | .formL | .fieldL | .unionL _ | .ParamsL _ => true
 | .ListL _ => true
 | .TParamsL _ | .TParams11L => true
 | _ => false
def msok (ms : List Int) : Prop := ∀ m ∈ ms, 0 ≤ m ∧ m < 4294967296
def Pre : Proc → List Int → A → Prop
 | .flatL k, _, a => k.natAbs + a.rest.length < 2199023255552
 | .valuesL, ms, _ => ms = []
 | .unionL _, ms, _ => ms = []
 | .TParams11L, ms, _ => ms = []
 | .ParamsL ns, ms, _ => ms.length = 2 * ns.length ∧ ns.length < 4294967290 ∧ msok ms
 | _, _, _ => True
def IH (n : Nat) : Prop :=
 (∀ pr a, fnP pr = true → a.good → Rf (callN n pr a []) (W .prog (argsOf pr).1 (argsOf pr).2 (toP a)) (resE pr a)) ∧
 (∀ pr a ms lim n0, lpP pr = true → Pre pr ms a → a.good → n ≤ n0 → Rf (callN n pr a ms) (loopOf pr ms lim n0 a) (resE pr a))
section
variable {n : Nat} {a : A} {ms : List Int}
theorem Rf.callF {pr : Proc} {k : Int → M} {f : Nat} {args : List AV} {K : Unit → PS → Option (AV × PS)} {e : Int → A → AV} (ih : IH n) (hg : a.good) (hp : fnP pr = true) (ha : argsOf pr = (f, args))
  (h : ∀ r b, b.good → b.rest.length ≤ a.rest.length → Rf (runM (callN n) (k r) b ms) (K () (toP b)) e) : Rf (runM (callN n) (.call pr [] k) a ms) (cX W .u .prog f args (toP a) K) e :=
 Rf.callU hg (by have := ih.1 pr a hp hg; rw [ha] at this; exact this) h
theorem Rf.callFI {pr : Proc} {k : Int → M} {f : Nat} {args : List AV} {K : Int → PS → Option (AV × PS)} {e : Int → A → AV} (ih : IH n) (hg : a.good) (hp : fnP pr = true) (ha : argsOf pr = (f, args)) (he : resE pr a = fun r _ => .int r)
  (h : ∀ r b, b.good → b.rest.length ≤ a.rest.length → Rf (runM (callN n) (k r) b ms) (K r (toP b)) e) : Rf (runM (callN n) (.call pr [] k) a ms) (cX W .i .prog f args (toP a) K) e :=
 Rf.callI hg (by have := ih.1 pr a hp hg; rw [ha, he] at this; exact this) h
theorem Rf.callFB {pr : Proc} {k : Int → M} {f : Nat} {args : List AV} {K : Bool → PS → Option (AV × PS)} {e : Int → A → AV} (ih : IH n) (hg : a.good) (hp : fnP pr = true) (ha : argsOf pr = (f, args)) (he : resE pr a = fun r _ => .bool (decide (r ≠ 0)))
  (h : ∀ r b, b.good → b.rest.length ≤ a.rest.length → Rf (runM (callN n) (k r) b ms) (K (decide (r ≠ 0)) (toP b)) e) : Rf (runM (callN n) (.call pr [] k) a ms) (cX W .b .prog f args (toP a) K) e :=
 Rf.callB hg (by have := ih.1 pr a hp hg; rw [ha, he] at this; exact this) h
theorem Rf.tailL {pr : Proc} {hs : List Nat} {y : Option (AV × PS)} {e : Int → A → AV} (ih : IH n) (lim n0 : Nat) (hg : a.good) (hp : lpP pr = true) (hpre : Pre pr (hs.map fun h => ms.getD h 0) a) (hn : n ≤ n0) (hy : loopOf pr (hs.map fun h => ms.getD h 0) lim n0 a = y) (he : resE pr a = e) : Rf (runM (callN n) (.call pr hs .ret) a ms) y e := by
 subst hy; subst he
 exact Rf.tail (ih.2 _ _ _ _ _ hp hpre hg hn)
theorem ihC (ih : IH n) {pr : Proc} (hc : isC pr = true) (hf : fnP pr = true) (hg : a.good) : Rf (callN n pr a []) (W .prog (cl pr).1 ((cl pr).2.1 ++ ([] ++ (cl pr).2.2)) (toP a)) (resE pr a) := by
 have := ih.1 pr a hf hg
 cases pr <;> first | exact this | (cases hc)
theorem Rf.any {x : Option (Int × A)} {y : Option (AV × PS)} {e f : Int → A → AV} (h : Rf x y e) (he : e = f) : Rf x y f := he ▸ h
theorem r_deeper (ih : IH n) {pr : Proc} (hc : isC pr = true) (hf : fnP pr = true) (hg : a.good) : Rf (runM (callN n) (body (.deeper pr)) a ms) (W .prog deeper.n [.rdr 0, .clos (cl pr).1 (cl pr).2.1 (cl pr).2.2] (toP a)) (fun _ _ => .undef) := by
 refine Rf.fix deeper.fd n ?_
 rw [deeper_eq]
 refine Rf.down hg fun b c hb => ?_
 cases c with
 | true =>
  (try simp only [qn, reduceIte, Int.reduceEq, if_true, if_false])
  refine Rf.callU hb (ihC ih hc hf hb) fun r d hd hl => ?_
  repeat' ((try simp only [qn, reduceIte, Int.reduceEq, if_true, if_false]); first | exact Rf.ret rfl | refine Rf.mark ?_ | refine Rf.kind ‹_› (fun x hx => ?_) | refine Rf.take ‹_› (fun b hb hbt => ?_) | refine Rf.expect (by decide) ‹_› (fun b hb => ?_) (fun b hb => ?_) | refine Rf.taken (by decide) ‹_› (fun b hc hb hbt => ?_) (fun hc => ?_) | refine Rf.comes (by decide) ‹_› (fun hc => ?_) (fun hc => ?_) | refine Rf.prec ?_ | refine Rf.close (by rfl) ‹_› (fun b hb => ?_) | refine Rf.dead (fun hd => ?_) (fun hd => ?_) | refine Rf.fail ‹_› (fun b hb => ?_) | refine Rf.none_ ‹_› (fun b hb => ?_) | refine Rf.up ‹_› (fun b hb => ?_) | refine Rf.callU ‹_› (ih.1 _ _ (by first | rfl | assumption) ‹_›) (fun r b hb hbl => ?_) | refine Rf.callI ‹_› (ih.1 _ _ (by rfl) ‹_›) (fun r b hb hbl => ?_) | refine Rf.callB ‹_› (ih.1 _ _ (by rfl) ‹_›) (fun r b hb hbl => ?_) | exact Rf.tail (ih.2 _ _ _ _ _ (by first | rfl | assumption) (by trivial) ‹_› (by first | assumption | omega)) | (refine Rf.ite (fun hc => ?_) (fun hc => ?_) <;> (try simp only [decide_eq_true_eq, gt_iff_lt, ge_iff_le, Bool.not_eq_true', decide_eq_false_iff_not, Bool.not_eq_true, ne_eq, Decidable.not_not] at hc) <;> first | exact absurd trivial hc | subst hc | simp only [hc, ne_eq, qm, decide_true, decide_false, Bool.not_true, Bool.not_false, Bool.false_eq_true, if_true, if_false, reduceIte] | skip) | refine Rf.lit (by rfl) (live_of_kind ‹_› (by decide)) ‹_› (fun c => ?_))
 | false => repeat' ((try simp only [qn, reduceIte, Int.reduceEq, if_true, if_false]); first | exact Rf.ret rfl | refine Rf.mark ?_ | refine Rf.kind ‹_› (fun x hx => ?_) | refine Rf.take ‹_› (fun b hb hbt => ?_) | refine Rf.expect (by decide) ‹_› (fun b hb => ?_) (fun b hb => ?_) | refine Rf.taken (by decide) ‹_› (fun b hc hb hbt => ?_) (fun hc => ?_) | refine Rf.comes (by decide) ‹_› (fun hc => ?_) (fun hc => ?_) | refine Rf.prec ?_ | refine Rf.close (by rfl) ‹_› (fun b hb => ?_) | refine Rf.dead (fun hd => ?_) (fun hd => ?_) | refine Rf.fail ‹_› (fun b hb => ?_) | refine Rf.none_ ‹_› (fun b hb => ?_) | refine Rf.up ‹_› (fun b hb => ?_) | refine Rf.callU ‹_› (ih.1 _ _ (by first | rfl | assumption) ‹_›) (fun r b hb hbl => ?_) | refine Rf.callI ‹_› (ih.1 _ _ (by rfl) ‹_›) (fun r b hb hbl => ?_) | refine Rf.callB ‹_› (ih.1 _ _ (by rfl) ‹_›) (fun r b hb hbl => ?_) | exact Rf.tail (ih.2 _ _ _ _ _ (by first | rfl | assumption) (by trivial) ‹_› (by first | assumption | omega)) | (refine Rf.ite (fun hc => ?_) (fun hc => ?_) <;> (try simp only [decide_eq_true_eq, gt_iff_lt, ge_iff_le, Bool.not_eq_true', decide_eq_false_iff_not, Bool.not_eq_true, ne_eq, Decidable.not_not] at hc) <;> first | exact absurd trivial hc | subst hc | simp only [hc, ne_eq, qm, decide_true, decide_false, Bool.not_true, Bool.not_false, Bool.false_eq_true, if_true, if_false, reduceIte] | skip) | refine Rf.lit (by rfl) (live_of_kind ‹_› (by decide)) ‹_› (fun c => ?_))
theorem r_node (ih : IH n) {k : Int} {pr : Proc} (hc : isC pr = true) (hf : fnP pr = true) (hg : a.good) : Rf (runM (callN n) (body (.node k pr)) a []) (W .prog node.n [.rdr 0, .int k, .clos (cl pr).1 (cl pr).2.1 (cl pr).2.2] (toP a)) (fun _ _ => .undef) := by
 refine Rf.fix node.fd n ?_
 rw [node_eq]
 refine Rf.mark ?_
 refine Rf.callU hg (ihC ih hc hf hg) fun r d hd hl => ?_
 repeat' ((try simp only [qn, reduceIte, Int.reduceEq, if_true, if_false]); first | exact Rf.ret rfl | refine Rf.mark ?_ | refine Rf.kind ‹_› (fun x hx => ?_) | refine Rf.take ‹_› (fun b hb hbt => ?_) | refine Rf.expect (by decide) ‹_› (fun b hb => ?_) (fun b hb => ?_) | refine Rf.taken (by decide) ‹_› (fun b hc hb hbt => ?_) (fun hc => ?_) | refine Rf.comes (by decide) ‹_› (fun hc => ?_) (fun hc => ?_) | refine Rf.prec ?_ | refine Rf.close (by rfl) ‹_› (fun b hb => ?_) | refine Rf.dead (fun hd => ?_) (fun hd => ?_) | refine Rf.fail ‹_› (fun b hb => ?_) | refine Rf.none_ ‹_› (fun b hb => ?_) | refine Rf.up ‹_› (fun b hb => ?_) | refine Rf.callU ‹_› (ih.1 _ _ (by first | rfl | assumption) ‹_›) (fun r b hb hbl => ?_) | refine Rf.callI ‹_› (ih.1 _ _ (by rfl) ‹_›) (fun r b hb hbl => ?_) | refine Rf.callB ‹_› (ih.1 _ _ (by rfl) ‹_›) (fun r b hb hbl => ?_) | exact Rf.tail (ih.2 _ _ _ _ _ (by first | rfl | assumption) (by trivial) ‹_› (by first | assumption | omega)) | (refine Rf.ite (fun hc => ?_) (fun hc => ?_) <;> (try simp only [decide_eq_true_eq, gt_iff_lt, ge_iff_le, Bool.not_eq_true', decide_eq_false_iff_not, Bool.not_eq_true, ne_eq, Decidable.not_not] at hc) <;> first | exact absurd trivial hc | subst hc | simp only [hc, ne_eq, qm, decide_true, decide_false, Bool.not_true, Bool.not_false, Bool.false_eq_true, if_true, if_false, reduceIte] | skip) | refine Rf.lit (by rfl) (live_of_kind ‹_› (by decide)) ‹_› (fun c => ?_))
theorem r_items (ih : IH n) {pr : Proc} (hc : lpP (.itemsL pr) = true) (hg : a.good) : Rf (runM (callN n) (body (.items pr)) a ms) (W .prog items.n [.rdr 0, .clos (cl pr).1 (cl pr).2.1 (cl pr).2.2] (toP a)) (fun _ _ => .undef) := by
 refine Rf.fix items.fd n ?_
 rw [items_eq]
 repeat' ((try simp only [qn, reduceIte, Int.reduceEq, if_true, if_false]); first | exact Rf.ret rfl | refine Rf.mark ?_ | refine Rf.kind ‹_› (fun x hx => ?_) | refine Rf.take ‹_› (fun b hb hbt => ?_) | refine Rf.expect (by decide) ‹_› (fun b hb => ?_) (fun b hb => ?_) | refine Rf.taken (by decide) ‹_› (fun b hc hb hbt => ?_) (fun hc => ?_) | refine Rf.comes (by decide) ‹_› (fun hc => ?_) (fun hc => ?_) | refine Rf.prec ?_ | refine Rf.close (by rfl) ‹_› (fun b hb => ?_) | refine Rf.dead (fun hd => ?_) (fun hd => ?_) | refine Rf.fail ‹_› (fun b hb => ?_) | refine Rf.none_ ‹_› (fun b hb => ?_) | refine Rf.up ‹_› (fun b hb => ?_) | refine Rf.callU ‹_› (ih.1 _ _ (by first | rfl | assumption) ‹_›) (fun r b hb hbl => ?_) | refine Rf.callI ‹_› (ih.1 _ _ (by rfl) ‹_›) (fun r b hb hbl => ?_) | refine Rf.callB ‹_› (ih.1 _ _ (by rfl) ‹_›) (fun r b hb hbl => ?_) | exact Rf.tail (ih.2 _ _ _ _ _ (by first | rfl | assumption) (by trivial) ‹_› (by first | assumption | omega)) | (refine Rf.ite (fun hc => ?_) (fun hc => ?_) <;> (try simp only [decide_eq_true_eq, gt_iff_lt, ge_iff_le, Bool.not_eq_true', decide_eq_false_iff_not, Bool.not_eq_true, ne_eq, Decidable.not_not] at hc) <;> first | exact absurd trivial hc | subst hc | simp only [hc, ne_eq, qm, decide_true, decide_false, Bool.not_true, Bool.not_false, Bool.false_eq_true, if_true, if_false, reduceIte] | skip) | refine Rf.lit (by rfl) (live_of_kind ‹_› (by decide)) ‹_› (fun c => ?_))
theorem r_itemsL (ih : IH n) {pr : Proc} (hp : lpP (.itemsL pr) = true) (hc : isC pr = true) (hf : fnP pr = true) (hg : a.good) (lim n0 : Nat) (hn : n ≤ n0) : Rf (runM (callN n) (body (.itemsL pr)) a ms) (items.l0 W lim (n0 + 1) (cl pr).1 (cl pr).2.1 (cl pr).2.2 (toP a)) (fun _ _ => .undef) := by
 rw [items.l0_succ]
 refine Rf.dead (fun hd => ?_) (fun hd => ?_)
 ·(try simp only [qn, reduceIte, Int.reduceEq, if_true, if_false])
  refine Rf.comes (by decide) hg (fun hc => ?_) (fun hcc => ?_)
  ·(try simp only [qn, reduceIte, Int.reduceEq, if_true, if_false])
   repeat' ((try simp only [qn, reduceIte, Int.reduceEq, if_true, if_false]); first | exact Rf.ret rfl | refine Rf.mark ?_ | refine Rf.kind ‹_› (fun x hx => ?_) | refine Rf.take ‹_› (fun b hb hbt => ?_) | refine Rf.expect (by decide) ‹_› (fun b hb => ?_) (fun b hb => ?_) | refine Rf.taken (by decide) ‹_› (fun b hc hb hbt => ?_) (fun hc => ?_) | refine Rf.comes (by decide) ‹_› (fun hc => ?_) (fun hc => ?_) | refine Rf.prec ?_ | refine Rf.close (by rfl) ‹_› (fun b hb => ?_) | refine Rf.dead (fun hd => ?_) (fun hd => ?_) | refine Rf.fail ‹_› (fun b hb => ?_) | refine Rf.none_ ‹_› (fun b hb => ?_) | refine Rf.up ‹_› (fun b hb => ?_) | refine Rf.callU ‹_› (ih.1 _ _ (by first | rfl | assumption) ‹_›) (fun r b hb hbl => ?_) | refine Rf.callI ‹_› (ih.1 _ _ (by rfl) ‹_›) (fun r b hb hbl => ?_) | refine Rf.callB ‹_› (ih.1 _ _ (by rfl) ‹_›) (fun r b hb hbl => ?_) | exact Rf.tail (ih.2 _ _ _ _ _ (by first | rfl | assumption) (by trivial) ‹_› (by first | assumption | omega)) | (refine Rf.ite (fun hc => ?_) (fun hc => ?_) <;> (try simp only [decide_eq_true_eq, gt_iff_lt, ge_iff_le, Bool.not_eq_true', decide_eq_false_iff_not, Bool.not_eq_true, ne_eq, Decidable.not_not] at hc) <;> first | exact absurd trivial hc | subst hc | simp only [hc, ne_eq, qm, decide_true, decide_false, Bool.not_true, Bool.not_false, Bool.false_eq_true, if_true, if_false, reduceIte] | skip) | refine Rf.lit (by rfl) (live_of_kind ‹_› (by decide)) ‹_› (fun c => ?_))
  ·(try simp only [qn, reduceIte, Int.reduceEq, if_true, if_false])
   refine Rf.callU hg (ihC ih hc hf hg) fun r d hd hl => ?_
   repeat' ((try simp only [qn, reduceIte, Int.reduceEq, if_true, if_false]); first | exact Rf.ret rfl | refine Rf.mark ?_ | refine Rf.kind ‹_› (fun x hx => ?_) | refine Rf.take ‹_› (fun b hb hbt => ?_) | refine Rf.expect (by decide) ‹_› (fun b hb => ?_) (fun b hb => ?_) | refine Rf.taken (by decide) ‹_› (fun b hc hb hbt => ?_) (fun hc => ?_) | refine Rf.comes (by decide) ‹_› (fun hc => ?_) (fun hc => ?_) | refine Rf.prec ?_ | refine Rf.close (by rfl) ‹_› (fun b hb => ?_) | refine Rf.dead (fun hd => ?_) (fun hd => ?_) | refine Rf.fail ‹_› (fun b hb => ?_) | refine Rf.none_ ‹_› (fun b hb => ?_) | refine Rf.up ‹_› (fun b hb => ?_) | refine Rf.callU ‹_› (ih.1 _ _ (by first | rfl | assumption) ‹_›) (fun r b hb hbl => ?_) | refine Rf.callI ‹_› (ih.1 _ _ (by rfl) ‹_›) (fun r b hb hbl => ?_) | refine Rf.callB ‹_› (ih.1 _ _ (by rfl) ‹_›) (fun r b hb hbl => ?_) | exact Rf.tail (ih.2 _ _ _ _ _ (by first | rfl | assumption) (by trivial) ‹_› (by first | assumption | omega)) | (refine Rf.ite (fun hc => ?_) (fun hc => ?_) <;> (try simp only [decide_eq_true_eq, gt_iff_lt, ge_iff_le, Bool.not_eq_true', decide_eq_false_iff_not, Bool.not_eq_true, ne_eq, Decidable.not_not] at hc) <;> first | exact absurd trivial hc | subst hc | simp only [hc, ne_eq, qm, decide_true, decide_false, Bool.not_true, Bool.not_false, Bool.false_eq_true, if_true, if_false, reduceIte] | skip) | refine Rf.lit (by rfl) (live_of_kind ‹_› (by decide)) ‹_› (fun c => ?_))
 ·repeat' ((try simp only [qn, reduceIte, Int.reduceEq, if_true, if_false]); first | exact Rf.ret rfl | refine Rf.mark ?_ | refine Rf.kind ‹_› (fun x hx => ?_) | refine Rf.take ‹_› (fun b hb hbt => ?_) | refine Rf.expect (by decide) ‹_› (fun b hb => ?_) (fun b hb => ?_) | refine Rf.taken (by decide) ‹_› (fun b hc hb hbt => ?_) (fun hc => ?_) | refine Rf.comes (by decide) ‹_› (fun hc => ?_) (fun hc => ?_) | refine Rf.prec ?_ | refine Rf.close (by rfl) ‹_› (fun b hb => ?_) | refine Rf.dead (fun hd => ?_) (fun hd => ?_) | refine Rf.fail ‹_› (fun b hb => ?_) | refine Rf.none_ ‹_› (fun b hb => ?_) | refine Rf.up ‹_› (fun b hb => ?_) | refine Rf.callU ‹_› (ih.1 _ _ (by first | rfl | assumption) ‹_›) (fun r b hb hbl => ?_) | refine Rf.callI ‹_› (ih.1 _ _ (by rfl) ‹_›) (fun r b hb hbl => ?_) | refine Rf.callB ‹_› (ih.1 _ _ (by rfl) ‹_›) (fun r b hb hbl => ?_) | exact Rf.tail (ih.2 _ _ _ _ _ (by first | rfl | assumption) (by trivial) ‹_› (by first | assumption | omega)) | (refine Rf.ite (fun hc => ?_) (fun hc => ?_) <;> (try simp only [decide_eq_true_eq, gt_iff_lt, ge_iff_le, Bool.not_eq_true', decide_eq_false_iff_not, Bool.not_eq_true, ne_eq, Decidable.not_not] at hc) <;> first | exact absurd trivial hc | subst hc | simp only [hc, ne_eq, qm, decide_true, decide_false, Bool.not_true, Bool.not_false, Bool.false_eq_true, if_true, if_false, reduceIte] | skip) | refine Rf.lit (by rfl) (live_of_kind ‹_› (by decide)) ‹_› (fun c => ?_))
theorem r_takeP (ih : IH n) (hg : a.good) : Rf (runM (callN n) (body .takeP) a ms) (W .prog Take.n [.rdr 0] (toP a)) (fun _ _ => .undef) := by
 intro r b hx
 simp only [body, done, runM] at hx
 split at hx
 ·rename_i hr
  simp only [Option.some.injEq, Prod.mk.injEq] at hx
  obtain ⟨_, rfl⟩ := hx
  exact W_Take hg.took hr
 ·cases hx
theorem r_binary (ih : IH n) (q : Int) (head : Bool) (hg : a.good) : Rf (runM (callN n) (body (.binary q head)) a []) (W .prog (argsOf (.binary q head)).1 (argsOf (.binary q head)).2 (toP a)) (resE (.binary q head) a) := by
 refine Rf.fix binary.fd n ?_
 simp only [argsOf, body]
 rw [binary_eq]
 refine Rf.mark ?_
 refine Rf.callU hg (ih.1 _ _ (by rfl) hg) fun r b hb hbl => ?_
 refine Rf.kindT hb (Rf.prec ?_)
 repeat' ((try simp only [qn, reduceIte, Int.reduceEq, if_true, if_false]); first | exact Rf.ret rfl | refine Rf.mark ?_ | refine Rf.kind ‹_› (fun x hx => ?_) | refine Rf.take ‹_› (fun b hb hbt => ?_) | refine Rf.expect (by decide) ‹_› (fun b hb => ?_) (fun b hb => ?_) | refine Rf.taken (by decide) ‹_› (fun b hc hb hbt => ?_) (fun hc => ?_) | refine Rf.comes (by decide) ‹_› (fun hc => ?_) (fun hc => ?_) | refine Rf.prec ?_ | refine Rf.close (by rfl) ‹_› (fun b hb => ?_) | refine Rf.dead (fun hd => ?_) (fun hd => ?_) | refine Rf.fail ‹_› (fun b hb => ?_) | refine Rf.none_ ‹_› (fun b hb => ?_) | refine Rf.up ‹_› (fun b hb => ?_) | refine Rf.callU ‹_› (ih.1 _ _ (by first | rfl | assumption) ‹_›) (fun r b hb hbl => ?_) | refine Rf.callI ‹_› (ih.1 _ _ (by rfl) ‹_›) (fun r b hb hbl => ?_) | refine Rf.callB ‹_› (ih.1 _ _ (by rfl) ‹_›) (fun r b hb hbl => ?_) | exact Rf.tail (ih.2 _ _ _ _ _ (by first | rfl | assumption) (by trivial) ‹_› (by first | assumption | omega)) | (refine Rf.ite (fun hc => ?_) (fun hc => ?_) <;> (try simp only [decide_eq_true_eq, gt_iff_lt, ge_iff_le, Bool.not_eq_true', decide_eq_false_iff_not, Bool.not_eq_true, ne_eq, Decidable.not_not] at hc) <;> first | exact absurd trivial hc | subst hc | simp only [hc, ne_eq, qm, decide_true, decide_false, Bool.not_true, Bool.not_false, Bool.false_eq_true, if_true, if_false, reduceIte] | skip) | refine Rf.lit (by rfl) (live_of_kind ‹_› (by decide)) ‹_› (fun c => ?_))
theorem r_binaryL (ih : IH n) (q : Int) (head : Bool) (hg : a.good) (ms : List Int) (lim n0 : Nat) (hn : n ≤ n0) : Rf (runM (callN n) (body (.binaryL q head)) a ms) (loopOf (.binaryL q head) ms lim (n0 + 1) a) (resE (.binaryL q head) a) := by
 simp only [loopOf, body]
 rw [binary.l0_succ]
 have hp := precF_le (a.kinds.getD 0 0)
 show Rf (runM (callN n) (if 0 < precF (a.kinds.getD 0 0) then (if q ≤ precF (a.kinds.getD 0 0) then .take (go (.binary (precF (a.kinds.getD 0 0) + 1) head) (.close 0 206 (.call (.binaryL q head) [0] .ret))) else done) else done) a ms) _ _
 refine Rf.ite (fun hc => ?_) (fun hc => ?_) <;> simp only [decide_eq_true_eq, gt_iff_lt] at hc
 ·rw [if_pos hc]
  refine Rf.ite (fun hc => ?_) (fun hc => ?_) <;> simp only [decide_eq_true_eq, ge_iff_le] at hc
  ·rw [if_pos hc, wi _ (by omega) (by omega)]
   refine Rf.take hg fun b hb hbt => ?_
   refine Rf.callU hb (ih.1 _ _ (by rfl) hb) fun r c hc hcl => ?_
   refine Rf.close rfl hc fun d hd => ?_
   refine Rf.kindT hd (Rf.prec ?_)
   repeat' ((try simp only [qn, reduceIte, Int.reduceEq, if_true, if_false]); first | exact Rf.ret rfl | refine Rf.mark ?_ | refine Rf.kind ‹_› (fun x hx => ?_) | refine Rf.take ‹_› (fun b hb hbt => ?_) | refine Rf.expect (by decide) ‹_› (fun b hb => ?_) (fun b hb => ?_) | refine Rf.taken (by decide) ‹_› (fun b hc hb hbt => ?_) (fun hc => ?_) | refine Rf.comes (by decide) ‹_› (fun hc => ?_) (fun hc => ?_) | refine Rf.prec ?_ | refine Rf.close (by rfl) ‹_› (fun b hb => ?_) | refine Rf.dead (fun hd => ?_) (fun hd => ?_) | refine Rf.fail ‹_› (fun b hb => ?_) | refine Rf.none_ ‹_› (fun b hb => ?_) | refine Rf.up ‹_› (fun b hb => ?_) | refine Rf.callU ‹_› (ih.1 _ _ (by first | rfl | assumption) ‹_›) (fun r b hb hbl => ?_) | refine Rf.callI ‹_› (ih.1 _ _ (by rfl) ‹_›) (fun r b hb hbl => ?_) | refine Rf.callB ‹_› (ih.1 _ _ (by rfl) ‹_›) (fun r b hb hbl => ?_) | exact Rf.tail (ih.2 _ _ _ _ _ (by first | rfl | assumption) (by trivial) ‹_› (by first | assumption | omega)) | (refine Rf.ite (fun hc => ?_) (fun hc => ?_) <;> (try simp only [decide_eq_true_eq, gt_iff_lt, ge_iff_le, Bool.not_eq_true', decide_eq_false_iff_not, Bool.not_eq_true, ne_eq, Decidable.not_not] at hc) <;> first | exact absurd trivial hc | subst hc | simp only [hc, ne_eq, qm, decide_true, decide_false, Bool.not_true, Bool.not_false, Bool.false_eq_true, if_true, if_false, reduceIte] | skip) | refine Rf.lit (by rfl) (live_of_kind ‹_› (by decide)) ‹_› (fun c => ?_))
  ·rw [if_neg hc]; repeat' ((try simp only [qn, reduceIte, Int.reduceEq, if_true, if_false]); first | exact Rf.ret rfl | refine Rf.mark ?_ | refine Rf.kind ‹_› (fun x hx => ?_) | refine Rf.take ‹_› (fun b hb hbt => ?_) | refine Rf.expect (by decide) ‹_› (fun b hb => ?_) (fun b hb => ?_) | refine Rf.taken (by decide) ‹_› (fun b hc hb hbt => ?_) (fun hc => ?_) | refine Rf.comes (by decide) ‹_› (fun hc => ?_) (fun hc => ?_) | refine Rf.prec ?_ | refine Rf.close (by rfl) ‹_› (fun b hb => ?_) | refine Rf.dead (fun hd => ?_) (fun hd => ?_) | refine Rf.fail ‹_› (fun b hb => ?_) | refine Rf.none_ ‹_› (fun b hb => ?_) | refine Rf.up ‹_› (fun b hb => ?_) | refine Rf.callU ‹_› (ih.1 _ _ (by first | rfl | assumption) ‹_›) (fun r b hb hbl => ?_) | refine Rf.callI ‹_› (ih.1 _ _ (by rfl) ‹_›) (fun r b hb hbl => ?_) | refine Rf.callB ‹_› (ih.1 _ _ (by rfl) ‹_›) (fun r b hb hbl => ?_) | exact Rf.tail (ih.2 _ _ _ _ _ (by first | rfl | assumption) (by trivial) ‹_› (by first | assumption | omega)) | (refine Rf.ite (fun hc => ?_) (fun hc => ?_) <;> (try simp only [decide_eq_true_eq, gt_iff_lt, ge_iff_le, Bool.not_eq_true', decide_eq_false_iff_not, Bool.not_eq_true, ne_eq, Decidable.not_not] at hc) <;> first | exact absurd trivial hc | subst hc | simp only [hc, ne_eq, qm, decide_true, decide_false, Bool.not_true, Bool.not_false, Bool.false_eq_true, if_true, if_false, reduceIte] | skip) | refine Rf.lit (by rfl) (live_of_kind ‹_› (by decide)) ‹_› (fun c => ?_))
 ·rw [if_neg hc]; repeat' ((try simp only [qn, reduceIte, Int.reduceEq, if_true, if_false]); first | exact Rf.ret rfl | refine Rf.mark ?_ | refine Rf.kind ‹_› (fun x hx => ?_) | refine Rf.take ‹_› (fun b hb hbt => ?_) | refine Rf.expect (by decide) ‹_› (fun b hb => ?_) (fun b hb => ?_) | refine Rf.taken (by decide) ‹_› (fun b hc hb hbt => ?_) (fun hc => ?_) | refine Rf.comes (by decide) ‹_› (fun hc => ?_) (fun hc => ?_) | refine Rf.prec ?_ | refine Rf.close (by rfl) ‹_› (fun b hb => ?_) | refine Rf.dead (fun hd => ?_) (fun hd => ?_) | refine Rf.fail ‹_› (fun b hb => ?_) | refine Rf.none_ ‹_› (fun b hb => ?_) | refine Rf.up ‹_› (fun b hb => ?_) | refine Rf.callU ‹_› (ih.1 _ _ (by first | rfl | assumption) ‹_›) (fun r b hb hbl => ?_) | refine Rf.callI ‹_› (ih.1 _ _ (by rfl) ‹_›) (fun r b hb hbl => ?_) | refine Rf.callB ‹_› (ih.1 _ _ (by rfl) ‹_›) (fun r b hb hbl => ?_) | exact Rf.tail (ih.2 _ _ _ _ _ (by first | rfl | assumption) (by trivial) ‹_› (by first | assumption | omega)) | (refine Rf.ite (fun hc => ?_) (fun hc => ?_) <;> (try simp only [decide_eq_true_eq, gt_iff_lt, ge_iff_le, Bool.not_eq_true', decide_eq_false_iff_not, Bool.not_eq_true, ne_eq, Decidable.not_not] at hc) <;> first | exact absurd trivial hc | subst hc | simp only [hc, ne_eq, qm, decide_true, decide_false, Bool.not_true, Bool.not_false, Bool.false_eq_true, if_true, if_false, reduceIte] | skip) | refine Rf.lit (by rfl) (live_of_kind ‹_› (by decide)) ‹_› (fun c => ?_))
set_option maxHeartbeats 4000000 in
theorem r_g0 (ih : IH n) (head : Bool) (hg : a.good) :
  (Rf (runM (callN n) (body (.X head)) a []) (W .prog (argsOf (.X head)).1 (argsOf (.X head)).2 (toP a)) (resE (.X head) a)) ∧
  (Rf (runM (callN n) (body (.X1 head)) a []) (W .prog (argsOf (.X1 head)).1 (argsOf (.X1 head)).2 (toP a)) (resE (.X1 head) a)) ∧
  (Rf (runM (callN n) (body (.unary1 head)) a []) (W .prog (argsOf (.unary1 head)).1 (argsOf (.unary1 head)).2 (toP a)) (resE (.unary1 head) a)) ∧
  (Rf (runM (callN n) (body (.primary head)) a []) (W .prog (argsOf (.primary head)).1 (argsOf (.primary head)).2 (toP a)) (resE (.primary head) a)) ∧
  (Rf (runM (callN n) (body .period) a []) (W .prog (argsOf .period).1 (argsOf .period).2 (toP a)) (resE .period a)) ∧
  (Rf (runM (callN n) (body .index) a []) (W .prog (argsOf .index).1 (argsOf .index).2 (toP a)) (resE .index a)) ∧
  (Rf (runM (callN n) (body .arguments) a []) (W .prog (argsOf .arguments).1 (argsOf .arguments).2 (toP a)) (resE .arguments a)) ∧
  (Rf (runM (callN n) (body .value) a []) (W .prog (argsOf .value).1 (argsOf .value).2 (toP a)) (resE .value a)) ∧
  (Rf (runM (callN n) (body .value1) a []) (W .prog (argsOf .value1).1 (argsOf .value1).2 (toP a)) (resE .value1 a)) ∧
  (Rf (runM (callN n) (body .values) a []) (W .prog (argsOf .values).1 (argsOf .values).2 (toP a)) (resE .values a)) := by
 refine ⟨?_, ?_, ?_, ?_, ?_, ?_, ?_, ?_, ?_, ?_⟩ <;> ((first | refine Rf.fix X.fd n ?_ | refine Rf.fix X1.fd n ?_ | refine Rf.fix unary1.fd n ?_ | refine Rf.fix primary.fd n ?_ | refine Rf.fix period.fd n ?_ | refine Rf.fix index.fd n ?_ | refine Rf.fix arguments.fd n ?_ | refine Rf.fix value.fd n ?_ | refine Rf.fix value1.fd n ?_ | refine Rf.fix values.fd n ?_); simp only [argsOf, body]; (first | rw [X_eq] | rw [X1_eq] | rw [unary1_eq] | rw [primary_eq] | rw [period_eq] | rw [index_eq] | rw [arguments_eq] | rw [value_eq] | rw [value1_eq] | rw [values_eq]); repeat' ((try simp only [qn, reduceIte, Int.reduceEq, if_true, if_false]); first | exact Rf.ret rfl | refine Rf.mark ?_ | refine Rf.kind ‹_› (fun x hx => ?_) | refine Rf.take ‹_› (fun b hb hbt => ?_) | refine Rf.expect (by decide) ‹_› (fun b hb => ?_) (fun b hb => ?_) | refine Rf.taken (by decide) ‹_› (fun b hc hb hbt => ?_) (fun hc => ?_) | refine Rf.comes (by decide) ‹_› (fun hc => ?_) (fun hc => ?_) | refine Rf.prec ?_ | refine Rf.close (by rfl) ‹_› (fun b hb => ?_) | refine Rf.dead (fun hd => ?_) (fun hd => ?_) | refine Rf.fail ‹_› (fun b hb => ?_) | refine Rf.none_ ‹_› (fun b hb => ?_) | refine Rf.up ‹_› (fun b hb => ?_) | refine Rf.callU ‹_› (ih.1 _ _ (by first | rfl | assumption) ‹_›) (fun r b hb hbl => ?_) | refine Rf.callI ‹_› (ih.1 _ _ (by rfl) ‹_›) (fun r b hb hbl => ?_) | refine Rf.callB ‹_› (ih.1 _ _ (by rfl) ‹_›) (fun r b hb hbl => ?_) | exact Rf.tail (ih.2 _ _ _ _ _ (by first | rfl | assumption) (by trivial) ‹_› (by first | assumption | omega)) | (refine Rf.ite (fun hc => ?_) (fun hc => ?_) <;> (try simp only [decide_eq_true_eq, gt_iff_lt, ge_iff_le, Bool.not_eq_true', decide_eq_false_iff_not, Bool.not_eq_true, ne_eq, Decidable.not_not] at hc) <;> first | exact absurd trivial hc | subst hc | simp only [hc, ne_eq, qm, decide_true, decide_false, Bool.not_true, Bool.not_false, Bool.false_eq_true, if_true, if_false, reduceIte] | skip) | refine Rf.lit (by rfl) (live_of_kind ‹_› (by decide)) ‹_› (fun c => ?_)))
theorem r_X (ih : IH n) (head : Bool) (hg : a.good) : Rf (runM (callN n) (body (.X head)) a []) (W .prog (argsOf (.X head)).1 (argsOf (.X head)).2 (toP a)) (resE (.X head) a) := (r_g0 ih head hg).1
theorem r_X1 (ih : IH n) (head : Bool) (hg : a.good) : Rf (runM (callN n) (body (.X1 head)) a []) (W .prog (argsOf (.X1 head)).1 (argsOf (.X1 head)).2 (toP a)) (resE (.X1 head) a) := (r_g0 ih head hg).2.1
theorem r_unary1 (ih : IH n) (head : Bool) (hg : a.good) : Rf (runM (callN n) (body (.unary1 head)) a []) (W .prog (argsOf (.unary1 head)).1 (argsOf (.unary1 head)).2 (toP a)) (resE (.unary1 head) a) := (r_g0 ih head hg).2.2.1
theorem r_primary (ih : IH n) (head : Bool) (hg : a.good) : Rf (runM (callN n) (body (.primary head)) a []) (W .prog (argsOf (.primary head)).1 (argsOf (.primary head)).2 (toP a)) (resE (.primary head) a) := (r_g0 ih head hg).2.2.2.1
theorem r_period (ih : IH n) (hg : a.good) : Rf (runM (callN n) (body .period) a []) (W .prog (argsOf .period).1 (argsOf .period).2 (toP a)) (resE .period a) := (r_g0 ih false hg).2.2.2.2.1
theorem r_index (ih : IH n) (hg : a.good) : Rf (runM (callN n) (body .index) a []) (W .prog (argsOf .index).1 (argsOf .index).2 (toP a)) (resE .index a) := (r_g0 ih false hg).2.2.2.2.2.1
theorem r_arguments (ih : IH n) (hg : a.good) : Rf (runM (callN n) (body .arguments) a []) (W .prog (argsOf .arguments).1 (argsOf .arguments).2 (toP a)) (resE .arguments a) := (r_g0 ih false hg).2.2.2.2.2.2.1
theorem r_value (ih : IH n) (hg : a.good) : Rf (runM (callN n) (body .value) a []) (W .prog (argsOf .value).1 (argsOf .value).2 (toP a)) (resE .value a) := (r_g0 ih false hg).2.2.2.2.2.2.2.1
theorem r_value1 (ih : IH n) (hg : a.good) : Rf (runM (callN n) (body .value1) a []) (W .prog (argsOf .value1).1 (argsOf .value1).2 (toP a)) (resE .value1 a) := (r_g0 ih false hg).2.2.2.2.2.2.2.2.1
theorem r_values (ih : IH n) (hg : a.good) : Rf (runM (callN n) (body .values) a []) (W .prog (argsOf .values).1 (argsOf .values).2 (toP a)) (resE .values a) := (r_g0 ih false hg).2.2.2.2.2.2.2.2.2
set_option maxHeartbeats 4000000 in
theorem r_g1 (ih : IH n) (hg : a.good) :
  (Rf (runM (callN n) (body .Name) a []) (W .prog (argsOf .Name).1 (argsOf .Name).2 (toP a)) (resE .Name a)) ∧
  (Rf (runM (callN n) (body .Type) a []) (W .prog (argsOf .Type).1 (argsOf .Type).2 (toP a)) (resE .Type a)) ∧
  (Rf (runM (callN n) (body .elements) a []) (W .prog (argsOf .elements).1 (argsOf .elements).2 (toP a)) (resE .elements a)) ∧
  (Rf (runM (callN n) (body .qualified) a []) (W .prog (argsOf .qualified).1 (argsOf .qualified).2 (toP a)) (resE .qualified a)) ∧
  (Rf (runM (callN n) (body .union) a []) (W .prog (argsOf .union).1 (argsOf .union).2 (toP a)) (resE .union a)) ∧
  (Rf (runM (callN n) (body .Sig) a []) (W .prog (argsOf .Sig).1 (argsOf .Sig).2 (toP a)) (resE .Sig a)) ∧
  (Rf (runM (callN n) (body .Sig1) a []) (W .prog (argsOf .Sig1).1 (argsOf .Sig1).2 (toP a)) (resE .Sig1 a)) ∧
  (Rf (runM (callN n) (body .Params) a []) (W .prog (argsOf .Params).1 (argsOf .Params).2 (toP a)) (resE .Params a)) ∧
  (Rf (runM (callN n) (body .entry1) a []) (W .prog (argsOf .entry1).1 (argsOf .entry1).2 (toP a)) (resE .entry1 a)) := by
 refine ⟨?_, ?_, ?_, ?_, ?_, ?_, ?_, ?_, ?_⟩ <;> ((first | refine Rf.fix Name.fd n ?_ | refine Rf.fix Type_.fd n ?_ | refine Rf.fix elements.fd n ?_ | refine Rf.fix qualified.fd n ?_ | refine Rf.fix union.fd n ?_ | refine Rf.fix Sig.fd n ?_ | refine Rf.fix Sig1.fd n ?_ | refine Rf.fix Params.fd n ?_ | refine Rf.fix entry1.fd n ?_); simp only [argsOf, body]; (first | rw [Name_eq] | rw [Type__eq] | rw [elements_eq] | rw [qualified_eq] | rw [union_eq] | rw [Sig_eq] | rw [Sig1_eq] | rw [Params_eq] | rw [entry1_eq]); repeat' ((try simp only [qn, reduceIte, Int.reduceEq, if_true, if_false]); first | exact Rf.ret rfl | refine Rf.mark ?_ | refine Rf.kind ‹_› (fun x hx => ?_) | refine Rf.take ‹_› (fun b hb hbt => ?_) | refine Rf.expect (by decide) ‹_› (fun b hb => ?_) (fun b hb => ?_) | refine Rf.taken (by decide) ‹_› (fun b hc hb hbt => ?_) (fun hc => ?_) | refine Rf.comes (by decide) ‹_› (fun hc => ?_) (fun hc => ?_) | refine Rf.prec ?_ | refine Rf.close (by rfl) ‹_› (fun b hb => ?_) | refine Rf.dead (fun hd => ?_) (fun hd => ?_) | refine Rf.fail ‹_› (fun b hb => ?_) | refine Rf.none_ ‹_› (fun b hb => ?_) | refine Rf.up ‹_› (fun b hb => ?_) | refine Rf.callU ‹_› (ih.1 _ _ (by first | rfl | assumption) ‹_›) (fun r b hb hbl => ?_) | refine Rf.callI ‹_› (ih.1 _ _ (by rfl) ‹_›) (fun r b hb hbl => ?_) | refine Rf.callB ‹_› (ih.1 _ _ (by rfl) ‹_›) (fun r b hb hbl => ?_) | exact Rf.tail (ih.2 _ _ _ _ _ (by first | rfl | assumption) (by trivial) ‹_› (by first | assumption | omega)) | (refine Rf.ite (fun hc => ?_) (fun hc => ?_) <;> (try simp only [decide_eq_true_eq, gt_iff_lt, ge_iff_le, Bool.not_eq_true', decide_eq_false_iff_not, Bool.not_eq_true, ne_eq, Decidable.not_not] at hc) <;> first | exact absurd trivial hc | subst hc | simp only [hc, ne_eq, qm, decide_true, decide_false, Bool.not_true, Bool.not_false, Bool.false_eq_true, if_true, if_false, reduceIte] | skip) | refine Rf.lit (by rfl) (live_of_kind ‹_› (by decide)) ‹_› (fun c => ?_)))
theorem r_Name (ih : IH n) (hg : a.good) : Rf (runM (callN n) (body .Name) a []) (W .prog (argsOf .Name).1 (argsOf .Name).2 (toP a)) (resE .Name a) := (r_g1 ih hg).1
theorem r_Type (ih : IH n) (hg : a.good) : Rf (runM (callN n) (body .Type) a []) (W .prog (argsOf .Type).1 (argsOf .Type).2 (toP a)) (resE .Type a) := (r_g1 ih hg).2.1
theorem r_elements (ih : IH n) (hg : a.good) : Rf (runM (callN n) (body .elements) a []) (W .prog (argsOf .elements).1 (argsOf .elements).2 (toP a)) (resE .elements a) := (r_g1 ih hg).2.2.1
theorem r_qualified (ih : IH n) (hg : a.good) : Rf (runM (callN n) (body .qualified) a []) (W .prog (argsOf .qualified).1 (argsOf .qualified).2 (toP a)) (resE .qualified a) := (r_g1 ih hg).2.2.2.1
theorem r_union (ih : IH n) (hg : a.good) : Rf (runM (callN n) (body .union) a []) (W .prog (argsOf .union).1 (argsOf .union).2 (toP a)) (resE .union a) := (r_g1 ih hg).2.2.2.2.1
theorem r_Sig (ih : IH n) (hg : a.good) : Rf (runM (callN n) (body .Sig) a []) (W .prog (argsOf .Sig).1 (argsOf .Sig).2 (toP a)) (resE .Sig a) := (r_g1 ih hg).2.2.2.2.2.1
theorem r_Sig1 (ih : IH n) (hg : a.good) : Rf (runM (callN n) (body .Sig1) a []) (W .prog (argsOf .Sig1).1 (argsOf .Sig1).2 (toP a)) (resE .Sig1 a) := (r_g1 ih hg).2.2.2.2.2.2.1
theorem r_Params (ih : IH n) (hg : a.good) : Rf (runM (callN n) (body .Params) a []) (W .prog (argsOf .Params).1 (argsOf .Params).2 (toP a)) (resE .Params a) := (r_g1 ih hg).2.2.2.2.2.2.2.1
theorem r_entry1 (ih : IH n) (hg : a.good) : Rf (runM (callN n) (body .entry1) a []) (W .prog (argsOf .entry1).1 (argsOf .entry1).2 (toP a)) (resE .entry1 a) := (r_g1 ih hg).2.2.2.2.2.2.2.2
theorem r_List (ih : IH n) (head : Bool) (hg : a.good) : Rf (runM (callN n) (body (.List head)) a []) (W .prog (argsOf (.List head)).1 (argsOf (.List head)).2 (toP a)) (resE (.List head) a) := by
 refine Rf.fix List_.fd n ?_
 simp only [argsOf, body]
 rw [List__eq]
 repeat' ((try simp only [qn, reduceIte, Int.reduceEq, if_true, if_false]); first | exact Rf.ret rfl | refine Rf.mark ?_ | refine Rf.kind ‹_› (fun x hx => ?_) | refine Rf.take ‹_› (fun b hb hbt => ?_) | refine Rf.expect (by decide) ‹_› (fun b hb => ?_) (fun b hb => ?_) | refine Rf.taken (by decide) ‹_› (fun b hc hb hbt => ?_) (fun hc => ?_) | refine Rf.comes (by decide) ‹_› (fun hc => ?_) (fun hc => ?_) | refine Rf.prec ?_ | refine Rf.close (by rfl) ‹_› (fun b hb => ?_) | refine Rf.dead (fun hd => ?_) (fun hd => ?_) | refine Rf.fail ‹_› (fun b hb => ?_) | refine Rf.none_ ‹_› (fun b hb => ?_) | refine Rf.up ‹_› (fun b hb => ?_) | refine Rf.callU ‹_› (ih.1 _ _ (by first | rfl | assumption) ‹_›) (fun r b hb hbl => ?_) | refine Rf.callI ‹_› (ih.1 _ _ (by rfl) ‹_›) (fun r b hb hbl => ?_) | refine Rf.callB ‹_› (ih.1 _ _ (by rfl) ‹_›) (fun r b hb hbl => ?_) | exact Rf.tail (ih.2 _ _ _ _ _ (by first | rfl | assumption) (by trivial) ‹_› (by first | assumption | omega)) | (refine Rf.ite (fun hc => ?_) (fun hc => ?_) <;> (try simp only [decide_eq_true_eq, gt_iff_lt, ge_iff_le, Bool.not_eq_true', decide_eq_false_iff_not, Bool.not_eq_true, ne_eq, Decidable.not_not] at hc) <;> first | exact absurd trivial hc | subst hc | simp only [hc, ne_eq, qm, decide_true, decide_false, Bool.not_true, Bool.not_false, Bool.false_eq_true, if_true, if_false, reduceIte] | skip) | refine Rf.lit (by rfl) (live_of_kind ‹_› (by decide)) ‹_› (fun c => ?_))
theorem r_List1 (ih : IH n) (head : Bool) (hg : a.good) : Rf (runM (callN n) (body (.List1 head)) a []) (W .prog (argsOf (.List1 head)).1 (argsOf (.List1 head)).2 (toP a)) (resE (.List1 head) a) := by
 refine Rf.fix List1.fd n ?_
 simp only [argsOf, body]
 rw [List1_eq]
 repeat' ((try simp only [qn, reduceIte, Int.reduceEq, if_true, if_false]); first | exact Rf.ret rfl | refine Rf.mark ?_ | refine Rf.kind ‹_› (fun x hx => ?_) | refine Rf.take ‹_› (fun b hb hbt => ?_) | refine Rf.expect (by decide) ‹_› (fun b hb => ?_) (fun b hb => ?_) | refine Rf.taken (by decide) ‹_› (fun b hc hb hbt => ?_) (fun hc => ?_) | refine Rf.comes (by decide) ‹_› (fun hc => ?_) (fun hc => ?_) | refine Rf.prec ?_ | refine Rf.close (by rfl) ‹_› (fun b hb => ?_) | refine Rf.dead (fun hd => ?_) (fun hd => ?_) | refine Rf.fail ‹_› (fun b hb => ?_) | refine Rf.none_ ‹_› (fun b hb => ?_) | refine Rf.up ‹_› (fun b hb => ?_) | refine Rf.callU ‹_› (ih.1 _ _ (by first | rfl | assumption) ‹_›) (fun r b hb hbl => ?_) | refine Rf.callI ‹_› (ih.1 _ _ (by rfl) ‹_›) (fun r b hb hbl => ?_) | refine Rf.callB ‹_› (ih.1 _ _ (by rfl) ‹_›) (fun r b hb hbl => ?_) | exact Rf.tail (ih.2 _ _ _ _ _ (by first | rfl | assumption) (by trivial) ‹_› (by first | assumption | omega)) | (refine Rf.ite (fun hc => ?_) (fun hc => ?_) <;> (try simp only [decide_eq_true_eq, gt_iff_lt, ge_iff_le, Bool.not_eq_true', decide_eq_false_iff_not, Bool.not_eq_true, ne_eq, Decidable.not_not] at hc) <;> first | exact absurd trivial hc | subst hc | simp only [hc, ne_eq, qm, decide_true, decide_false, Bool.not_true, Bool.not_false, Bool.false_eq_true, if_true, if_false, reduceIte] | skip) | refine Rf.lit (by rfl) (live_of_kind ‹_› (by decide)) ‹_› (fun c => ?_))
theorem r_TParams (ih : IH n) (hg : a.good) : Rf (runM (callN n) (body .TParams) a []) (W .prog (argsOf .TParams).1 (argsOf .TParams).2 (toP a)) (resE .TParams a) := by
 refine Rf.fix TParams.fd n ?_
 simp only [argsOf, body]
 rw [TParams_eq]
 repeat' ((try simp only [qn, reduceIte, Int.reduceEq, if_true, if_false]); first | exact Rf.ret rfl | refine Rf.mark ?_ | refine Rf.kind ‹_› (fun x hx => ?_) | refine Rf.take ‹_› (fun b hb hbt => ?_) | refine Rf.expect (by decide) ‹_› (fun b hb => ?_) (fun b hb => ?_) | refine Rf.taken (by decide) ‹_› (fun b hc hb hbt => ?_) (fun hc => ?_) | refine Rf.comes (by decide) ‹_› (fun hc => ?_) (fun hc => ?_) | refine Rf.prec ?_ | refine Rf.close (by rfl) ‹_› (fun b hb => ?_) | refine Rf.dead (fun hd => ?_) (fun hd => ?_) | refine Rf.fail ‹_› (fun b hb => ?_) | refine Rf.none_ ‹_› (fun b hb => ?_) | refine Rf.up ‹_› (fun b hb => ?_) | refine Rf.callU ‹_› (ih.1 _ _ (by first | rfl | assumption) ‹_›) (fun r b hb hbl => ?_) | refine Rf.callI ‹_› (ih.1 _ _ (by rfl) ‹_›) (fun r b hb hbl => ?_) | refine Rf.callB ‹_› (ih.1 _ _ (by rfl) ‹_›) (fun r b hb hbl => ?_) | exact Rf.tail (ih.2 _ _ _ _ _ (by first | rfl | assumption) (by trivial) ‹_› (by first | assumption | omega)) | (refine Rf.ite (fun hc => ?_) (fun hc => ?_) <;> (try simp only [decide_eq_true_eq, gt_iff_lt, ge_iff_le, Bool.not_eq_true', decide_eq_false_iff_not, Bool.not_eq_true, ne_eq, Decidable.not_not] at hc) <;> first | exact absurd trivial hc | subst hc | simp only [hc, ne_eq, qm, decide_true, decide_false, Bool.not_true, Bool.not_false, Bool.false_eq_true, if_true, if_false, reduceIte] | skip) | refine Rf.lit (by rfl) (live_of_kind ‹_› (by decide)) ‹_› (fun c => ?_))
theorem r_TParams1 (ih : IH n) (hg : a.good) : Rf (runM (callN n) (body .TParams1) a []) (W .prog (argsOf .TParams1).1 (argsOf .TParams1).2 (toP a)) (resE .TParams1 a) := by
 refine Rf.fix TParams1.fd n ?_
 simp only [argsOf, body]
 rw [TParams1_eq]
 repeat' ((try simp only [qn, reduceIte, Int.reduceEq, if_true, if_false]); first | exact Rf.ret rfl | refine Rf.mark ?_ | refine Rf.kind ‹_› (fun x hx => ?_) | refine Rf.take ‹_› (fun b hb hbt => ?_) | refine Rf.expect (by decide) ‹_› (fun b hb => ?_) (fun b hb => ?_) | refine Rf.taken (by decide) ‹_› (fun b hc hb hbt => ?_) (fun hc => ?_) | refine Rf.comes (by decide) ‹_› (fun hc => ?_) (fun hc => ?_) | refine Rf.prec ?_ | refine Rf.close (by rfl) ‹_› (fun b hb => ?_) | refine Rf.dead (fun hd => ?_) (fun hd => ?_) | refine Rf.fail ‹_› (fun b hb => ?_) | refine Rf.none_ ‹_› (fun b hb => ?_) | refine Rf.up ‹_› (fun b hb => ?_) | refine Rf.callU ‹_› (ih.1 _ _ (by first | rfl | assumption) ‹_›) (fun r b hb hbl => ?_) | refine Rf.callI ‹_› (ih.1 _ _ (by rfl) ‹_›) (fun r b hb hbl => ?_) | refine Rf.callB ‹_› (ih.1 _ _ (by rfl) ‹_›) (fun r b hb hbl => ?_) | exact Rf.tail (ih.2 _ _ _ _ _ (by first | rfl | assumption) (by trivial) ‹_› (by first | assumption | omega)) | (refine Rf.ite (fun hc => ?_) (fun hc => ?_) <;> (try simp only [decide_eq_true_eq, gt_iff_lt, ge_iff_le, Bool.not_eq_true', decide_eq_false_iff_not, Bool.not_eq_true, ne_eq, Decidable.not_not] at hc) <;> first | exact absurd trivial hc | subst hc | simp only [hc, ne_eq, qm, decide_true, decide_false, Bool.not_true, Bool.not_false, Bool.false_eq_true, if_true, if_false, reduceIte] | skip) | refine Rf.lit (by rfl) (live_of_kind ‹_› (by decide)) ‹_› (fun c => ?_))
theorem r_TParams11 (ih : IH n) (hg : a.good) : Rf (runM (callN n) (body .TParams11) a []) (W .prog (argsOf .TParams11).1 (argsOf .TParams11).2 (toP a)) (resE .TParams11 a) := by
 refine Rf.fix TParams11.fd n ?_
 simp only [argsOf, body]
 rw [TParams11_eq]
 repeat' ((try simp only [qn, reduceIte, Int.reduceEq, if_true, if_false]); first | exact Rf.ret rfl | refine Rf.mark ?_ | refine Rf.kind ‹_› (fun x hx => ?_) | refine Rf.take ‹_› (fun b hb hbt => ?_) | refine Rf.expect (by decide) ‹_› (fun b hb => ?_) (fun b hb => ?_) | refine Rf.taken (by decide) ‹_› (fun b hc hb hbt => ?_) (fun hc => ?_) | refine Rf.comes (by decide) ‹_› (fun hc => ?_) (fun hc => ?_) | refine Rf.prec ?_ | refine Rf.close (by rfl) ‹_› (fun b hb => ?_) | refine Rf.dead (fun hd => ?_) (fun hd => ?_) | refine Rf.fail ‹_› (fun b hb => ?_) | refine Rf.none_ ‹_› (fun b hb => ?_) | refine Rf.up ‹_› (fun b hb => ?_) | refine Rf.callU ‹_› (ih.1 _ _ (by first | rfl | assumption) ‹_›) (fun r b hb hbl => ?_) | refine Rf.callI ‹_› (ih.1 _ _ (by rfl) ‹_›) (fun r b hb hbl => ?_) | refine Rf.callB ‹_› (ih.1 _ _ (by rfl) ‹_›) (fun r b hb hbl => ?_) | exact Rf.tail (ih.2 _ _ _ _ _ (by first | rfl | assumption) (by trivial) ‹_› (by first | assumption | omega)) | (refine Rf.ite (fun hc => ?_) (fun hc => ?_) <;> (try simp only [decide_eq_true_eq, gt_iff_lt, ge_iff_le, Bool.not_eq_true', decide_eq_false_iff_not, Bool.not_eq_true, ne_eq, Decidable.not_not] at hc) <;> first | exact absurd trivial hc | subst hc | simp only [hc, ne_eq, qm, decide_true, decide_false, Bool.not_true, Bool.not_false, Bool.false_eq_true, if_true, if_false, reduceIte] | skip) | refine Rf.lit (by rfl) (live_of_kind ‹_› (by decide)) ‹_› (fun c => ?_))
theorem r_primaryL (ih : IH n) (head : Bool) (hg : a.good) (ms : List Int) (lim n0 : Nat) (hn : n ≤ n0) : Rf (runM (callN n) (body (.primaryL head)) a ms) (loopOf (.primaryL head) ms lim (n0 + 1) a) (resE (.primaryL head) a) := by
 simp only [loopOf, body]
 rw [primary.l0_succ]
 repeat' ((try simp only [qn, reduceIte, Int.reduceEq, if_true, if_false]); first | exact Rf.ret rfl | refine Rf.mark ?_ | refine Rf.kind ‹_› (fun x hx => ?_) | refine Rf.take ‹_› (fun b hb hbt => ?_) | refine Rf.expect (by decide) ‹_› (fun b hb => ?_) (fun b hb => ?_) | refine Rf.taken (by decide) ‹_› (fun b hc hb hbt => ?_) (fun hc => ?_) | refine Rf.comes (by decide) ‹_› (fun hc => ?_) (fun hc => ?_) | refine Rf.prec ?_ | refine Rf.close (by rfl) ‹_› (fun b hb => ?_) | refine Rf.dead (fun hd => ?_) (fun hd => ?_) | refine Rf.fail ‹_› (fun b hb => ?_) | refine Rf.none_ ‹_› (fun b hb => ?_) | refine Rf.up ‹_› (fun b hb => ?_) | refine Rf.callU ‹_› (ih.1 _ _ (by first | rfl | assumption) ‹_›) (fun r b hb hbl => ?_) | refine Rf.callI ‹_› (ih.1 _ _ (by rfl) ‹_›) (fun r b hb hbl => ?_) | refine Rf.callB ‹_› (ih.1 _ _ (by rfl) ‹_›) (fun r b hb hbl => ?_) | exact Rf.tail (ih.2 _ _ _ _ _ (by first | rfl | assumption) (by trivial) ‹_› (by first | assumption | omega)) | (refine Rf.ite (fun hc => ?_) (fun hc => ?_) <;> (try simp only [decide_eq_true_eq, gt_iff_lt, ge_iff_le, Bool.not_eq_true', decide_eq_false_iff_not, Bool.not_eq_true, ne_eq, Decidable.not_not] at hc) <;> first | exact absurd trivial hc | subst hc | simp only [hc, ne_eq, qm, decide_true, decide_false, Bool.not_true, Bool.not_false, Bool.false_eq_true, if_true, if_false, reduceIte] | skip) | refine Rf.lit (by rfl) (live_of_kind ‹_› (by decide)) ‹_› (fun c => ?_))
theorem r_indexL (ih : IH n) (hg : a.good) (ms : List Int) (lim n0 : Nat) (hn : n ≤ n0) : Rf (runM (callN n) (body .indexL) a ms) (loopOf .indexL ms lim (n0 + 1) a) (resE .indexL a) := by
 simp only [loopOf, body]
 rw [index.l0_succ]
 repeat' ((try simp only [qn, reduceIte, Int.reduceEq, if_true, if_false]); first | exact Rf.ret rfl | refine Rf.mark ?_ | refine Rf.kind ‹_› (fun x hx => ?_) | refine Rf.take ‹_› (fun b hb hbt => ?_) | refine Rf.expect (by decide) ‹_› (fun b hb => ?_) (fun b hb => ?_) | refine Rf.taken (by decide) ‹_› (fun b hc hb hbt => ?_) (fun hc => ?_) | refine Rf.comes (by decide) ‹_› (fun hc => ?_) (fun hc => ?_) | refine Rf.prec ?_ | refine Rf.close (by rfl) ‹_› (fun b hb => ?_) | refine Rf.dead (fun hd => ?_) (fun hd => ?_) | refine Rf.fail ‹_› (fun b hb => ?_) | refine Rf.none_ ‹_› (fun b hb => ?_) | refine Rf.up ‹_› (fun b hb => ?_) | refine Rf.callU ‹_› (ih.1 _ _ (by first | rfl | assumption) ‹_›) (fun r b hb hbl => ?_) | refine Rf.callI ‹_› (ih.1 _ _ (by rfl) ‹_›) (fun r b hb hbl => ?_) | refine Rf.callB ‹_› (ih.1 _ _ (by rfl) ‹_›) (fun r b hb hbl => ?_) | exact Rf.tail (ih.2 _ _ _ _ _ (by first | rfl | assumption) (by trivial) ‹_› (by first | assumption | omega)) | (refine Rf.ite (fun hc => ?_) (fun hc => ?_) <;> (try simp only [decide_eq_true_eq, gt_iff_lt, ge_iff_le, Bool.not_eq_true', decide_eq_false_iff_not, Bool.not_eq_true, ne_eq, Decidable.not_not] at hc) <;> first | exact absurd trivial hc | subst hc | simp only [hc, ne_eq, qm, decide_true, decide_false, Bool.not_true, Bool.not_false, Bool.false_eq_true, if_true, if_false, reduceIte] | skip) | refine Rf.lit (by rfl) (live_of_kind ‹_› (by decide)) ‹_› (fun c => ?_))
theorem r_argsL (ih : IH n) (hg : a.good) (ms : List Int) (lim n0 : Nat) (hn : n ≤ n0) : Rf (runM (callN n) (body .argsL) a ms) (loopOf .argsL ms lim (n0 + 1) a) (resE .argsL a) := by
 simp only [loopOf, body]
 rw [arguments.l0_succ]
 repeat' ((try simp only [qn, reduceIte, Int.reduceEq, if_true, if_false]); first | exact Rf.ret rfl | refine Rf.mark ?_ | refine Rf.kind ‹_› (fun x hx => ?_) | refine Rf.take ‹_› (fun b hb hbt => ?_) | refine Rf.expect (by decide) ‹_› (fun b hb => ?_) (fun b hb => ?_) | refine Rf.taken (by decide) ‹_› (fun b hc hb hbt => ?_) (fun hc => ?_) | refine Rf.comes (by decide) ‹_› (fun hc => ?_) (fun hc => ?_) | refine Rf.prec ?_ | refine Rf.close (by rfl) ‹_› (fun b hb => ?_) | refine Rf.dead (fun hd => ?_) (fun hd => ?_) | refine Rf.fail ‹_› (fun b hb => ?_) | refine Rf.none_ ‹_› (fun b hb => ?_) | refine Rf.up ‹_› (fun b hb => ?_) | refine Rf.callU ‹_› (ih.1 _ _ (by first | rfl | assumption) ‹_›) (fun r b hb hbl => ?_) | refine Rf.callI ‹_› (ih.1 _ _ (by rfl) ‹_›) (fun r b hb hbl => ?_) | refine Rf.callB ‹_› (ih.1 _ _ (by rfl) ‹_›) (fun r b hb hbl => ?_) | exact Rf.tail (ih.2 _ _ _ _ _ (by first | rfl | assumption) (by trivial) ‹_› (by first | assumption | omega)) | (refine Rf.ite (fun hc => ?_) (fun hc => ?_) <;> (try simp only [decide_eq_true_eq, gt_iff_lt, ge_iff_le, Bool.not_eq_true', decide_eq_false_iff_not, Bool.not_eq_true, ne_eq, Decidable.not_not] at hc) <;> first | exact absurd trivial hc | subst hc | simp only [hc, ne_eq, qm, decide_true, decide_false, Bool.not_true, Bool.not_false, Bool.false_eq_true, if_true, if_false, reduceIte] | skip) | refine Rf.lit (by rfl) (live_of_kind ‹_› (by decide)) ‹_› (fun c => ?_))
theorem r_valuesL (ih : IH n) (hg : a.good) (ms : List Int) (hms : ms = []) (lim n0 : Nat) (hn : n ≤ n0) : Rf (runM (callN n) (body .valuesL) a ms) (loopOf .valuesL ms lim (n0 + 1) a) (resE .valuesL a) := by
 subst hms
 simp only [loopOf, body]
 rw [values.l0_succ]
 repeat' ((try simp only [qn, reduceIte, Int.reduceEq, if_true, if_false]); first | exact Rf.ret rfl | refine Rf.mark ?_ | refine Rf.kind ‹_› (fun x hx => ?_) | refine Rf.take ‹_› (fun b hb hbt => ?_) | refine Rf.expect (by decide) ‹_› (fun b hb => ?_) (fun b hb => ?_) | refine Rf.taken (by decide) ‹_› (fun b hc hb hbt => ?_) (fun hc => ?_) | refine Rf.comes (by decide) ‹_› (fun hc => ?_) (fun hc => ?_) | refine Rf.prec ?_ | refine Rf.close (by rfl) ‹_› (fun b hb => ?_) | refine Rf.dead (fun hd => ?_) (fun hd => ?_) | refine Rf.fail ‹_› (fun b hb => ?_) | refine Rf.none_ ‹_› (fun b hb => ?_) | refine Rf.up ‹_› (fun b hb => ?_) | refine Rf.callU ‹_› (ih.1 _ _ (by first | rfl | assumption) ‹_›) (fun r b hb hbl => ?_) | refine Rf.callI ‹_› (ih.1 _ _ (by rfl) ‹_›) (fun r b hb hbl => ?_) | refine Rf.callB ‹_› (ih.1 _ _ (by rfl) ‹_›) (fun r b hb hbl => ?_) | exact Rf.tail (ih.2 _ _ _ _ _ (by first | rfl | assumption) (by trivial) ‹_› (by first | assumption | omega)) | (refine Rf.ite (fun hc => ?_) (fun hc => ?_) <;> (try simp only [decide_eq_true_eq, gt_iff_lt, ge_iff_le, Bool.not_eq_true', decide_eq_false_iff_not, Bool.not_eq_true, ne_eq, Decidable.not_not] at hc) <;> first | exact absurd trivial hc | subst hc | simp only [hc, ne_eq, qm, decide_true, decide_false, Bool.not_true, Bool.not_false, Bool.false_eq_true, if_true, if_false, reduceIte] | skip) | refine Rf.lit (by rfl) (live_of_kind ‹_› (by decide)) ‹_› (fun c => ?_))
theorem r_formL (ih : IH n) (hg : a.good) (ms : List Int) (lim n0 : Nat) (hn : n ≤ n0) : Rf (runM (callN n) (body .formL) a ms) (loopOf .formL ms lim (n0 + 1) a) (resE .formL a) := by
 simp only [loopOf, body]
 rw [form.l1_succ]
 repeat' ((try simp only [qn, reduceIte, Int.reduceEq, if_true, if_false]); first | exact Rf.ret rfl | refine Rf.mark ?_ | refine Rf.kind ‹_› (fun x hx => ?_) | refine Rf.take ‹_› (fun b hb hbt => ?_) | refine Rf.expect (by decide) ‹_› (fun b hb => ?_) (fun b hb => ?_) | refine Rf.taken (by decide) ‹_› (fun b hc hb hbt => ?_) (fun hc => ?_) | refine Rf.comes (by decide) ‹_› (fun hc => ?_) (fun hc => ?_) | refine Rf.prec ?_ | refine Rf.close (by rfl) ‹_› (fun b hb => ?_) | refine Rf.dead (fun hd => ?_) (fun hd => ?_) | refine Rf.fail ‹_› (fun b hb => ?_) | refine Rf.none_ ‹_› (fun b hb => ?_) | refine Rf.up ‹_› (fun b hb => ?_) | refine Rf.callU ‹_› (ih.1 _ _ (by first | rfl | assumption) ‹_›) (fun r b hb hbl => ?_) | refine Rf.callI ‹_› (ih.1 _ _ (by rfl) ‹_›) (fun r b hb hbl => ?_) | refine Rf.callB ‹_› (ih.1 _ _ (by rfl) ‹_›) (fun r b hb hbl => ?_) | exact Rf.tail (ih.2 _ _ _ _ _ (by first | rfl | assumption) (by trivial) ‹_› (by first | assumption | omega)) | (refine Rf.ite (fun hc => ?_) (fun hc => ?_) <;> (try simp only [decide_eq_true_eq, gt_iff_lt, ge_iff_le, Bool.not_eq_true', decide_eq_false_iff_not, Bool.not_eq_true, ne_eq, Decidable.not_not] at hc) <;> first | exact absurd trivial hc | subst hc | simp only [hc, ne_eq, qm, decide_true, decide_false, Bool.not_true, Bool.not_false, Bool.false_eq_true, if_true, if_false, reduceIte] | skip) | refine Rf.lit (by rfl) (live_of_kind ‹_› (by decide)) ‹_› (fun c => ?_))
theorem r_fieldL (ih : IH n) (hg : a.good) (ms : List Int) (lim n0 : Nat) (hn : n ≤ n0) : Rf (runM (callN n) (body .fieldL) a ms) (loopOf .fieldL ms lim (n0 + 1) a) (resE .fieldL a) := by
 simp only [loopOf, body]
 rw [field.l1_succ]
 repeat' ((try simp only [qn, reduceIte, Int.reduceEq, if_true, if_false]); first | exact Rf.ret rfl | refine Rf.mark ?_ | refine Rf.kind ‹_› (fun x hx => ?_) | refine Rf.take ‹_› (fun b hb hbt => ?_) | refine Rf.expect (by decide) ‹_› (fun b hb => ?_) (fun b hb => ?_) | refine Rf.taken (by decide) ‹_› (fun b hc hb hbt => ?_) (fun hc => ?_) | refine Rf.comes (by decide) ‹_› (fun hc => ?_) (fun hc => ?_) | refine Rf.prec ?_ | refine Rf.close (by rfl) ‹_› (fun b hb => ?_) | refine Rf.dead (fun hd => ?_) (fun hd => ?_) | refine Rf.fail ‹_› (fun b hb => ?_) | refine Rf.none_ ‹_› (fun b hb => ?_) | refine Rf.up ‹_› (fun b hb => ?_) | refine Rf.callU ‹_› (ih.1 _ _ (by first | rfl | assumption) ‹_›) (fun r b hb hbl => ?_) | refine Rf.callI ‹_› (ih.1 _ _ (by rfl) ‹_›) (fun r b hb hbl => ?_) | refine Rf.callB ‹_› (ih.1 _ _ (by rfl) ‹_›) (fun r b hb hbl => ?_) | exact Rf.tail (ih.2 _ _ _ _ _ (by first | rfl | assumption) (by trivial) ‹_› (by first | assumption | omega)) | (refine Rf.ite (fun hc => ?_) (fun hc => ?_) <;> (try simp only [decide_eq_true_eq, gt_iff_lt, ge_iff_le, Bool.not_eq_true', decide_eq_false_iff_not, Bool.not_eq_true, ne_eq, Decidable.not_not] at hc) <;> first | exact absurd trivial hc | subst hc | simp only [hc, ne_eq, qm, decide_true, decide_false, Bool.not_true, Bool.not_false, Bool.false_eq_true, if_true, if_false, reduceIte] | skip) | refine Rf.lit (by rfl) (live_of_kind ‹_› (by decide)) ‹_› (fun c => ?_))
theorem r_unionL (ih : IH n) (more : Bool) (hg : a.good) (ms : List Int) (hms : ms = []) (lim n0 : Nat) (hn : n ≤ n0) : Rf (runM (callN n) (body (.unionL more)) a ms) (loopOf (.unionL more) ms lim (n0 + 1) a) (resE (.unionL more) a) := by
 subst hms
 simp only [loopOf, body]
 rw [union.l0_succ]
 repeat' ((try simp only [qn, reduceIte, Int.reduceEq, if_true, if_false]); first | exact Rf.ret rfl | refine Rf.mark ?_ | refine Rf.kind ‹_› (fun x hx => ?_) | refine Rf.take ‹_› (fun b hb hbt => ?_) | refine Rf.expect (by decide) ‹_› (fun b hb => ?_) (fun b hb => ?_) | refine Rf.taken (by decide) ‹_› (fun b hc hb hbt => ?_) (fun hc => ?_) | refine Rf.comes (by decide) ‹_› (fun hc => ?_) (fun hc => ?_) | refine Rf.prec ?_ | refine Rf.close (by rfl) ‹_› (fun b hb => ?_) | refine Rf.dead (fun hd => ?_) (fun hd => ?_) | refine Rf.fail ‹_› (fun b hb => ?_) | refine Rf.none_ ‹_› (fun b hb => ?_) | refine Rf.up ‹_› (fun b hb => ?_) | refine Rf.callU ‹_› (ih.1 _ _ (by first | rfl | assumption) ‹_›) (fun r b hb hbl => ?_) | refine Rf.callI ‹_› (ih.1 _ _ (by rfl) ‹_›) (fun r b hb hbl => ?_) | refine Rf.callB ‹_› (ih.1 _ _ (by rfl) ‹_›) (fun r b hb hbl => ?_) | exact Rf.tail (ih.2 _ _ _ _ _ (by first | rfl | assumption) (by trivial) ‹_› (by first | assumption | omega)) | (refine Rf.ite (fun hc => ?_) (fun hc => ?_) <;> (try simp only [decide_eq_true_eq, gt_iff_lt, ge_iff_le, Bool.not_eq_true', decide_eq_false_iff_not, Bool.not_eq_true, ne_eq, Decidable.not_not] at hc) <;> first | exact absurd trivial hc | subst hc | simp only [hc, ne_eq, qm, decide_true, decide_false, Bool.not_true, Bool.not_false, Bool.false_eq_true, if_true, if_false, reduceIte] | skip) | refine Rf.lit (by rfl) (live_of_kind ‹_› (by decide)) ‹_› (fun c => ?_))
 all_goals (cases more <;> exact Rf.ret rfl)
theorem r_ListL (ih : IH n) (head : Bool) (hg : a.good) (ms : List Int) (lim n0 : Nat) (hn : n ≤ n0) : Rf (runM (callN n) (body (.ListL head)) a ms) (loopOf (.ListL head) ms lim (n0 + 1) a) (resE (.ListL head) a) := by
 simp only [loopOf, body]
 rw [List1.l0_succ]
 repeat' ((try simp only [qn, reduceIte, Int.reduceEq, if_true, if_false]); first | exact Rf.ret rfl | refine Rf.mark ?_ | refine Rf.kind ‹_› (fun x hx => ?_) | refine Rf.take ‹_› (fun b hb hbt => ?_) | refine Rf.expect (by decide) ‹_› (fun b hb => ?_) (fun b hb => ?_) | refine Rf.taken (by decide) ‹_› (fun b hc hb hbt => ?_) (fun hc => ?_) | refine Rf.comes (by decide) ‹_› (fun hc => ?_) (fun hc => ?_) | refine Rf.prec ?_ | refine Rf.close (by rfl) ‹_› (fun b hb => ?_) | refine Rf.dead (fun hd => ?_) (fun hd => ?_) | refine Rf.fail ‹_› (fun b hb => ?_) | refine Rf.none_ ‹_› (fun b hb => ?_) | refine Rf.up ‹_› (fun b hb => ?_) | refine Rf.callU ‹_› (ih.1 _ _ (by first | rfl | assumption) ‹_›) (fun r b hb hbl => ?_) | refine Rf.callI ‹_› (ih.1 _ _ (by rfl) ‹_›) (fun r b hb hbl => ?_) | refine Rf.callB ‹_› (ih.1 _ _ (by rfl) ‹_›) (fun r b hb hbl => ?_) | exact Rf.tail (ih.2 _ _ _ _ _ (by first | rfl | assumption) (by trivial) ‹_› (by first | assumption | omega)) | (refine Rf.ite (fun hc => ?_) (fun hc => ?_) <;> (try simp only [decide_eq_true_eq, gt_iff_lt, ge_iff_le, Bool.not_eq_true', decide_eq_false_iff_not, Bool.not_eq_true, ne_eq, Decidable.not_not] at hc) <;> first | exact absurd trivial hc | subst hc | simp only [hc, ne_eq, qm, decide_true, decide_false, Bool.not_true, Bool.not_false, Bool.false_eq_true, if_true, if_false, reduceIte] | skip) | refine Rf.lit (by rfl) (live_of_kind ‹_› (by decide)) ‹_› (fun c => ?_))
theorem r_TParamsL (ih : IH n) (more : Bool) (hg : a.good) (ms : List Int) (lim n0 : Nat) (hn : n ≤ n0) : Rf (runM (callN n) (body (.TParamsL more)) a ms) (loopOf (.TParamsL more) ms lim (n0 + 1) a) (resE (.TParamsL more) a) := by
 simp only [loopOf, body]
 rw [TParams1.l0_succ]
 repeat' ((try simp only [qn, reduceIte, Int.reduceEq, if_true, if_false]); first | exact Rf.ret rfl | refine Rf.mark ?_ | refine Rf.kind ‹_› (fun x hx => ?_) | refine Rf.take ‹_› (fun b hb hbt => ?_) | refine Rf.expect (by decide) ‹_› (fun b hb => ?_) (fun b hb => ?_) | refine Rf.taken (by decide) ‹_› (fun b hc hb hbt => ?_) (fun hc => ?_) | refine Rf.comes (by decide) ‹_› (fun hc => ?_) (fun hc => ?_) | refine Rf.prec ?_ | refine Rf.close (by rfl) ‹_› (fun b hb => ?_) | refine Rf.dead (fun hd => ?_) (fun hd => ?_) | refine Rf.fail ‹_› (fun b hb => ?_) | refine Rf.none_ ‹_› (fun b hb => ?_) | refine Rf.up ‹_› (fun b hb => ?_) | refine Rf.callU ‹_› (ih.1 _ _ (by first | rfl | assumption) ‹_›) (fun r b hb hbl => ?_) | refine Rf.callI ‹_› (ih.1 _ _ (by rfl) ‹_›) (fun r b hb hbl => ?_) | refine Rf.callB ‹_› (ih.1 _ _ (by rfl) ‹_›) (fun r b hb hbl => ?_) | exact Rf.tail (ih.2 _ _ _ _ _ (by first | rfl | assumption) (by trivial) ‹_› (by first | assumption | omega)) | (refine Rf.ite (fun hc => ?_) (fun hc => ?_) <;> (try simp only [decide_eq_true_eq, gt_iff_lt, ge_iff_le, Bool.not_eq_true', decide_eq_false_iff_not, Bool.not_eq_true, ne_eq, Decidable.not_not] at hc) <;> first | exact absurd trivial hc | subst hc | simp only [hc, ne_eq, qm, decide_true, decide_false, Bool.not_true, Bool.not_false, Bool.false_eq_true, if_true, if_false, reduceIte] | skip) | refine Rf.lit (by rfl) (live_of_kind ‹_› (by decide)) ‹_› (fun c => ?_))
theorem r_TParams11L (ih : IH n) (hg : a.good) (ms : List Int) (hms : ms = []) (lim n0 : Nat) (hn : n ≤ n0) : Rf (runM (callN n) (body .TParams11L) a ms) (loopOf .TParams11L ms lim (n0 + 1) a) (resE .TParams11L a) := by
 subst hms
 simp only [loopOf, body]
 rw [TParams11.l0_succ]
 repeat' ((try simp only [qn, reduceIte, Int.reduceEq, if_true, if_false]); first | exact Rf.ret rfl | refine Rf.mark ?_ | refine Rf.kind ‹_› (fun x hx => ?_) | refine Rf.take ‹_› (fun b hb hbt => ?_) | refine Rf.expect (by decide) ‹_› (fun b hb => ?_) (fun b hb => ?_) | refine Rf.taken (by decide) ‹_› (fun b hc hb hbt => ?_) (fun hc => ?_) | refine Rf.comes (by decide) ‹_› (fun hc => ?_) (fun hc => ?_) | refine Rf.prec ?_ | refine Rf.close (by rfl) ‹_› (fun b hb => ?_) | refine Rf.dead (fun hd => ?_) (fun hd => ?_) | refine Rf.fail ‹_› (fun b hb => ?_) | refine Rf.none_ ‹_› (fun b hb => ?_) | refine Rf.up ‹_› (fun b hb => ?_) | refine Rf.callU ‹_› (ih.1 _ _ (by first | rfl | assumption) ‹_›) (fun r b hb hbl => ?_) | refine Rf.callI ‹_› (ih.1 _ _ (by rfl) ‹_›) (fun r b hb hbl => ?_) | refine Rf.callB ‹_› (ih.1 _ _ (by rfl) ‹_›) (fun r b hb hbl => ?_) | exact Rf.tail (ih.2 _ _ _ _ _ (by first | rfl | assumption) (by trivial) ‹_› (by first | assumption | omega)) | (refine Rf.ite (fun hc => ?_) (fun hc => ?_) <;> (try simp only [decide_eq_true_eq, gt_iff_lt, ge_iff_le, Bool.not_eq_true', decide_eq_false_iff_not, Bool.not_eq_true, ne_eq, Decidable.not_not] at hc) <;> first | exact absurd trivial hc | subst hc | simp only [hc, ne_eq, qm, decide_true, decide_false, Bool.not_true, Bool.not_false, Bool.false_eq_true, if_true, if_false, reduceIte] | skip) | refine Rf.lit (by rfl) (live_of_kind ‹_› (by decide)) ‹_› (fun c => ?_))
theorem r_unary (ih : IH n) (head : Bool) (hg : a.good) : Rf (runM (callN n) (body (.unary head)) a []) (W .prog (argsOf (.unary head)).1 (argsOf (.unary head)).2 (toP a)) (resE (.unary head) a) := by
 refine Rf.fix unary.fd n ?_
 simp only [argsOf, body]
 rw [unary_eq]
 simp only [unary.j0]
 repeat' ((try simp only [qn, reduceIte, Int.reduceEq, if_true, if_false]); first | exact Rf.ret rfl | refine Rf.mark ?_ | refine Rf.kind ‹_› (fun x hx => ?_) | refine Rf.take ‹_› (fun b hb hbt => ?_) | refine Rf.expect (by decide) ‹_› (fun b hb => ?_) (fun b hb => ?_) | refine Rf.taken (by decide) ‹_› (fun b hc hb hbt => ?_) (fun hc => ?_) | refine Rf.comes (by decide) ‹_› (fun hc => ?_) (fun hc => ?_) | refine Rf.prec ?_ | refine Rf.close (by rfl) ‹_› (fun b hb => ?_) | refine Rf.dead (fun hd => ?_) (fun hd => ?_) | refine Rf.fail ‹_› (fun b hb => ?_) | refine Rf.none_ ‹_› (fun b hb => ?_) | refine Rf.up ‹_› (fun b hb => ?_) | refine Rf.callU ‹_› (ih.1 _ _ (by first | rfl | assumption) ‹_›) (fun r b hb hbl => ?_) | refine Rf.callI ‹_› (ih.1 _ _ (by rfl) ‹_›) (fun r b hb hbl => ?_) | refine Rf.callB ‹_› (ih.1 _ _ (by rfl) ‹_›) (fun r b hb hbl => ?_) | exact Rf.tail (ih.2 _ _ _ _ _ (by first | rfl | assumption) (by trivial) ‹_› (by first | assumption | omega)) | (refine Rf.ite (fun hc => ?_) (fun hc => ?_) <;> (try simp only [decide_eq_true_eq, gt_iff_lt, ge_iff_le, Bool.not_eq_true', decide_eq_false_iff_not, Bool.not_eq_true, ne_eq, Decidable.not_not] at hc) <;> first | exact absurd trivial hc | subst hc | simp only [hc, ne_eq, qm, decide_true, decide_false, Bool.not_true, Bool.not_false, Bool.false_eq_true, if_true, if_false, reduceIte] | skip) | refine Rf.lit (by rfl) (live_of_kind ‹_› (by decide)) ‹_› (fun c => ?_))
theorem r_operand (ih : IH n) (hg : a.good) : Rf (runM (callN n) (body .operand) a []) (W .prog (argsOf .operand).1 (argsOf .operand).2 (toP a)) (resE .operand a) := by
 refine Rf.fix operand.fd n ?_
 simp only [argsOf, body]
 rw [operand_eq]
 simp only [operand.j0]
 repeat' ((try simp only [qn, reduceIte, Int.reduceEq, if_true, if_false]); first | exact Rf.ret rfl | refine Rf.mark ?_ | refine Rf.kind ‹_› (fun x hx => ?_) | refine Rf.take ‹_› (fun b hb hbt => ?_) | refine Rf.expect (by decide) ‹_› (fun b hb => ?_) (fun b hb => ?_) | refine Rf.taken (by decide) ‹_› (fun b hc hb hbt => ?_) (fun hc => ?_) | refine Rf.comes (by decide) ‹_› (fun hc => ?_) (fun hc => ?_) | refine Rf.prec ?_ | refine Rf.close (by rfl) ‹_› (fun b hb => ?_) | refine Rf.dead (fun hd => ?_) (fun hd => ?_) | refine Rf.fail ‹_› (fun b hb => ?_) | refine Rf.none_ ‹_› (fun b hb => ?_) | refine Rf.up ‹_› (fun b hb => ?_) | refine Rf.callU ‹_› (ih.1 _ _ (by first | rfl | assumption) ‹_›) (fun r b hb hbl => ?_) | refine Rf.callI ‹_› (ih.1 _ _ (by rfl) ‹_›) (fun r b hb hbl => ?_) | refine Rf.callB ‹_› (ih.1 _ _ (by rfl) ‹_›) (fun r b hb hbl => ?_) | exact Rf.tail (ih.2 _ _ _ _ _ (by first | rfl | assumption) (by trivial) ‹_› (by first | assumption | omega)) | (refine Rf.ite (fun hc => ?_) (fun hc => ?_) <;> (try simp only [decide_eq_true_eq, gt_iff_lt, ge_iff_le, Bool.not_eq_true', decide_eq_false_iff_not, Bool.not_eq_true, ne_eq, Decidable.not_not] at hc) <;> first | exact absurd trivial hc | subst hc | simp only [hc, ne_eq, qm, decide_true, decide_false, Bool.not_true, Bool.not_false, Bool.false_eq_true, if_true, if_false, reduceIte] | skip) | refine Rf.lit (by rfl) (live_of_kind ‹_› (by decide)) ‹_› (fun c => ?_))
theorem r_form (ih : IH n) (hg : a.good) : Rf (runM (callN n) (body .form) a []) (W .prog (argsOf .form).1 (argsOf .form).2 (toP a)) (resE .form a) := by
 refine Rf.fix form.fd n ?_
 simp only [argsOf, body]
 rw [form_eq]
 repeat' ((try simp only [qn, reduceIte, Int.reduceEq, if_true, if_false]); first | exact Rf.ret rfl | refine Rf.mark ?_ | refine Rf.kind ‹_› (fun x hx => ?_) | refine Rf.take ‹_› (fun b hb hbt => ?_) | refine Rf.expect (by decide) ‹_› (fun b hb => ?_) (fun b hb => ?_) | refine Rf.taken (by decide) ‹_› (fun b hc hb hbt => ?_) (fun hc => ?_) | refine Rf.comes (by decide) ‹_› (fun hc => ?_) (fun hc => ?_) | refine Rf.prec ?_ | refine Rf.close (by rfl) ‹_› (fun b hb => ?_) | refine Rf.dead (fun hd => ?_) (fun hd => ?_) | refine Rf.fail ‹_› (fun b hb => ?_) | refine Rf.none_ ‹_› (fun b hb => ?_) | refine Rf.up ‹_› (fun b hb => ?_) | refine Rf.callU ‹_› (ih.1 _ _ (by first | rfl | assumption) ‹_›) (fun r b hb hbl => ?_) | refine Rf.callI ‹_› (ih.1 _ _ (by rfl) ‹_›) (fun r b hb hbl => ?_) | refine Rf.callB ‹_› (ih.1 _ _ (by rfl) ‹_›) (fun r b hb hbl => ?_) | exact Rf.tail (ih.2 _ _ _ _ _ (by first | rfl | assumption) (by trivial) ‹_› (by first | assumption | omega)) | (refine Rf.ite (fun hc => ?_) (fun hc => ?_) <;> (try simp only [decide_eq_true_eq, gt_iff_lt, ge_iff_le, Bool.not_eq_true', decide_eq_false_iff_not, Bool.not_eq_true, ne_eq, Decidable.not_not] at hc) <;> first | exact absurd trivial hc | subst hc | simp only [hc, ne_eq, qm, decide_true, decide_false, Bool.not_true, Bool.not_false, Bool.false_eq_true, if_true, if_false, reduceIte] | skip) | refine Rf.lit (by rfl) (live_of_kind ‹_› (by decide)) ‹_› (fun c => ?_))
theorem r_unless (ih : IH n) (ks : List Int) (hk : ks.length < 1099511627776) (hg : a.good) : Rf (runM (callN n) (body (.unless ks)) a []) (W .prog (argsOf (.unless ks)).1 (argsOf (.unless ks)).2 (toP a)) (resE (.unless ks) a) := by
 refine Rf.fix unless_.fd n ?_
 simp only [argsOf, body]
 rw [unless__eq]
 refine Rf.comes hk hg (fun hc => ?_) (fun hc => ?_) <;> (try simp only [qn, reduceIte, Int.reduceEq, if_true, if_false])
 all_goals repeat' ((try simp only [qn, reduceIte, Int.reduceEq, if_true, if_false]); first | exact Rf.ret rfl | refine Rf.mark ?_ | refine Rf.kind ‹_› (fun x hx => ?_) | refine Rf.take ‹_› (fun b hb hbt => ?_) | refine Rf.expect (by decide) ‹_› (fun b hb => ?_) (fun b hb => ?_) | refine Rf.taken (by decide) ‹_› (fun b hc hb hbt => ?_) (fun hc => ?_) | refine Rf.comes (by decide) ‹_› (fun hc => ?_) (fun hc => ?_) | refine Rf.prec ?_ | refine Rf.close (by rfl) ‹_› (fun b hb => ?_) | refine Rf.dead (fun hd => ?_) (fun hd => ?_) | refine Rf.fail ‹_› (fun b hb => ?_) | refine Rf.none_ ‹_› (fun b hb => ?_) | refine Rf.up ‹_› (fun b hb => ?_) | refine Rf.callU ‹_› (ih.1 _ _ (by first | rfl | assumption) ‹_›) (fun r b hb hbl => ?_) | refine Rf.callI ‹_› (ih.1 _ _ (by rfl) ‹_›) (fun r b hb hbl => ?_) | refine Rf.callB ‹_› (ih.1 _ _ (by rfl) ‹_›) (fun r b hb hbl => ?_) | exact Rf.tail (ih.2 _ _ _ _ _ (by first | rfl | assumption) (by trivial) ‹_› (by first | assumption | omega)) | (refine Rf.ite (fun hc => ?_) (fun hc => ?_) <;> (try simp only [decide_eq_true_eq, gt_iff_lt, ge_iff_le, Bool.not_eq_true', decide_eq_false_iff_not, Bool.not_eq_true, ne_eq, Decidable.not_not] at hc) <;> first | exact absurd trivial hc | subst hc | simp only [hc, ne_eq, qm, decide_true, decide_false, Bool.not_true, Bool.not_false, Bool.false_eq_true, if_true, if_false, reduceIte] | skip) | refine Rf.lit (by rfl) (live_of_kind ‹_› (by decide)) ‹_› (fun c => ?_))
theorem r_field (ih : IH n) (hg : a.good) : Rf (runM (callN n) (body .field) a []) (W .prog (argsOf .field).1 (argsOf .field).2 (toP a)) (resE .field a) := by
 refine Rf.fix field.fd n ?_
 simp only [argsOf, body]
 rw [field_eq]
 refine Rf.mark ?_
 refine Rf.comes (by decide) hg (fun hc => ?_) (fun hc => ?_) <;> (try simp only [qn, reduceIte, Int.reduceEq, if_true, if_false])
 ·repeat' ((try simp only [qn, reduceIte, Int.reduceEq, if_true, if_false]); first | exact Rf.ret rfl | refine Rf.mark ?_ | refine Rf.kind ‹_› (fun x hx => ?_) | refine Rf.take ‹_› (fun b hb hbt => ?_) | refine Rf.expect (by decide) ‹_› (fun b hb => ?_) (fun b hb => ?_) | refine Rf.taken (by decide) ‹_› (fun b hc hb hbt => ?_) (fun hc => ?_) | refine Rf.comes (by decide) ‹_› (fun hc => ?_) (fun hc => ?_) | refine Rf.prec ?_ | refine Rf.close (by rfl) ‹_› (fun b hb => ?_) | refine Rf.dead (fun hd => ?_) (fun hd => ?_) | refine Rf.fail ‹_› (fun b hb => ?_) | refine Rf.none_ ‹_› (fun b hb => ?_) | refine Rf.up ‹_› (fun b hb => ?_) | refine Rf.callU ‹_› (ih.1 _ _ (by first | rfl | assumption) ‹_›) (fun r b hb hbl => ?_) | refine Rf.callI ‹_› (ih.1 _ _ (by rfl) ‹_›) (fun r b hb hbl => ?_) | refine Rf.callB ‹_› (ih.1 _ _ (by rfl) ‹_›) (fun r b hb hbl => ?_) | exact Rf.tail (ih.2 _ _ _ _ _ (by first | rfl | assumption) (by trivial) ‹_› (by first | assumption | omega)) | (refine Rf.ite (fun hc => ?_) (fun hc => ?_) <;> (try simp only [decide_eq_true_eq, gt_iff_lt, ge_iff_le, Bool.not_eq_true', decide_eq_false_iff_not, Bool.not_eq_true, ne_eq, Decidable.not_not] at hc) <;> first | exact absurd trivial hc | subst hc | simp only [hc, ne_eq, qm, decide_true, decide_false, Bool.not_true, Bool.not_false, Bool.false_eq_true, if_true, if_false, reduceIte] | skip) | refine Rf.lit (by rfl) (live_of_kind ‹_› (by decide)) ‹_› (fun c => ?_))
 ·refine Rf.lookB (W_embedded hg.took) (fun hc => ?_) (fun hc => ?_) <;> (try simp only [qn, reduceIte, Int.reduceEq, if_true, if_false])
  all_goals repeat' ((try simp only [qn, reduceIte, Int.reduceEq, if_true, if_false]); first | exact Rf.ret rfl | refine Rf.mark ?_ | refine Rf.kind ‹_› (fun x hx => ?_) | refine Rf.take ‹_› (fun b hb hbt => ?_) | refine Rf.expect (by decide) ‹_› (fun b hb => ?_) (fun b hb => ?_) | refine Rf.taken (by decide) ‹_› (fun b hc hb hbt => ?_) (fun hc => ?_) | refine Rf.comes (by decide) ‹_› (fun hc => ?_) (fun hc => ?_) | refine Rf.prec ?_ | refine Rf.close (by rfl) ‹_› (fun b hb => ?_) | refine Rf.dead (fun hd => ?_) (fun hd => ?_) | refine Rf.fail ‹_› (fun b hb => ?_) | refine Rf.none_ ‹_› (fun b hb => ?_) | refine Rf.up ‹_› (fun b hb => ?_) | refine Rf.callU ‹_› (ih.1 _ _ (by first | rfl | assumption) ‹_›) (fun r b hb hbl => ?_) | refine Rf.callI ‹_› (ih.1 _ _ (by rfl) ‹_›) (fun r b hb hbl => ?_) | refine Rf.callB ‹_› (ih.1 _ _ (by rfl) ‹_›) (fun r b hb hbl => ?_) | exact Rf.tail (ih.2 _ _ _ _ _ (by first | rfl | assumption) (by trivial) ‹_› (by first | assumption | omega)) | (refine Rf.ite (fun hc => ?_) (fun hc => ?_) <;> (try simp only [decide_eq_true_eq, gt_iff_lt, ge_iff_le, Bool.not_eq_true', decide_eq_false_iff_not, Bool.not_eq_true, ne_eq, Decidable.not_not] at hc) <;> first | exact absurd trivial hc | subst hc | simp only [hc, ne_eq, qm, decide_true, decide_false, Bool.not_true, Bool.not_false, Bool.false_eq_true, if_true, if_false, reduceIte] | skip) | refine Rf.lit (by rfl) (live_of_kind ‹_› (by decide)) ‹_› (fun c => ?_))
theorem r_flat (ih : IH n) (hg : a.good) : Rf (runM (callN n) (body .flat) a []) (W .prog (argsOf .flat).1 (argsOf .flat).2 (toP a)) (resE .flat a) := by
 refine Rf.fix flat.fd n ?_
 simp only [argsOf, body]
 rw [flat_eq]
 have := hg.len
 exact Rf.tail (ih.2 _ _ _ _ _ (by rfl) (by show (0 : Int).natAbs + a.rest.length < 2199023255552; simp; omega) hg (Nat.le_refl _))
theorem r_flatL (ih : IH n) (k : Int) (hg : a.good) (ms : List Int) (hp : Pre (.flatL k) ms a) (lim n0 : Nat) (hn : n ≤ n0) : Rf (runM (callN n) (body (.flatL k)) a ms) (loopOf (.flatL k) ms lim (n0 + 1) a) (resE (.flatL k) a) := by
 simp only [loopOf, body]
 rw [flat.l0_succ]
 have hp' : k.natAbs + a.rest.length < 2199023255552 := hp
 refine Rf.kind hg fun x hx => ?_
 refine Rf.ite (fun hc => ?_) (fun hc => ?_) <;> simp only [decide_eq_true_eq] at hc
 ·subst hc; (try simp only [qn, reduceIte, Int.reduceEq, if_true, if_false])
  repeat' ((try simp only [qn, reduceIte, Int.reduceEq, if_true, if_false]); first | exact Rf.ret rfl | refine Rf.mark ?_ | refine Rf.kind ‹_› (fun x hx => ?_) | refine Rf.take ‹_› (fun b hb hbt => ?_) | refine Rf.expect (by decide) ‹_› (fun b hb => ?_) (fun b hb => ?_) | refine Rf.taken (by decide) ‹_› (fun b hc hb hbt => ?_) (fun hc => ?_) | refine Rf.comes (by decide) ‹_› (fun hc => ?_) (fun hc => ?_) | refine Rf.prec ?_ | refine Rf.close (by rfl) ‹_› (fun b hb => ?_) | refine Rf.dead (fun hd => ?_) (fun hd => ?_) | refine Rf.fail ‹_› (fun b hb => ?_) | refine Rf.none_ ‹_› (fun b hb => ?_) | refine Rf.up ‹_› (fun b hb => ?_) | refine Rf.callU ‹_› (ih.1 _ _ (by first | rfl | assumption) ‹_›) (fun r b hb hbl => ?_) | refine Rf.callI ‹_› (ih.1 _ _ (by rfl) ‹_›) (fun r b hb hbl => ?_) | refine Rf.callB ‹_› (ih.1 _ _ (by rfl) ‹_›) (fun r b hb hbl => ?_) | exact Rf.tail (ih.2 _ _ _ _ _ (by first | rfl | assumption) (by trivial) ‹_› (by first | assumption | omega)) | (refine Rf.ite (fun hc => ?_) (fun hc => ?_) <;> (try simp only [decide_eq_true_eq, gt_iff_lt, ge_iff_le, Bool.not_eq_true', decide_eq_false_iff_not, Bool.not_eq_true, ne_eq, Decidable.not_not] at hc) <;> first | exact absurd trivial hc | subst hc | simp only [hc, ne_eq, qm, decide_true, decide_false, Bool.not_true, Bool.not_false, Bool.false_eq_true, if_true, if_false, reduceIte] | skip) | refine Rf.lit (by rfl) (live_of_kind ‹_› (by decide)) ‹_› (fun c => ?_))
 have hlt : a.take.rest.length < a.rest.length := take_lt (by rw [← hx]; exact hc)
 simp only [hc, if_false]
 refine Rf.ite (fun hc => ?_) (fun hc => ?_) <;> simp only [decide_eq_true_eq] at hc
 ·subst hc; (try simp only [qn, reduceIte, Int.reduceEq, if_true, if_false])
  refine Rf.take hg fun b hb hbt => ?_
  rw [wi _ (by omega) (by omega)]
  refine Rf.ite (fun hc => ?_) (fun hc => ?_) <;> simp only [decide_eq_true_eq] at hc
  ·rw [if_pos hc]; repeat' ((try simp only [qn, reduceIte, Int.reduceEq, if_true, if_false]); first | exact Rf.ret rfl | refine Rf.mark ?_ | refine Rf.kind ‹_› (fun x hx => ?_) | refine Rf.take ‹_› (fun b hb hbt => ?_) | refine Rf.expect (by decide) ‹_› (fun b hb => ?_) (fun b hb => ?_) | refine Rf.taken (by decide) ‹_› (fun b hc hb hbt => ?_) (fun hc => ?_) | refine Rf.comes (by decide) ‹_› (fun hc => ?_) (fun hc => ?_) | refine Rf.prec ?_ | refine Rf.close (by rfl) ‹_› (fun b hb => ?_) | refine Rf.dead (fun hd => ?_) (fun hd => ?_) | refine Rf.fail ‹_› (fun b hb => ?_) | refine Rf.none_ ‹_› (fun b hb => ?_) | refine Rf.up ‹_› (fun b hb => ?_) | refine Rf.callU ‹_› (ih.1 _ _ (by first | rfl | assumption) ‹_›) (fun r b hb hbl => ?_) | refine Rf.callI ‹_› (ih.1 _ _ (by rfl) ‹_›) (fun r b hb hbl => ?_) | refine Rf.callB ‹_› (ih.1 _ _ (by rfl) ‹_›) (fun r b hb hbl => ?_) | exact Rf.tail (ih.2 _ _ _ _ _ (by first | rfl | assumption) (by trivial) ‹_› (by first | assumption | omega)) | (refine Rf.ite (fun hc => ?_) (fun hc => ?_) <;> (try simp only [decide_eq_true_eq, gt_iff_lt, ge_iff_le, Bool.not_eq_true', decide_eq_false_iff_not, Bool.not_eq_true, ne_eq, Decidable.not_not] at hc) <;> first | exact absurd trivial hc | subst hc | simp only [hc, ne_eq, qm, decide_true, decide_false, Bool.not_true, Bool.not_false, Bool.false_eq_true, if_true, if_false, reduceIte] | skip) | refine Rf.lit (by rfl) (live_of_kind ‹_› (by decide)) ‹_› (fun c => ?_))
  ·rw [if_neg hc]
   exact Rf.tail (ih.2 _ _ _ _ _ (by rfl) (by show (k + 1).natAbs + b.rest.length < 2199023255552; rw [hbt]; omega) hb hn)
 simp only [hc, if_false]
 refine Rf.ite (fun hc => ?_) (fun hc => ?_) <;> simp only [decide_eq_true_eq] at hc
 ·subst hc; (try simp only [qn, reduceIte, Int.reduceEq, if_true, if_false])
  refine Rf.take hg fun b hb hbt => ?_
  rw [wi _ (by omega) (by omega)]
  refine Rf.ite (fun hc => ?_) (fun hc => ?_) <;> simp only [decide_eq_true_eq] at hc
  ·rw [if_pos hc]; repeat' ((try simp only [qn, reduceIte, Int.reduceEq, if_true, if_false]); first | exact Rf.ret rfl | refine Rf.mark ?_ | refine Rf.kind ‹_› (fun x hx => ?_) | refine Rf.take ‹_› (fun b hb hbt => ?_) | refine Rf.expect (by decide) ‹_› (fun b hb => ?_) (fun b hb => ?_) | refine Rf.taken (by decide) ‹_› (fun b hc hb hbt => ?_) (fun hc => ?_) | refine Rf.comes (by decide) ‹_› (fun hc => ?_) (fun hc => ?_) | refine Rf.prec ?_ | refine Rf.close (by rfl) ‹_› (fun b hb => ?_) | refine Rf.dead (fun hd => ?_) (fun hd => ?_) | refine Rf.fail ‹_› (fun b hb => ?_) | refine Rf.none_ ‹_› (fun b hb => ?_) | refine Rf.up ‹_› (fun b hb => ?_) | refine Rf.callU ‹_› (ih.1 _ _ (by first | rfl | assumption) ‹_›) (fun r b hb hbl => ?_) | refine Rf.callI ‹_› (ih.1 _ _ (by rfl) ‹_›) (fun r b hb hbl => ?_) | refine Rf.callB ‹_› (ih.1 _ _ (by rfl) ‹_›) (fun r b hb hbl => ?_) | exact Rf.tail (ih.2 _ _ _ _ _ (by first | rfl | assumption) (by trivial) ‹_› (by first | assumption | omega)) | (refine Rf.ite (fun hc => ?_) (fun hc => ?_) <;> (try simp only [decide_eq_true_eq, gt_iff_lt, ge_iff_le, Bool.not_eq_true', decide_eq_false_iff_not, Bool.not_eq_true, ne_eq, Decidable.not_not] at hc) <;> first | exact absurd trivial hc | subst hc | simp only [hc, ne_eq, qm, decide_true, decide_false, Bool.not_true, Bool.not_false, Bool.false_eq_true, if_true, if_false, reduceIte] | skip) | refine Rf.lit (by rfl) (live_of_kind ‹_› (by decide)) ‹_› (fun c => ?_))
  ·rw [if_neg hc]
   exact Rf.tail (ih.2 _ _ _ _ _ (by rfl) (by show (k - 1).natAbs + b.rest.length < 2199023255552; rw [hbt]; omega) hb hn)
 simp only [hc, if_false]
 refine Rf.take hg fun b hb hbt => ?_
 refine Rf.ite (fun hc => ?_) (fun hc => ?_) <;> simp only [decide_eq_true_eq] at hc
 ·rw [if_pos hc]; repeat' ((try simp only [qn, reduceIte, Int.reduceEq, if_true, if_false]); first | exact Rf.ret rfl | refine Rf.mark ?_ | refine Rf.kind ‹_› (fun x hx => ?_) | refine Rf.take ‹_› (fun b hb hbt => ?_) | refine Rf.expect (by decide) ‹_› (fun b hb => ?_) (fun b hb => ?_) | refine Rf.taken (by decide) ‹_› (fun b hc hb hbt => ?_) (fun hc => ?_) | refine Rf.comes (by decide) ‹_› (fun hc => ?_) (fun hc => ?_) | refine Rf.prec ?_ | refine Rf.close (by rfl) ‹_› (fun b hb => ?_) | refine Rf.dead (fun hd => ?_) (fun hd => ?_) | refine Rf.fail ‹_› (fun b hb => ?_) | refine Rf.none_ ‹_› (fun b hb => ?_) | refine Rf.up ‹_› (fun b hb => ?_) | refine Rf.callU ‹_› (ih.1 _ _ (by first | rfl | assumption) ‹_›) (fun r b hb hbl => ?_) | refine Rf.callI ‹_› (ih.1 _ _ (by rfl) ‹_›) (fun r b hb hbl => ?_) | refine Rf.callB ‹_› (ih.1 _ _ (by rfl) ‹_›) (fun r b hb hbl => ?_) | exact Rf.tail (ih.2 _ _ _ _ _ (by first | rfl | assumption) (by trivial) ‹_› (by first | assumption | omega)) | (refine Rf.ite (fun hc => ?_) (fun hc => ?_) <;> (try simp only [decide_eq_true_eq, gt_iff_lt, ge_iff_le, Bool.not_eq_true', decide_eq_false_iff_not, Bool.not_eq_true, ne_eq, Decidable.not_not] at hc) <;> first | exact absurd trivial hc | subst hc | simp only [hc, ne_eq, qm, decide_true, decide_false, Bool.not_true, Bool.not_false, Bool.false_eq_true, if_true, if_false, reduceIte] | skip) | refine Rf.lit (by rfl) (live_of_kind ‹_› (by decide)) ‹_› (fun c => ?_))
 ·rw [if_neg hc]
  exact Rf.tail (ih.2 _ _ _ _ _ (by rfl) (by show k.natAbs + b.rest.length < 2199023255552; rw [hbt]; omega) hb hn)
theorem Rf.markT {x : Option (Int × A)} {K : Int → PS → Option (AV × PS)} {e : Int → A → AV} (h : Rf x (K a.row.length (toP a)) e) : Rf x (cX W .i .prog Mark.n [.rdr 0] (toP a) K) e := by
 rw [cX_i W_Mark]; exact h
theorem r_entryM (ih : IH n) (v : Int) (u : Bool) (hu : u = decide (v ≠ 0)) (c : A) (hg : a.good) : Rf (runM (callN n) (entryM v) a [])
  (cX W .b .prog comes.n [.rdr 0, .sl .int [56]] (toP a) fun (x7 : Bool) (p8 : PS) =>
   if x7 then
   cX W .u .prog node.n [.rdr 0, .int 234, .clos entry1.n [] [.cbox (.rdr 0)]] p8 fun _ (p10 : PS) =>
   cX W .i .prog Mark.n [.rdr 0] p10 fun (x11 : Int) (p12 : PS) =>
   some (.agg [.int c.row.length, .int x11, .bool u], p12)
   else
   cX W .u .prog Type_.n [.rdr 0] p8 fun _ (p14 : PS) =>
   cX W .i .prog Mark.n [.rdr 0] p14 fun (x15 : Int) (p16 : PS) =>
   some (.agg [.int c.row.length, .int x15, .bool u], p16)) (resE .entry c) := by
 unfold entryM
 refine Rf.comes (by decide) hg (fun hc => ?_) (fun hc => ?_) <;> (try simp only [qn, reduceIte, Int.reduceEq, if_true, if_false])
 ·refine Rf.callU hg (ih.1 _ _ (by rfl) hg) fun r b hb hbl => ?_
  refine Rf.markT (Rf.ret ?_)
  rw [hu]; rfl
 ·refine Rf.callU hg (ih.1 _ _ (by rfl) hg) fun r b hb hbl => ?_
  refine Rf.markT (Rf.ret ?_)
  rw [hu]; rfl
theorem r_entry (ih : IH n) (hg : a.good) : Rf (runM (callN n) (body .entry) a []) (W .prog (argsOf .entry).1 (argsOf .entry).2 (toP a)) (resE .entry a) := by
 refine Rf.fix entry.fd n ?_
 simp only [argsOf, body]
 rw [entry_eq]
 refine Rf.markT ?_
 refine Rf.lookB (W_hasName hg.took) (fun hc => ?_) (fun hc => ?_) <;> (try simp only [qn, reduceIte, Int.reduceEq, if_true, if_false])
 ·refine Rf.callU hg (ih.1 _ _ (by rfl) hg) fun r b hb hbl => ?_
  exact r_entryM ih 1 true rfl a hb
 ·exact r_entryM ih 0 false rfl a hg
theorem r_element (ih : IH n) (hg : a.good) : Rf (runM (callN n) (body .element) a []) (W .prog (argsOf .element).1 (argsOf .element).2 (toP a)) (resE .element a) := by
 refine Rf.fix element.fd n ?_
 simp only [argsOf, body]
 rw [element_eq]
 refine Rf.mark ?_
 rw [cX_i (W_Kind hg.took)]
 show Rf (runM (callN n) (if (decide (a.kinds.getD 0 0 = 10) && decide (a.kinds.getD 1 0 = 57)) = true then go .Name (go .Sig (.close 0 228 done)) else go .union (.close 0 229 done)) a _) _ _
 by_cases h0 : a.kinds.getD 0 0 = 10
 ·rw [if_pos (decide_eq_true h0), cX_i (show W .prog Ahead.n [.rdr 0, .int 1] (toP a) = _ from W_Ahead' hg.took 1), decide_eq_true h0]
  by_cases h1 : a.kinds.getD 1 0 = 57
  ·rw [if_pos (decide_eq_true h1), decide_eq_true h1]
   simp only [Bool.and_self, if_true]
   repeat' ((try simp only [qn, reduceIte, Int.reduceEq, if_true, if_false]); first | exact Rf.ret rfl | refine Rf.mark ?_ | refine Rf.kind ‹_› (fun x hx => ?_) | refine Rf.take ‹_› (fun b hb hbt => ?_) | refine Rf.expect (by decide) ‹_› (fun b hb => ?_) (fun b hb => ?_) | refine Rf.taken (by decide) ‹_› (fun b hc hb hbt => ?_) (fun hc => ?_) | refine Rf.comes (by decide) ‹_› (fun hc => ?_) (fun hc => ?_) | refine Rf.prec ?_ | refine Rf.close (by rfl) ‹_› (fun b hb => ?_) | refine Rf.dead (fun hd => ?_) (fun hd => ?_) | refine Rf.fail ‹_› (fun b hb => ?_) | refine Rf.none_ ‹_› (fun b hb => ?_) | refine Rf.up ‹_› (fun b hb => ?_) | refine Rf.callU ‹_› (ih.1 _ _ (by first | rfl | assumption) ‹_›) (fun r b hb hbl => ?_) | refine Rf.callI ‹_› (ih.1 _ _ (by rfl) ‹_›) (fun r b hb hbl => ?_) | refine Rf.callB ‹_› (ih.1 _ _ (by rfl) ‹_›) (fun r b hb hbl => ?_) | exact Rf.tail (ih.2 _ _ _ _ _ (by first | rfl | assumption) (by trivial) ‹_› (by first | assumption | omega)) | (refine Rf.ite (fun hc => ?_) (fun hc => ?_) <;> (try simp only [decide_eq_true_eq, gt_iff_lt, ge_iff_le, Bool.not_eq_true', decide_eq_false_iff_not, Bool.not_eq_true, ne_eq, Decidable.not_not] at hc) <;> first | exact absurd trivial hc | subst hc | simp only [hc, ne_eq, qm, decide_true, decide_false, Bool.not_true, Bool.not_false, Bool.false_eq_true, if_true, if_false, reduceIte] | skip) | refine Rf.lit (by rfl) (live_of_kind ‹_› (by decide)) ‹_› (fun c => ?_))
  ·rw [if_neg (c := decide (a.kinds.getD 1 0 = 57) = true) (by simp only [decide_eq_true_eq]; exact h1), decide_eq_false h1]
   simp only [Bool.and_false, Bool.false_eq_true, if_false]
   repeat' ((try simp only [qn, reduceIte, Int.reduceEq, if_true, if_false]); first | exact Rf.ret rfl | refine Rf.mark ?_ | refine Rf.kind ‹_› (fun x hx => ?_) | refine Rf.take ‹_› (fun b hb hbt => ?_) | refine Rf.expect (by decide) ‹_› (fun b hb => ?_) (fun b hb => ?_) | refine Rf.taken (by decide) ‹_› (fun b hc hb hbt => ?_) (fun hc => ?_) | refine Rf.comes (by decide) ‹_› (fun hc => ?_) (fun hc => ?_) | refine Rf.prec ?_ | refine Rf.close (by rfl) ‹_› (fun b hb => ?_) | refine Rf.dead (fun hd => ?_) (fun hd => ?_) | refine Rf.fail ‹_› (fun b hb => ?_) | refine Rf.none_ ‹_› (fun b hb => ?_) | refine Rf.up ‹_› (fun b hb => ?_) | refine Rf.callU ‹_› (ih.1 _ _ (by first | rfl | assumption) ‹_›) (fun r b hb hbl => ?_) | refine Rf.callI ‹_› (ih.1 _ _ (by rfl) ‹_›) (fun r b hb hbl => ?_) | refine Rf.callB ‹_› (ih.1 _ _ (by rfl) ‹_›) (fun r b hb hbl => ?_) | exact Rf.tail (ih.2 _ _ _ _ _ (by first | rfl | assumption) (by trivial) ‹_› (by first | assumption | omega)) | (refine Rf.ite (fun hc => ?_) (fun hc => ?_) <;> (try simp only [decide_eq_true_eq, gt_iff_lt, ge_iff_le, Bool.not_eq_true', decide_eq_false_iff_not, Bool.not_eq_true, ne_eq, Decidable.not_not] at hc) <;> first | exact absurd trivial hc | subst hc | simp only [hc, ne_eq, qm, decide_true, decide_false, Bool.not_true, Bool.not_false, Bool.false_eq_true, if_true, if_false, reduceIte] | skip) | refine Rf.lit (by rfl) (live_of_kind ‹_› (by decide)) ‹_› (fun c => ?_))
 ·rw [if_neg (c := decide (a.kinds.getD 0 0 = 10) = true) (by simp only [decide_eq_true_eq]; exact h0), decide_eq_false h0]
  simp only [Bool.false_and, Bool.false_eq_true, if_false]
  repeat' ((try simp only [qn, reduceIte, Int.reduceEq, if_true, if_false]); first | exact Rf.ret rfl | refine Rf.mark ?_ | refine Rf.kind ‹_› (fun x hx => ?_) | refine Rf.take ‹_› (fun b hb hbt => ?_) | refine Rf.expect (by decide) ‹_› (fun b hb => ?_) (fun b hb => ?_) | refine Rf.taken (by decide) ‹_› (fun b hc hb hbt => ?_) (fun hc => ?_) | refine Rf.comes (by decide) ‹_› (fun hc => ?_) (fun hc => ?_) | refine Rf.prec ?_ | refine Rf.close (by rfl) ‹_› (fun b hb => ?_) | refine Rf.dead (fun hd => ?_) (fun hd => ?_) | refine Rf.fail ‹_› (fun b hb => ?_) | refine Rf.none_ ‹_› (fun b hb => ?_) | refine Rf.up ‹_› (fun b hb => ?_) | refine Rf.callU ‹_› (ih.1 _ _ (by first | rfl | assumption) ‹_›) (fun r b hb hbl => ?_) | refine Rf.callI ‹_› (ih.1 _ _ (by rfl) ‹_›) (fun r b hb hbl => ?_) | refine Rf.callB ‹_› (ih.1 _ _ (by rfl) ‹_›) (fun r b hb hbl => ?_) | exact Rf.tail (ih.2 _ _ _ _ _ (by first | rfl | assumption) (by trivial) ‹_› (by first | assumption | omega)) | (refine Rf.ite (fun hc => ?_) (fun hc => ?_) <;> (try simp only [decide_eq_true_eq, gt_iff_lt, ge_iff_le, Bool.not_eq_true', decide_eq_false_iff_not, Bool.not_eq_true, ne_eq, Decidable.not_not] at hc) <;> first | exact absurd trivial hc | subst hc | simp only [hc, ne_eq, qm, decide_true, decide_false, Bool.not_true, Bool.not_false, Bool.false_eq_true, if_true, if_false, reduceIte] | skip) | refine Rf.lit (by rfl) (live_of_kind ‹_› (by decide)) ‹_› (fun c => ?_))
theorem r_Params1 (ih : IH n) (hg : a.good) : Rf (runM (callN n) (body .Params1) a []) (W .prog (argsOf .Params1).1 (argsOf .Params1).2 (toP a)) (resE .Params1 a) := by
 refine Rf.fix Params1.fd n ?_
 simp only [argsOf, body]
 rw [Params1_eq]
 have hpre : ∀ b : A, Pre (.ParamsL []) (([] : List Nat).map fun h => ([] : List Int).getD h 0) b := fun b => ⟨rfl, by decide, fun m hm => by cases hm⟩
 refine Rf.expect (by decide) hg (fun b hb => ?_) (fun b hb => ?_)
 ·exact Rf.tail (ih.2 _ _ _ _ _ (by rfl) (hpre b) hb (Nat.le_refl _))
 ·exact Rf.tail (ih.2 _ _ _ _ _ (by rfl) (hpre b) hb (Nat.le_refl _))
theorem entsOf_snoc : ∀ (ms : List Int) (ns : List Bool) (f t : Int) (b : Bool), ms.length = 2 * ns.length → entsOf (ms ++ [f, t]) (ns ++ [b]) = entsOf ms ns ++ [⟨f, t, b⟩]
 | [], [], f, t, b, _ => rfl
 | [], _ :: _, f, t, b, h => by simp at h
 | [_], ns, f, t, b, h => by simp at h; omega
 | _ :: _ :: ms, [], f, t, b, h => by simp at h
 | x :: y :: ms, c :: ns, f, t, b, h => by
  simp only [List.cons_append, entsOf]
  rw [entsOf_snoc ms ns f t b (by simp only [List.length_cons] at h; omega)]
theorem entsOf_pos : ∀ (ms : List Int) (ns : List Bool), msok ms → EntPos (entsOf ms ns)
 | [], _, _ => fun e he => by simp [entsOf] at he
 | [_], _, _ => fun e he => by simp [entsOf] at he
 | _ :: _ :: _, [], _ => fun e he => by simp [entsOf] at he
 | f :: t :: ms, b :: ns, h => fun e he => by
  simp only [entsOf, List.mem_cons] at he
  rcases he with rfl | he
  ·exact ⟨h f (by simp), h t (by simp)⟩
  ·exact entsOf_pos ms ns (fun m hm => h m (by simp [hm])) e he
theorem range_getD (l : List Int) (k : Nat) (h : l.length = k) : (List.range k).map (fun i => l.getD i 0) = l := by
 subst h
 apply List.ext_getElem
 ·simp
 ·intro i h1 h2
  simp only [List.getElem_map, List.getElem_range, List.getD_eq_getElem?_getD, List.getElem?_eq_getElem h2]; rfl
theorem r_groupM (ih : IH n) (ns : List Bool) (hns : ns.length < 4294967296) (hg : a.good) (ms : List Int) (l : List Ent) (hl : entsOf ms ns = l) (hp : EntPos l) (e : Int → A → AV) (he : e = fun _ _ => .undef) (any : Bool) (ha : any = ns.any id) :
  Rf (runM (callN n) (groupM ns) a ms) (if any then
   cX W .u .prog names.n [.rdr 0, .sl .ent l] (toP a) fun _ (p30 : PS) =>
   cX W .u .prog group.n [.rdr 0, .sl .ent l, .bool any] p30 fun _ (p32 : PS) =>
   cX W .b .prog Expect.n [.rdr 0, .int 62] p32 fun (x33 : Bool) (p34 : PS) =>
   some (.undef, p34)
   else
   cX W .u .prog group.n [.rdr 0, .sl .ent l, .bool any] (toP a) fun _ (p36 : PS) =>
   cX W .b .prog Expect.n [.rdr 0, .int 62] p36 fun (x37 : Bool) (p38 : PS) =>
   some (.undef, p38)) e := by
 subst he
 unfold groupM
 rw [← ha]
 cases any with
 | true =>
  (try simp only [qn, reduceIte, Int.reduceEq, if_true, if_false])
  refine Rf.names hns hl hp hg fun b hb => ?_
  refine Rf.group hns hl hb fun c hc => ?_
  repeat' ((try simp only [qn, reduceIte, Int.reduceEq, if_true, if_false]); first | exact Rf.ret rfl | refine Rf.mark ?_ | refine Rf.kind ‹_› (fun x hx => ?_) | refine Rf.take ‹_› (fun b hb hbt => ?_) | refine Rf.expect (by decide) ‹_› (fun b hb => ?_) (fun b hb => ?_) | refine Rf.taken (by decide) ‹_› (fun b hc hb hbt => ?_) (fun hc => ?_) | refine Rf.comes (by decide) ‹_› (fun hc => ?_) (fun hc => ?_) | refine Rf.prec ?_ | refine Rf.close (by rfl) ‹_› (fun b hb => ?_) | refine Rf.dead (fun hd => ?_) (fun hd => ?_) | refine Rf.fail ‹_› (fun b hb => ?_) | refine Rf.none_ ‹_› (fun b hb => ?_) | refine Rf.up ‹_› (fun b hb => ?_) | refine Rf.callU ‹_› (ih.1 _ _ (by first | rfl | assumption) ‹_›) (fun r b hb hbl => ?_) | refine Rf.callI ‹_› (ih.1 _ _ (by rfl) ‹_›) (fun r b hb hbl => ?_) | refine Rf.callB ‹_› (ih.1 _ _ (by rfl) ‹_›) (fun r b hb hbl => ?_) | exact Rf.tail (ih.2 _ _ _ _ _ (by first | rfl | assumption) (by trivial) ‹_› (by first | assumption | omega)) | (refine Rf.ite (fun hc => ?_) (fun hc => ?_) <;> (try simp only [decide_eq_true_eq, gt_iff_lt, ge_iff_le, Bool.not_eq_true', decide_eq_false_iff_not, Bool.not_eq_true, ne_eq, Decidable.not_not] at hc) <;> first | exact absurd trivial hc | subst hc | simp only [hc, ne_eq, qm, decide_true, decide_false, Bool.not_true, Bool.not_false, Bool.false_eq_true, if_true, if_false, reduceIte] | skip) | refine Rf.lit (by rfl) (live_of_kind ‹_› (by decide)) ‹_› (fun c => ?_))
 | false =>
  (try simp only [qn, reduceIte, Int.reduceEq, if_true, if_false])
  refine Rf.group hns hl hg fun c hc => ?_
  repeat' ((try simp only [qn, reduceIte, Int.reduceEq, if_true, if_false]); first | exact Rf.ret rfl | refine Rf.mark ?_ | refine Rf.kind ‹_› (fun x hx => ?_) | refine Rf.take ‹_› (fun b hb hbt => ?_) | refine Rf.expect (by decide) ‹_› (fun b hb => ?_) (fun b hb => ?_) | refine Rf.taken (by decide) ‹_› (fun b hc hb hbt => ?_) (fun hc => ?_) | refine Rf.comes (by decide) ‹_› (fun hc => ?_) (fun hc => ?_) | refine Rf.prec ?_ | refine Rf.close (by rfl) ‹_› (fun b hb => ?_) | refine Rf.dead (fun hd => ?_) (fun hd => ?_) | refine Rf.fail ‹_› (fun b hb => ?_) | refine Rf.none_ ‹_› (fun b hb => ?_) | refine Rf.up ‹_› (fun b hb => ?_) | refine Rf.callU ‹_› (ih.1 _ _ (by first | rfl | assumption) ‹_›) (fun r b hb hbl => ?_) | refine Rf.callI ‹_› (ih.1 _ _ (by rfl) ‹_›) (fun r b hb hbl => ?_) | refine Rf.callB ‹_› (ih.1 _ _ (by rfl) ‹_›) (fun r b hb hbl => ?_) | exact Rf.tail (ih.2 _ _ _ _ _ (by first | rfl | assumption) (by trivial) ‹_› (by first | assumption | omega)) | (refine Rf.ite (fun hc => ?_) (fun hc => ?_) <;> (try simp only [decide_eq_true_eq, gt_iff_lt, ge_iff_le, Bool.not_eq_true', decide_eq_false_iff_not, Bool.not_eq_true, ne_eq, Decidable.not_not] at hc) <;> first | exact absurd trivial hc | subst hc | simp only [hc, ne_eq, qm, decide_true, decide_false, Bool.not_true, Bool.not_false, Bool.false_eq_true, if_true, if_false, reduceIte] | skip) | refine Rf.lit (by rfl) (live_of_kind ‹_› (by decide)) ‹_› (fun c => ?_))
theorem r_ParamsL (ih : IH n) (ns : List Bool) (hg : a.good) (ms : List Int) (hp : Pre (.ParamsL ns) ms a) (lim n0 : Nat) (hn : n ≤ n0) : Rf (runM (callN n) (body (.ParamsL ns)) a ms) (loopOf (.ParamsL ns) ms lim (n0 + 1) a) (resE (.ParamsL ns) a) := by
 obtain ⟨hp1, hp2, hp3⟩ := hp
 have hpos := entsOf_pos ms ns hp3
 simp only [loopOf, body]
 rw [Params1.l0_succ]
 refine Rf.dead (fun hd => ?_) (fun hd => ?_)
 rotate_left
 ·exact r_groupM ih ns (by omega) hg ms _ rfl hpos _ rfl _ rfl
 (try simp only [qn, reduceIte, Int.reduceEq, if_true, if_false])
 refine Rf.comes (by decide) hg (fun hc => ?_) (fun hc => ?_) <;> (try simp only [qn, reduceIte, Int.reduceEq, if_true, if_false])
 ·exact r_groupM ih ns (by omega) hg ms _ rfl hpos _ rfl _ rfl
 -- one entry more
 intro r b hx
 simp only [runM] at hx
 split at hx
 rotate_left
 ·cases hx
 rename_i hml0
 have hml : ms.length < 4294967264 := by simpa [hd] using hml0
 split at hx
 rotate_left
 ·cases hx
 rename_i v c hcall
 have hE := ih.1 .entry a rfl hg
 have hcg := callN_good n .entry a _ _ _ hg hcall
 split at hx
 rotate_left
 ·cases hx
 rename_i hml2
 have hWe : W .prog entry.n [.rdr 0] (toP a) = some (.agg [.int a.row.length, .int c.row.length, .bool (decide (v ≠ 0))], toP c) := hE _ _ hcall
 rw [cX_ent hWe]
 have hln := entsOf_length ms ns
 have hlen2 : (entsOf ms ns).length + ([(⟨(a.row.length : Int), (c.row.length : Int), decide (v ≠ 0)⟩ : Ent)]).length < maxRow := by
  simp only [List.length_singleton]; unfold maxRow
  omega
 rw [if_pos hlen2]
 have hms : ms ++ [(a.row.length : Int)] ++ [(c.row.length : Int)] = ms ++ [(a.row.length : Int), (c.row.length : Int)] := by simp
 rw [hms] at hx
 have hents := entsOf_snoc ms ns a.row.length c.row.length (decide (v ≠ 0)) hp1
 have hmsok : msok (ms ++ [(a.row.length : Int), (c.row.length : Int)]) := by
  intro m hm
  simp only [List.mem_append, List.mem_cons, List.not_mem_nil, or_false] at hm
  have h1 := hg.row
  have h2 := hcg.1.row
  rcases hm with hm | rfl | rfl
  ·exact hp3 m hm
  ·omega
  ·omega
 have hpos2 := entsOf_pos _ (ns ++ [decide (v ≠ 0)]) hmsok
 rw [hents] at hpos2
 have hmlen : (ms ++ [(a.row.length : Int), (c.row.length : Int)]).length = 2 * ns.length + 2 := by simp; omega
 have hany : (ns ++ [decide (v ≠ 0)]).any id = (ns.any id || decide (v ≠ 0)) := by simp
 -- what comes behind an entry
 have hbeh : ∀ any : Bool, any = (ns ++ [decide (v ≠ 0)]).any id → Rf (runM (callN n) (taken [60] fun t => if t then .call (.ParamsL (ns ++ [decide (v ≠ 0)])) (List.range (2 * ns.length + 2)) .ret else groupM (ns ++ [decide (v ≠ 0)])) c (ms ++ [(a.row.length : Int), (c.row.length : Int)]))
   (cX W .b .prog taken.n [.rdr 0, .sl .int [60]] (toP c) fun (x17 : Bool) (p18 : PS) =>
    if (!x17) then
    if any then
    cX W .u .prog names.n [.rdr 0, .sl .ent (entsOf ms ns ++ [(⟨(a.row.length : Int), (c.row.length : Int), decide (v ≠ 0)⟩ : Ent)])] p18 fun _ (p20 : PS) =>
    cX W .u .prog group.n [.rdr 0, .sl .ent (entsOf ms ns ++ [(⟨(a.row.length : Int), (c.row.length : Int), decide (v ≠ 0)⟩ : Ent)]), .bool any] p20 fun _ (p22 : PS) =>
    cX W .b .prog Expect.n [.rdr 0, .int 62] p22 fun (x23 : Bool) (p24 : PS) =>
    some (.undef, p24)
    else
    cX W .u .prog group.n [.rdr 0, .sl .ent (entsOf ms ns ++ [(⟨(a.row.length : Int), (c.row.length : Int), decide (v ≠ 0)⟩ : Ent)]), .bool any] p18 fun _ (p26 : PS) =>
    cX W .b .prog Expect.n [.rdr 0, .int 62] p26 fun (x27 : Bool) (p28 : PS) =>
    some (.undef, p28)
    else
    Params1.l0 W lim n0 (entsOf ms ns ++ [(⟨(a.row.length : Int), (c.row.length : Int), decide (v ≠ 0)⟩ : Ent)]) any p18) (resE (.ParamsL ns) a) := by
  intro any ha
  refine Rf.taken (by decide) hcg.1 (fun d hc hd hdt => ?_) (fun hc => ?_) <;> (try simp only [qn, reduceIte, Int.reduceEq, if_true, if_false])
  ·refine Rf.tail ?_
   rw [range_getD _ _ hmlen]
   have := ih.2 (.ParamsL (ns ++ [decide (v ≠ 0)])) d (ms ++ [(a.row.length : Int), (c.row.length : Int)]) lim n0 rfl ⟨by rw [hmlen]; simp; omega, by simp only [List.length_append, List.length_singleton]; omega, hmsok⟩ hd hn
   simp only [loopOf] at this
   rw [hents, ← ha] at this
   exact this
  ·exact r_groupM ih _ (by simp; omega) hcg.1 _ _ hents hpos2 _ rfl _ ha
 cases hna : ns.any id with
 | true =>
  rw [if_pos rfl]
  have := hbeh true (by rw [hany, hna]; rfl)
  exact this r b hx
 | false =>
  rw [if_neg (by decide)]
  exact hbeh (decide (v ≠ 0)) (by rw [hany, hna]; rfl) r b hx
end
theorem refs : ∀ n, IH n
 | 0 => ⟨fun pr a _ _ r b h => by simp [callN] at h, fun pr a ms lim n0 _ _ _ _ r b h => by simp [callN] at h⟩
 | n + 1 => by
  have ih := refs n
  refine ⟨fun pr a hf hg => ?_, fun pr a ms lim n0 hf hp hg hn => ?_⟩
  ·show Rf (runM (callN n) (body pr) a []) _ _
   cases pr with
   | deeper pr => simp only [fnP, Bool.and_eq_true] at hf; exact r_deeper ih hf.1 hf.2 hg
   | node k pr => simp only [fnP, Bool.and_eq_true] at hf; exact r_node ih hf.1 hf.2 hg
   | items pr => exact r_items ih hf hg
   | takeP => exact r_takeP ih hg
   | X h => exact r_X ih h hg
   | X1 h => exact r_X1 ih h hg
   | binary q h => exact r_binary ih q h hg
   | unary h => exact r_unary ih h hg
   | unary1 h => exact r_unary1 ih h hg
   | primary h => exact r_primary ih h hg
   | period => exact r_period ih hg
   | index => exact r_index ih hg
   | «unless» ks => exact r_unless ih ks (of_decide_eq_true hf) hg
   | arguments => exact r_arguments ih hg
   | value => exact r_value ih hg
   | value1 => exact r_value1 ih hg
   | values => exact r_values ih hg
   | operand => exact r_operand ih hg
   | flat => exact r_flat ih hg
   | Name => exact r_Name ih hg
   | «Type» => exact r_Type ih hg
   | form => exact r_form ih hg
   | elements => exact r_elements ih hg
   | qualified => exact r_qualified ih hg
   | field => exact r_field ih hg
   | element => exact r_element ih hg
   | union => exact r_union ih hg
   | Sig => exact r_Sig ih hg
   | Sig1 => exact r_Sig1 ih hg
   | Params => exact r_Params ih hg
   | Params1 => exact r_Params1 ih hg
   | entry => exact r_entry ih hg
   | entry1 => exact r_entry1 ih hg
   | List h => exact r_List ih h hg
   | List1 h => exact r_List1 ih h hg
   | TParams => exact r_TParams ih hg
   | TParams1 => exact r_TParams1 ih hg
   | TParams11 => exact r_TParams11 ih hg
   | _ => cases hf
  ·show Rf (runM (callN n) (body pr) a ms) _ _
   obtain ⟨n1, rfl⟩ : ∃ n1, n0 = n1 + 1 := ⟨n0 - 1, by omega⟩
   have hn : n ≤ n1 := by omega
   cases pr with
   | itemsL pr => have hf' := hf; simp only [lpP, Bool.and_eq_true] at hf; exact r_itemsL ih hf' hf.1 hf.2 hg lim n1 hn
   | binaryL q h => exact r_binaryL ih q h hg ms lim n1 hn
   | primaryL h => exact r_primaryL ih h hg ms lim n1 hn
   | indexL => exact r_indexL ih hg ms lim n1 hn
   | argsL => exact r_argsL ih hg ms lim n1 hn
   | valuesL => exact r_valuesL ih hg ms hp lim n1 hn
   | flatL k => exact r_flatL ih k hg ms hp lim n1 hn
   | formL => exact r_formL ih hg ms lim n1 hn
   | fieldL => exact r_fieldL ih hg ms lim n1 hn
   | unionL more => exact r_unionL ih more hg ms hp lim n1 hn
   | ParamsL ns => exact r_ParamsL ih ns hg ms hp lim n1 hn
   | ListL h => exact r_ListL ih h hg ms lim n1 hn
   | TParamsL more => exact r_TParamsL ih more hg ms lim n1 hn
   | TParams11L => exact r_TParams11L ih hg ms hp lim n1 hn
   | _ => cases hf
end Go.AI.Rd
end
namespace Go.AI.Rd
def Wp (m : M) (a : A) (ms : List Int) (Q : Int → A → Prop) : Prop := ∃ n r b, runM (callN n) m a ms = some (r, b) ∧ Q r b
theorem Wp.mono {m : M} {a : A} {ms : List Int} {Q Q' : Int → A → Prop} (h : Wp m a ms Q) (hq : ∀ r b, Q r b → Q' r b) : Wp m a ms Q' := by
 obtain ⟨n, r, b, h1, h2⟩ := h
 exact ⟨n, r, b, h1, hq r b h2⟩
theorem runM_le {n k : Nat} (h : n ≤ k) {m : M} {a : A} {ms : List Int} {r : Int × A} (hr : runM (callN n) m a ms = some r) : runM (callN k) m a ms = some r :=
 runM_mono (fun pr a ms r hc => callN_mono h hc) m a ms r hr
section
variable {a : A} {ms : List Int} {Q : Int → A → Prop}
theorem Wp.ret {v : Int} (h : Q v a) : Wp (.ret v) a ms Q := ⟨0, v, a, rfl, h⟩
theorem Wp.look {f : List Int → Int} {k : Int → M} (h : Wp (k (f a.kinds)) a ms Q) : Wp (.look f k) a ms Q := h
theorem Wp.lookB {f : List Int → Bool} {k : Bool → M} (h : Wp (k (f a.kinds)) a ms Q) : Wp (.lookB f k) a ms Q := h
theorem Wp.deadq {k : Bool → M} (h : Wp (k a.dead) a ms Q) : Wp (.dead k) a ms Q := h
theorem Wp.last {k : Int → M} (h : Wp (k a.last) a ms Q) : Wp (.last k) a ms Q := h
theorem Wp.take {k : M} (hr : a.room = true) (h : Wp k a.take ms Q) : Wp (.take k) a ms Q := by
 obtain ⟨n, r, b, h1, h2⟩ := h
 exact ⟨n, r, b, by simp only [runM, hr, if_true]; exact h1, h2⟩
theorem Wp.none_ {k : M} (hr : a.room = true) (h : Wp k a.none_ ms Q) : Wp (.none_ k) a ms Q := by
 obtain ⟨n, r, b, h1, h2⟩ := h
 exact ⟨n, r, b, by simp only [runM, hr, if_true]; exact h1, h2⟩
theorem Wp.mark {k : M} (hr : a.dead = true ∨ ms.length < 4294967264) (h : Wp k a (ms ++ [(a.row.length : Int)]) Q) : Wp (.mark k) a ms Q := by
 obtain ⟨n, r, b, h1, h2⟩ := h
 refine ⟨n, r, b, ?_, h2⟩
 simp only [runM]
 rw [if_pos (by rcases hr with hr | hr <;> simp [hr])]
 exact h1
theorem Wp.close {hh : Nat} {kd : Int} {k : M} (hr : a.room = true) (h : Wp k (a.close (ms.getD hh 0) kd) ms Q) : Wp (.close hh kd k) a ms Q := by
 obtain ⟨n, r, b, h1, h2⟩ := h
 exact ⟨n, r, b, by simp only [runM, hr, if_true]; exact h1, h2⟩
theorem Wp.gap {hh : Nat} {k : M} (hr : a.room = true) (h : Wp k (a.gap (ms.getD hh 0)) ms Q) : Wp (.gap hh k) a ms Q := by
 obtain ⟨n, r, b, h1, h2⟩ := h
 exact ⟨n, r, b, by simp only [runM, hr, if_true]; exact h1, h2⟩
theorem Wp.down {k : Bool → M} (h : Wp (k a.down.1) a.down.2 ms Q) : Wp (.down k) a ms Q := h
theorem Wp.up {k : M} (h : Wp k a.up ms Q) : Wp (.up k) a ms Q := h
theorem Wp.fail {c : Int} {k : M} (h : Wp k (a.fail c) ms Q) : Wp (.fail c k) a ms Q := h
theorem Wp.lit {hh : Nat} {head : Bool} {k : Bool → M} (hr : a.dead = true ∨ a.litOK (ms.getD hh 0) = true) (h : Wp (k (a.lit (ms.getD hh 0) head)) a ms Q) : Wp (.lit hh head k) a ms Q := by
 obtain ⟨n, r, b, h1, h2⟩ := h
 refine ⟨n, r, b, ?_, h2⟩
 simp only [runM]
 rw [if_pos (by rcases hr with hr | hr <;> rw [hr] <;> simp)]
 exact h1
theorem Wp.names {ns : List Bool} {k : M} (hr : a.dead = true ∨ (ns.length < 4294967264 ∧ entsOK a.row 0 (entsOf ms ns) = true)) (h : Wp k (a.names (entsOf ms ns)) ms Q) : Wp (.names ns k) a ms Q := by
 obtain ⟨n, r, b, h1, h2⟩ := h
 refine ⟨n, r, b, ?_, h2⟩
 simp only [runM]
 rw [if_pos (by rcases hr with hr | hr <;> simp [hr])]
 exact h1
theorem Wp.group {ns : List Bool} {any : Bool} {k : M} (hr : a.dead = true ∨ (ns.length < 4294967264 ∧ a.room = true ∧ entsOK a.row 0 (entsOf ms ns) = true)) (h : Wp k (a.group any (entsOf ms ns)) ms Q) : Wp (.group ns any k) a ms Q := by
 obtain ⟨n, r, b, h1, h2⟩ := h
 refine ⟨n, r, b, ?_, h2⟩
 simp only [runM]
 rw [if_pos (by rcases hr with hr | hr <;> simp [hr])]
 exact h1
theorem Wp.call {pr : Proc} {hs : List Nat} {k : Int → M} (h : Wp (body pr) a (hs.map fun h => ms.getD h 0) fun r b => Wp (k r) b ms Q) : Wp (.call pr hs k) a ms Q := by
 obtain ⟨n, r, b, h1, n2, r2, b2, h3, h4⟩ := h
 refine ⟨max (n + 1) n2, r2, b2, ?_, h4⟩
 simp only [runM]
 have h5 : callN (n + 1) pr a (hs.map fun h => ms.getD h 0) = some (r, b) := h1
 rw [callN_mono (Nat.le_max_left (n + 1) n2) h5]
 exact runM_le (Nat.le_max_right (n + 1) n2) h3
end
def SR (a b : A) : Prop := b.dg = a.dg ∧ b.pre = a.pre ∧ b.rest = a.rest ∧ b.row = a.row
theorem SR.refl (a : A) : SR a a := ⟨rfl, rfl, rfl, rfl⟩
theorem SR.trans {a b c : A} (h : SR a b) (k : SR b c) : SR a c := ⟨k.1.trans h.1, k.2.1.trans h.2.1, k.2.2.1.trans h.2.2.1, k.2.2.2.trans h.2.2.2⟩
theorem SR.dead {a b : A} (h : SR a b) (hd : a.dead = true) : b.dead = true := by unfold A.dead at hd ⊢; rw [h.1]; exact hd
theorem SR.room {a b : A} (h : SR a b) (hr : a.room = true) : b.room = true := by rw [room_iff] at hr ⊢; rw [h.2.2.1, h.2.2.2]; exact hr
def DW (m : M) : Prop := ∀ a ms, a.dead = true → a.room = true → Wp m a ms fun _ b => SR a b
theorem comesF_nil (ks : List Int) : comesF ks [] = false := by unfold comesF; simp
theorem DW.ret {v : Int} : DW (.ret v) := fun a ms _ _ => Wp.ret (SR.refl a)
theorem DW.look {f : List Int → Int} {k : Int → M} (h : DW (k (f []))) : DW (.look f k) := fun a ms hd hr => Wp.look (by rw [kinds_dead hd]; exact h a ms hd hr)
theorem DW.lookB {f : List Int → Bool} {k : Bool → M} (h : DW (k (f []))) : DW (.lookB f k) := fun a ms hd hr => Wp.lookB (by rw [kinds_dead hd]; exact h a ms hd hr)
theorem DW.kind {k : Int → M} (h : DW (k 0)) : DW (kind k) := DW.look h
theorem DW.comes {ks : List Int} {k : Bool → M} (h : DW (k false)) : DW (comes ks k) := DW.lookB (by rw [comesF_nil]; exact h)
theorem DW.deadq {k : Bool → M} (h : DW (k true)) : DW (.dead k) := fun a ms hd hr => Wp.deadq (by rw [hd]; exact h a ms hd hr)
theorem DW.take {k : M} (h : DW k) : DW (.take k) := fun a ms hd hr => Wp.take hr (by rw [take_dead hd]; exact h a ms hd hr)
theorem DW.none_ {k : M} (h : DW k) : DW (.none_ k) := fun a ms hd hr => Wp.none_ hr (by rw [none_dead hd]; exact h a ms hd hr)
theorem DW.mark {k : M} (h : DW k) : DW (.mark k) := fun a ms hd hr => Wp.mark (.inl hd) (h a _ hd hr)
theorem DW.close {hh : Nat} {kd : Int} {k : M} (h : DW k) : DW (.close hh kd k) := fun a ms hd hr => Wp.close hr (by rw [close_dead hd]; exact h a ms hd hr)
theorem DW.down {k : Bool → M} (h : DW (k false)) : DW (.down k) := fun a ms hd hr => Wp.down (by rw [down_dead hd]; exact h a ms hd hr)
theorem DW.up {k : M} (h : DW k) : DW (.up k) := fun a ms hd hr => Wp.up ((h a.up ms hd hr).mono fun r b hb => SR.trans (b := a.up) ⟨rfl, rfl, rfl, rfl⟩ hb)
theorem DW.fail {c : Int} {k : M} (h : DW k) : DW (.fail c k) := fun a ms hd hr => Wp.fail (by rw [fail_dead hd]; exact h a ms hd hr)
theorem DW.lit {hh : Nat} {head : Bool} {k : Bool → M} (h : ∀ c, DW (k c)) : DW (.lit hh head k) := fun a ms hd hr => Wp.lit (.inl hd) (h _ a ms hd hr)
theorem DW.names {ns : List Bool} {k : M} (h : DW k) : DW (.names ns k) := fun a ms hd hr => Wp.names (.inl hd) (by rw [names_dead hd]; exact h a ms hd hr)
theorem DW.group {ns : List Bool} {any : Bool} {k : M} (h : DW k) : DW (.group ns any k) := fun a ms hd hr => Wp.group (.inl hd) (by rw [group_dead hd]; exact h a ms hd hr)
theorem DW.call {pr : Proc} {hs : List Nat} {k : Int → M} (hp : DW (body pr)) (h : ∀ r, DW (k r)) : DW (.call pr hs k) := fun a ms hd hr =>
 Wp.call ((hp a _ hd hr).mono fun r b hb => (h r b ms (hb.dead hd) (hb.room hr)).mono fun r' c hc => hb.trans hc)
theorem DW.expect {c : Int} {k : M} (hc : c ≠ 0) (h : DW k) : DW (expect c k) := DW.kind (by rw [if_neg (Ne.symm hc)]; exact DW.fail h)
theorem DW.taken {ks : List Int} {k : Bool → M} (h : DW (k false)) : DW (taken ks k) := DW.comes (by rw [if_neg (by decide)]; exact h)
theorem DW.go {pr : Proc} {k : M} (hp : DW (body pr)) (h : DW k) : DW (go pr k) := DW.call hp fun _ => h
theorem DW.done : DW done := DW.ret
theorem D_deeper (pr : Proc) : DW (body (.deeper pr)) := by
 simp only [body]; exact DW.down (by rw [if_neg (by decide)]; exact DW.done)
theorem D_X (h : Bool) : DW (body (.X h)) := by simp only [body]; exact DW.go (D_deeper _) DW.done
theorem D_Type : DW (body .Type) := by simp only [body]; exact DW.go (D_deeper _) DW.done
theorem D_takeP : DW (body .takeP) := by simp only [body]; exact DW.take DW.done
theorem D_node (k : Int) {pr : Proc} (h : DW (body pr)) : DW (body (.node k pr)) := by simp only [body]; exact DW.mark (DW.go h (DW.close DW.done))
theorem D_itemsL (pr : Proc) : DW (body (.itemsL pr)) := by simp only [body, itemsM]; exact DW.deadq (by rw [if_pos rfl]; exact DW.expect (by decide) DW.done)
theorem D_items (pr : Proc) : DW (body (.items pr)) := by simp only [body]; exact DW.expect (by decide) (DW.call (D_itemsL pr) fun _ => DW.ret)
theorem D_Name : DW (body .Name) := by simp only [body]; exact DW.kind (by rw [if_neg (by decide)]; exact DW.fail DW.done)
theorem D_operand : DW (body .operand) := by
 simp only [body]
 refine DW.mark (DW.kind ?_)
 rw [if_neg (by decide), if_neg (by decide), if_neg (by decide), if_neg (by decide), if_neg (by decide)]
 exact DW.fail DW.done
theorem D_primaryL (h : Bool) : DW (body (.primaryL h)) := by
 simp only [body]
 refine DW.kind ?_
 rw [if_neg (by decide), if_neg (by decide), if_neg (by decide), if_neg (by decide)]
 exact DW.done
theorem D_primary (h : Bool) : DW (body (.primary h)) := by simp only [body]; exact DW.mark (DW.go D_operand (DW.call (D_primaryL h) fun _ => DW.ret))
theorem D_unary (h : Bool) : DW (body (.unary h)) := by
 simp only [body]
 refine DW.kind ?_
 rw [if_neg (by decide), if_neg (by decide)]
 exact DW.go (D_primary h) DW.done
theorem D_binaryL (p : Int) (h : Bool) : DW (body (.binaryL p h)) := by
 simp only [body]
 refine DW.look ?_
 rw [if_neg (by decide)]
 exact DW.done
theorem D_binary (p : Int) (h : Bool) : DW (body (.binary p h)) := by simp only [body]; exact DW.mark (DW.go (D_unary h) (DW.call (D_binaryL p h) fun _ => DW.ret))
theorem D_X1 (h : Bool) : DW (body (.X1 h)) := by simp only [body]; exact DW.go (D_binary 1 h) DW.done
theorem D_unary1 (h : Bool) : DW (body (.unary1 h)) := by simp only [body]; exact DW.go (D_unary h) DW.done
theorem D_period : DW (body .period) := by
 simp only [body]
 refine DW.kind ?_
 rw [if_neg (by decide)]
 refine DW.expect (by decide) (DW.taken ?_)
 rw [if_neg (by decide)]
 exact DW.go D_Type (DW.expect (by decide) DW.ret)
theorem D_unless (ks : List Int) : DW (body (.unless ks)) := by
 simp only [body]
 refine DW.comes ?_
 rw [if_neg (by decide)]
 exact DW.go (D_X false) DW.done
theorem D_indexL : DW (body .indexL) := by
 simp only [body]
 refine DW.taken ?_
 rw [if_neg (by decide)]
 exact DW.expect (by decide) DW.ret
theorem D_index : DW (body .index) := by
 simp only [body]
 refine DW.go (D_unless _) (DW.taken ?_)
 rw [if_neg (by decide)]
 exact DW.call D_indexL fun _ => DW.ret
theorem D_argsL : DW (body .argsL) := by simp only [body]; exact DW.deadq (by rw [if_pos rfl]; exact DW.expect (by decide) DW.done)
theorem D_arguments : DW (body .arguments) := by simp only [body]; exact DW.call D_argsL fun _ => DW.ret
theorem D_value : DW (body .value) := by
 simp only [body]
 refine DW.kind ?_
 rw [if_neg (by decide)]
 exact DW.go (D_X false) DW.done
theorem D_valuesL : DW (body .valuesL) := by simp only [body]; exact DW.deadq (by rw [if_pos rfl]; exact DW.expect (by decide) DW.done)
theorem D_values : DW (body .values) := by simp only [body]; exact DW.expect (by decide) (DW.call D_valuesL fun _ => DW.ret)
theorem D_value1 : DW (body .value1) := by simp only [body]; exact DW.go (D_node 214 D_values) DW.done
theorem D_flatL (n : Int) : DW (body (.flatL n)) := by
 simp only [body]
 refine DW.kind ?_
 rw [if_pos rfl]
 exact DW.fail DW.done
theorem D_flat : DW (body .flat) := by simp only [body]; exact DW.call (D_flatL 0) fun _ => DW.ret
theorem D_ListL (h : Bool) : DW (body (.ListL h)) := by
 simp only [body]
 refine DW.taken ?_
 rw [if_neg (by decide)]
 exact DW.done
theorem D_List1 (h : Bool) : DW (body (.List1 h)) := by simp only [body]; exact DW.go (D_X h) (DW.call (D_ListL h) fun _ => DW.ret)
theorem D_List (h : Bool) : DW (body (.List h)) := by simp only [body]; exact DW.go (D_node _ (D_List1 h)) DW.done
theorem D_form : DW (body .form) := by
 simp only [body]
 refine DW.mark (DW.kind ?_)
 rw [if_neg (by decide), if_neg (by decide), if_neg (by decide), if_neg (by decide), if_neg (by decide), if_neg (by decide), if_neg (by decide), if_neg (by decide)]
 exact DW.fail DW.done
theorem D_formL : DW (body .formL) := by
 simp only [body]
 refine DW.taken ?_
 rw [if_neg (by decide)]
 exact DW.expect (by decide) (DW.close DW.done)
theorem D_elements : DW (body .elements) := by
 simp only [body, elemsM]
 refine DW.taken ?_
 rw [if_neg (by decide)]
 refine DW.comes ?_
 rw [if_neg (by decide)]
 exact DW.go (D_X false) (DW.expect (by decide) (DW.go D_Type DW.ret))
theorem D_qualified : DW (body .qualified) := by
 simp only [body]
 refine DW.mark (DW.go D_Name (DW.taken ?_))
 rw [if_neg (by decide)]
 exact DW.done
theorem D_fieldL : DW (body .fieldL) := by
 simp only [body]
 refine DW.taken ?_
 rw [if_neg (by decide)]
 exact DW.go D_Type (DW.close DW.done)
theorem D_field : DW (body .field) := by
 simp only [body]
 refine DW.mark (DW.comes ?_)
 rw [if_neg (by decide)]
 refine DW.lookB ?_
 rw [if_neg (by decide)]
 exact DW.go D_Name (DW.call D_fieldL fun _ => DW.ret)
theorem D_unionL (more : Bool) : DW (body (.unionL more)) := by
 simp only [body]
 refine DW.mark (DW.taken ?_)
 rw [if_neg (by decide)]
 refine DW.go D_Type (DW.taken ?_)
 rw [if_neg (by decide)]
 exact DW.ret
theorem D_union : DW (body .union) := by simp only [body]; exact DW.call (D_unionL false) fun _ => DW.ret
theorem D_groupM (ns : List Bool) : DW (groupM ns) := by
 unfold groupM
 split
 ·exact DW.names (DW.group (DW.expect (by decide) DW.done))
 ·exact DW.group (DW.expect (by decide) DW.done)
theorem D_ParamsL (ns : List Bool) : DW (body (.ParamsL ns)) := by simp only [body]; exact DW.deadq (by rw [if_pos rfl]; exact D_groupM ns)
theorem D_Params1 : DW (body .Params1) := by simp only [body]; exact DW.expect (by decide) (DW.call (D_ParamsL []) fun _ => DW.ret)
theorem D_Params : DW (body .Params) := by simp only [body]; exact DW.go (D_node _ D_Params1) DW.done
theorem D_Sig1 : DW (body .Sig1) := by
 simp only [body]
 refine DW.go D_Params (DW.kind ?_)
 rw [if_neg (by decide), if_neg (by decide)]
 exact DW.none_ DW.done
theorem D_Sig : DW (body .Sig) := by simp only [body]; exact DW.go (D_node _ D_Sig1) DW.done
theorem D_element : DW (body .element) := by
 simp only [body]
 refine DW.mark (DW.lookB ?_)
 rw [if_neg (by decide)]
 exact DW.go D_union (DW.close DW.done)
theorem D_entry1 : DW (body .entry1) := by simp only [body]; exact DW.take (DW.go D_Type DW.done)
theorem D_entry : DW (body .entry) := by
 simp only [body, entryM]
 refine DW.lookB ?_
 rw [if_neg (by decide)]
 refine DW.comes ?_
 rw [if_neg (by decide)]
 exact DW.go D_Type DW.ret
theorem D_TParamsL (more : Bool) : DW (body (.TParamsL more)) := by
 simp only [body]
 split
 ·exact DW.deadq (by rw [if_pos rfl]; exact DW.expect (by decide) DW.done)
 ·exact DW.expect (by decide) DW.done
theorem D_TParams1 : DW (body .TParams1) := by simp only [body]; exact DW.expect (by decide) (DW.call (D_TParamsL true) fun _ => DW.ret)
theorem D_TParams : DW (body .TParams) := by simp only [body]; exact DW.go (D_node _ D_TParams1) DW.done
theorem D_TParams11L : DW (body .TParams11L) := by
 simp only [body]
 refine DW.taken ?_
 rw [if_neg (by decide)]
 refine DW.mark (DW.call D_union fun r => ?_)
 split
 ·exact DW.close DW.done
 ·exact DW.done
theorem D_TParams11 : DW (body .TParams11) := by simp only [body]; exact DW.go D_Name (DW.call D_TParams11L fun _ => DW.ret)
theorem D_all : ∀ pr, DW (body pr)
 | .deeper pr => D_deeper pr
 | .node k pr => D_node k (D_all pr)
 | .takeP => D_takeP
 | .items pr => D_items pr
 | .itemsL pr => D_itemsL pr
 | .X h => D_X h
 | .X1 h => D_X1 h
 | .binary q h => D_binary q h
 | .binaryL q h => D_binaryL q h
 | .unary h => D_unary h
 | .unary1 h => D_unary1 h
 | .primary h => D_primary h
 | .primaryL h => D_primaryL h
 | .period => D_period
 | .index => D_index
 | .unless ks => D_unless ks
 | .indexL => D_indexL
 | .arguments => D_arguments
 | .argsL => D_argsL
 | .value => D_value
 | .value1 => D_value1
 | .values => D_values
 | .valuesL => D_valuesL
 | .operand => D_operand
 | .flat => D_flat
 | .flatL n => D_flatL n
 | .Name => D_Name
 | .List h => D_List h
 | .List1 h => D_List1 h
 | .ListL h => D_ListL h
 | .Type => D_Type
 | .form => D_form
 | .formL => D_formL
 | .elements => D_elements
 | .qualified => D_qualified
 | .field => D_field
 | .fieldL => D_fieldL
 | .element => D_element
 | .union => D_union
 | .unionL more => D_unionL more
 | .Sig => D_Sig
 | .Sig1 => D_Sig1
 | .Params => D_Params
 | .Params1 => D_Params1
 | .ParamsL ns => D_ParamsL ns
 | .entry => D_entry
 | .entry1 => D_entry1
 | .TParams => D_TParams
 | .TParams1 => D_TParams1
 | .TParamsL more => D_TParamsL more
 | .TParams11 => D_TParams11
 | .TParams11L => D_TParams11L
theorem dead_ends : ∀ m : M, DW m := by
 intro m
 induction m with
 | ret v => exact DW.ret
 | look f k ih => exact DW.look (ih _)
 | lookB f k ih => exact DW.lookB (ih _)
 | dead k ih => exact DW.deadq (ih _)
 | take k ih => exact DW.take ih
 | none_ k ih => exact DW.none_ ih
 | mark k ih => exact DW.mark ih
 | close hh kd k ih => exact DW.close ih
 | gap hh k ih => exact fun a ms hd hr => Wp.gap hr (by rw [gap_dead hd]; exact ih a ms hd hr)
 | last k ih => exact fun a ms hd hr => Wp.last (ih _ a ms hd hr)
 | down k ih => exact DW.down (ih _)
 | up k ih => exact DW.up ih
 | fail c k ih => exact DW.fail ih
 | lit hh head k ih => exact DW.lit fun c => ih c
 | names ns k ih => exact DW.names ih
 | group ns any k ih => exact DW.group ih
 | call pr hs k ih => exact DW.call (D_all pr) fun r => ih r
end Go.AI.Rd
namespace Go.AI.Rd
def NG (x : Made) : Prop := 200 ≤ Node.k x.n ∧ litOK x.n = true
def N1 (R row : List Made) : Prop := ∃ tr x, row = R ++ (tr ++ [x]) ∧ tr.all triv = true ∧ NG x
def Op (R row : List Made) : Prop := ∃ tr x more, row = R ++ (tr ++ x :: more) ∧ tr.all triv = true ∧ NG x
def Nt (R row : List Made) : Prop := ∃ new, row = R ++ new ∧ new.any (fun x => !triv x) = true
theorem NG.not_triv {x : Made} (h : NG x) : triv x = false := by unfold triv; have := h.1; simp; omega
theorem N1.op {R row : List Made} (h : N1 R row) : Op R row := by obtain ⟨tr, x, h1, h2, h3⟩ := h; exact ⟨tr, x, [], h1, h2, h3⟩
theorem N1.pre {R row : List Made} (h : N1 R row) : R <+: row := by obtain ⟨tr, x, h1, h2, h3⟩ := h; exact ⟨_, h1.symm⟩
theorem Op.pre {R row : List Made} (h : Op R row) : R <+: row := by obtain ⟨tr, x, m, h1, h2, h3⟩ := h; exact ⟨_, h1.symm⟩
theorem Op.trans {R row row' : List Made} (h : Op R row) (hp : row <+: row') : Op R row' := by
 obtain ⟨tr, x, m, h1, h2, h3⟩ := h
 obtain ⟨n, rfl⟩ := hp
 exact ⟨tr, x, m ++ n, by rw [h1]; simp, h2, h3⟩
theorem N1.nt {R row : List Made} (h : N1 R row) : Nt R row := by
 obtain ⟨tr, x, h1, h2, h3⟩ := h
 exact ⟨_, h1, by simp [h3.not_triv]⟩
theorem Nt.trans {R row row' : List Made} (h : Nt R row) (hp : row <+: row') : Nt R row' := by
 obtain ⟨n, h1, h2⟩ := h
 obtain ⟨m, rfl⟩ := hp
 exact ⟨n ++ m, by rw [h1]; simp, by simp only [List.any_append, h2, Bool.true_or]⟩
theorem Op.nt {R row : List Made} (h : Op R row) : Nt R row := by
 obtain ⟨tr, x, m, h1, h2, h3⟩ := h
 exact ⟨_, h1, by simp [h3.not_triv]⟩
def Wl (B : Nat) (m : M) (a : A) (ms : List Int) (Q : Int → A → Prop) : Prop := Wp m a ms fun r b => b.row.length + 8 * b.rest.length ≤ B ∧ (b.dead = false → Q r b)
section
variable {B : Nat} {a : A} {ms : List Int} {Q : Int → A → Prop}
theorem Wl.dead (hB : B ≤ 4294967000) {m : M} (hd : a.dead = true) (hb : a.row.length + 8 * a.rest.length ≤ B) : Wl B m a ms Q :=
 (dead_ends m a ms hd (by rw [room_iff]; omega)).mono fun r b hb' => ⟨by rw [hb'.2.2.1, hb'.2.2.2]; exact hb, fun h => absurd h (by rw [hb'.dead hd]; decide)⟩
theorem Wl.mono {m : M} {Q' : Int → A → Prop} (h : Wl B m a ms Q) (hq : ∀ r b, b.dead = false → Q r b → Q' r b) : Wl B m a ms Q' :=
 Wp.mono h fun r b hb => ⟨hb.1, fun hd => hq r b hd (hb.2 hd)⟩
theorem Wl.ret {v : Int} (hb : a.row.length + 8 * a.rest.length ≤ B) (h : Q v a) : Wl B (.ret v) a ms Q := Wp.ret ⟨hb, fun _ => h⟩
theorem Wl.kind {k : Int → M} (h : ∀ x, a.kinds.getD 0 0 = x → Wl B (k x) a ms Q) : Wl B (kind k) a ms Q := h _ rfl
theorem Wl.look {f : List Int → Int} {k : Int → M} (h : ∀ x, f a.kinds = x → Wl B (k x) a ms Q) : Wl B (.look f k) a ms Q := h _ rfl
theorem Wl.lookB {f : List Int → Bool} {k : Bool → M} (h1 : f a.kinds = true → Wl B (k true) a ms Q) (h2 : f a.kinds = false → Wl B (k false) a ms Q) : Wl B (.lookB f k) a ms Q := by
 refine Wp.lookB ?_
 cases hc : f a.kinds with
 | true => exact h1 hc
 | false => exact h2 hc
theorem comesF_ne {ks l : List Int} (h : comesF ks l = true) : l.getD 0 0 ≠ 0 := by
 unfold comesF at h; simp only [Bool.and_eq_true, decide_eq_true_eq] at h; exact h.1
theorem comesF_mem {ks l : List Int} (h : comesF ks l = true) : l.getD 0 0 ∈ ks := by
 unfold comesF at h; simp only [Bool.and_eq_true, List.contains_iff_mem] at h; exact h.2
theorem comesF_of {ks l : List Int} (h : l.getD 0 0 ∈ ks) (h0 : l.getD 0 0 ≠ 0) : comesF ks l = true := by
 unfold comesF; simp only [Bool.and_eq_true, decide_eq_true_eq, List.contains_iff_mem]; exact ⟨h0, h⟩
theorem Wl.comes {ks : List Int} {k : Bool → M} (h1 : comesF ks a.kinds = true → a.kinds.getD 0 0 ≠ 0 → Wl B (k true) a ms Q) (h2 : comesF ks a.kinds = false → Wl B (k false) a ms Q) : Wl B (comes ks k) a ms Q :=
 Wl.lookB (fun hc => h1 hc (comesF_ne hc)) h2
theorem Wl.deadq {k : Bool → M} (hd : a.dead = false) (h : Wl B (k false) a ms Q) : Wl B (.dead k) a ms Q := Wp.deadq (by rw [hd]; exact h)
theorem Wl.mark {k : M} (hr : ms.length < 4294967264) (h : Wl B k a (ms ++ [(a.row.length : Int)]) Q) : Wl B (.mark k) a ms Q := Wp.mark (.inr hr) h
theorem Wl.fail (hB : B ≤ 4294967000) {c : Int} {k : M} (hb : a.row.length + 8 * a.rest.length ≤ B) : Wl B (.fail c k) a ms Q := by
 refine Wp.fail (Wl.dead hB (fail_dead' c) ?_)
 obtain ⟨h1, h2, h3, h4⟩ := fail_dg (a := a) c
 rw [h2, h3]; exact hb
theorem take_live (hd : a.dead = false) (hk : a.kinds.getD 0 0 ≠ 0) : a.take.dead = false ∧ a.take.opn = a.opn ∧ a.row <+: a.take.row ∧ a.take.rest.length + 1 ≤ a.rest.length ∧ a.take.row.length + 8 * a.take.rest.length + 7 ≤ a.row.length + 8 * a.rest.length := by
 have hlt := take_lt hk
 have hg : a.dg = none := by unfold A.dead at hd; cases hx : a.dg with | none => rfl | some d => rw [hx] at hd; cases hd
 unfold A.kinds at hk; rw [hg] at hk
 unfold A.take at hlt ⊢
 rw [hg] at hlt ⊢
 cases hc : cutSig a.rest with
 | none => simp only [cutSig_none hc] at hk; exact absurd rfl hk
 | some x =>
  obtain ⟨s, t, r⟩ := x
  obtain ⟨h1, _, _⟩ := cutSig_some hc
  refine ⟨?_, rfl, ⟨_, rfl⟩, ?_, ?_⟩
  ·unfold A.dead; simp only [hg]; rfl
  ·simp only [h1, List.length_append, List.length_cons]; omega
  ·simp only [h1, List.length_append, List.length_cons, List.length_map, List.length_nil]; omega
theorem Wl.take {k : M} (hB : B ≤ 4294967000) (hd : a.dead = false) (hb : a.row.length + 8 * a.rest.length ≤ B) (hk : a.kinds.getD 0 0 ≠ 0)
  (h : ∀ b, b.dead = false → b.opn = a.opn → a.row <+: b.row → b.rest.length + 1 ≤ a.rest.length → b.row.length + 8 * b.rest.length + 7 ≤ a.row.length + 8 * a.rest.length → Wl B k b ms Q) : Wl B (.take k) a ms Q := by
 obtain ⟨h1, h2, h3, h4, h5⟩ := take_live hd hk
 exact Wp.take (by rw [room_iff]; omega) (h _ h1 h2 h3 h4 h5)
theorem Wl.taken {ks : List Int} {k : Bool → M} (hB : B ≤ 4294967000) (hd : a.dead = false) (hb : a.row.length + 8 * a.rest.length ≤ B)
  (h1 : ∀ b, b.dead = false → b.opn = a.opn → a.row <+: b.row → b.rest.length + 1 ≤ a.rest.length → b.row.length + 8 * b.rest.length + 7 ≤ a.row.length + 8 * a.rest.length → Wl B (k true) b ms Q)
  (h2 : comesF ks a.kinds = false → Wl B (k false) a ms Q) : Wl B (taken ks k) a ms Q :=
 Wl.comes (fun hc hk => Wl.take hB hd hb hk h1) h2
theorem Wl.expect {c : Int} {k : M} (hc : c ≠ 0) (hB : B ≤ 4294967000) (hd : a.dead = false) (hb : a.row.length + 8 * a.rest.length ≤ B)
  (h : ∀ b, b.dead = false → b.opn = a.opn → a.row <+: b.row → b.rest.length + 1 ≤ a.rest.length → b.row.length + 8 * b.rest.length + 7 ≤ a.row.length + 8 * a.rest.length → Wl B k b ms Q) : Wl B (expect c k) a ms Q := by
 refine Wl.kind fun x hx => ?_
 split
 ·rename_i hc'; exact Wl.take hB hd hb (by rw [hx, hc']; exact hc) h
 ·exact Wl.fail hB hb
theorem Wl.ite {c : Prop} [Decidable c] {m1 m2 : M} (h1 : c → Wl B m1 a ms Q) (h2 : ¬ c → Wl B m2 a ms Q) : Wl B (if c then m1 else m2) a ms Q := by
 split
 ·exact h1 ‹_›
 ·exact h2 ‹_›
theorem none_live (hd : a.dead = false) : a.none_.dead = false ∧ a.none_.opn = a.opn ∧ a.none_.rest = a.rest ∧ N1 a.row a.none_.row ∧ a.none_.row.length = a.row.length + 1 ∧ a.none_.kinds = a.kinds := by
 have hg : a.dg = none := by unfold A.dead at hd; cases hx : a.dg with | none => rfl | some d => rw [hx] at hd; cases hd
 unfold A.none_
 rw [hg]
 refine ⟨?_, rfl, rfl, ⟨[], ⟨.mk 200 a.here a.here [], 0⟩, by simp, rfl, ?_⟩, by simp, ?_⟩
 ·rfl
 ·exact ⟨by show (200 : Int) ≤ 200; omega, by simp [Rd.litOK, Node.k]⟩
 ·unfold A.kinds; rw [hg]
theorem Wl.none_ {k : M} (hB : B ≤ 4294967000) (hd : a.dead = false) (hb : a.row.length + 8 * a.rest.length ≤ B)
  (h : ∀ b, b.dead = false → b.opn = a.opn → b.rest.length = a.rest.length → N1 a.row b.row → b.row.length = a.row.length + 1 → Wl B k b ms Q) : Wl B (.none_ k) a ms Q := by
 obtain ⟨h1, h2, h3, h4, h5, _⟩ := none_live hd
 exact Wp.none_ (by rw [room_iff]; omega) (h _ h1 h2 (by rw [h3]) h4 h5)
theorem litOK_nodeOf (kd hr : Int) (kids : List Made) (h : (kd ≠ 207 ∧ kd ≠ 208) ∨ ∃ x more, kids = x :: more ∧ NG x) : Rd.litOK (nodeOf kd hr kids).n = true := by
 unfold Rd.litOK nodeOf
 rcases h with h | ⟨x, more, rfl, hx, hl⟩
 ·simp [Node.k, h.1, h.2]
 ·unfold Rd.litOK at hl
  simp only [Bool.and_eq_true] at hl ⊢
  refine ⟨?_, ?_⟩
  ·simp only [part0, Node.kids, List.map_cons, Bool.or_eq_true]; right; exact decide_eq_true hx
  ·simp only [part0, Node.k, Node.kids, List.map_cons, List.getD_cons_zero, Bool.or_eq_true, Bool.and_eq_true, decide_eq_true_eq]
   right
   refine ⟨decide_eq_true hx, ?_⟩
   have := hl.1
   simp only [Bool.or_eq_true, decide_eq_true_eq] at this
   exact this
theorem dropTriv {tr : List Made} {x : Made} {more : List Made} (ht : tr.all triv = true) (hx : triv x = false) : (tr ++ x :: more).dropWhile triv = x :: more ∧ (tr ++ x :: more).takeWhile triv = tr := by
 have h : ∀ y ∈ tr, triv y = true := by simpa using ht
 refine ⟨?_, ?_⟩
 ·rw [List.dropWhile_append_of_pos h, List.dropWhile_cons_of_neg (by rw [hx]; decide)]
 ·rw [List.takeWhile_append_of_pos h, List.takeWhile_cons_of_neg (by rw [hx]; decide), List.append_nil]
theorem clamp_prefix {R : List Made} (hp : R <+: a.row) : a.clamp (R.length : Int) = R.length := by
 have := hp.length_le
 unfold A.clamp; omega
theorem Wl.close {hh : Nat} {kd : Int} {k : M} {R : List Made} (hm : ms.getD hh 0 = (R.length : Int)) (hB : B ≤ 4294967000) (hd : a.dead = false) (hb : a.row.length + 8 * a.rest.length + 1 ≤ B) (hp : R <+: a.row) (hk : 200 ≤ kd ∧ ((kd ≠ 207 ∧ kd ≠ 208) ∨ Op R a.row))
  (h : ∀ b, b.dead = false → b.opn = a.opn → b.rest.length = a.rest.length → N1 R b.row → b.row.length ≤ a.row.length + 1 → Wl B k b ms Q) : Wl B (.close hh kd k) a ms Q := by
 have hg : a.dg = none := by unfold A.dead at hd; cases hx : a.dg with | none => rfl | some d => rw [hx] at hd; cases hd
 refine Wp.close (by rw [room_iff]; omega) ?_
 rw [hm]
 obtain ⟨h1, h2, h3, h4⟩ := close_row hg (R.length : Int) kd
 rw [clamp_prefix hp] at h1
 obtain ⟨new, hn⟩ := hp
 have ht : a.row.take R.length = R := by rw [← hn]; simp
 have hdr : a.row.drop R.length = new := by rw [← hn]; simp
 rw [ht, hdr] at h1
 have hl : (a.close (R.length : Int) kd).row.length ≤ a.row.length + 1 := by
  rw [h1, ← hn]
  simp only [List.length_append, List.length_singleton]
  have := List.takeWhile_prefix (l := new) triv |>.length_le
  omega
 cases hdd : (a.close (R.length : Int) kd).dead with
 | true => exact Wl.dead hB hdd (by rw [h3]; omega)
 | false =>
  refine h _ hdd h4 (by rw [h3]) ⟨_, _, h1, ?_, ?_⟩ hl
  ·clear h1 hdr hn hl
   induction new with
   | nil => rfl
   | cons y r ih =>
    by_cases hy : triv y = true
    ·rw [List.takeWhile_cons_of_pos hy]; simp [hy]
    ·rw [List.takeWhile_cons_of_neg hy]; rfl
  ·unfold A.closed
   refine ⟨hk.1, litOK_nodeOf _ _ _ (hk.2.imp id fun ho => ?_)⟩
   obtain ⟨tr, x, more, e1, e2, e3⟩ := ho
   have : new = tr ++ x :: more := by rw [← hn] at e1; exact List.append_cancel_left e1
   rw [hdr, this]
   exact ⟨x, more, (dropTriv e2 e3.not_triv).1, e3⟩
theorem Wl.lit {hh : Nat} {head : Bool} {k : Bool → M} {R : List Made} (hm : ms.getD hh 0 = (R.length : Int)) (hn : Op R a.row) (h : ∀ c, Wl B (k c) a ms Q) : Wl B (.lit hh head k) a ms Q := by
 refine Wp.lit (.inr ?_) (h _)
 rw [hm]
 obtain ⟨tr, x, more, e1, e2, e3⟩ := hn
 unfold A.litOK A.first
 have : (a.row.drop ((R.length : Int)).toNat).find? (fun x => !triv x) = some x := by
  rw [e1]
  simp only [Int.toNat_natCast, List.drop_left']
  have ht : tr.find? (fun x => !triv x) = none := by simpa using e2
  rw [List.find?_append, ht]
  simp [e3.not_triv]
 rw [this]
 simp [e3.2]
theorem Wl.tt {m1 m2 : M} (h : Wl B m1 a ms Q) : Wl B (if true = true then m1 else m2) a ms Q := h
theorem Wl.ff {m1 m2 : M} (h : Wl B m2 a ms Q) : Wl B (if false = true then m1 else m2) a ms Q := h
theorem Wl.down {k : Bool → M} (hB : B ≤ 4294967000) (hd : a.dead = false) (hb : a.row.length + 8 * a.rest.length ≤ B) (h1 : a.opn ≠ 100 → Wl B (k true) { a with opn := a.opn + 1 } ms Q) : Wl B (.down k) a ms Q := by
 have hg : a.dg = none := by unfold A.dead at hd; cases hx : a.dg with | none => rfl | some d => rw [hx] at hd; cases hd
 refine Wp.down ?_
 unfold A.down
 rw [hg]
 simp only
 split
 ·refine Wl.dead hB (fail_dead' 202) ?_
  obtain ⟨h1, h2, h3, h4⟩ := fail_dg (a := a) 202
  simp only [h2, h3]; exact hb
 ·rename_i hc
  have h := h1 hc
  rw [hg] at h
  exact h
theorem Wl.up {k : M} (h : Wl B k a.up ms Q) : Wl B (.up k) a ms Q := h
theorem Wl.call {pr : Proc} {hs : List Nat} {k : Int → M} {Q1 : Int → A → Prop} (h : Wl B (body pr) a (hs.map fun h => ms.getD h 0) Q1) (hB : B ≤ 4294967000) (hk : ∀ r b, b.dead = false → Q1 r b → Wl B (k r) b ms Q) : Wl B (.call pr hs k) a ms Q := by
 refine Wp.call (Wp.mono h fun r b hb => ?_)
 cases hd : b.dead with
 | true => exact Wl.dead hB hd hb.1
 | false => exact hk r b hd (hb.2 hd)
theorem entsOK_ext {row : List Made} (new : List Made) : ∀ {l : List Ent} {m : Int}, 0 ≤ m → entsOK row m l = true → entsOK (row ++ new) m l = true
 | [], m, _, h => by simp only [entsOK, decide_eq_true_eq, List.length_append] at h ⊢; omega
 | e :: r, m, hm, h => by
  simp only [entsOK, Bool.and_eq_true, decide_eq_true_eq] at h ⊢
  obtain ⟨h1, h2, h3, h4⟩ := h
  have := entsOK_le h4
  refine ⟨h1, h2, ?_, entsOK_ext new (by omega) h4⟩
  rw [List.take_append_of_le_length (by omega)]; exact h3
theorem entsOK_snoc {row new : List Made} (hn : new.any (fun x => !triv x) = true) (b : Bool) : ∀ {l : List Ent} {m : Int}, 0 ≤ m → entsOK row m l = true → entsOK (row ++ new) m (l ++ [⟨(row.length : Int), ((row ++ new).length : Int), b⟩]) = true
 | [], m, _, h => by
  simp only [entsOK, decide_eq_true_eq] at h
  simp only [List.nil_append, entsOK, Bool.and_eq_true, decide_eq_true_eq, List.length_append]
  refine ⟨h, by omega, ?_, by omega⟩
  rw [show (((row.length + new.length : Nat) : Int)).toNat = row.length + new.length by omega, Int.toNat_natCast, List.take_of_length_le (by simp), List.drop_left']
  ·exact hn
  ·rfl
 | e :: r, m, hm, h => by
  simp only [entsOK, Bool.and_eq_true, decide_eq_true_eq] at h
  simp only [List.cons_append, entsOK, Bool.and_eq_true, decide_eq_true_eq]
  obtain ⟨h1, h2, h3, h4⟩ := h
  have := entsOK_le h4
  refine ⟨h1, h2, ?_, entsOK_snoc hn b (by omega) h4⟩
  rw [List.take_append_of_le_length (by omega)]; exact h3
theorem entsOK_ge {row : List Made} : ∀ {l : List Ent} {m : Int}, entsOK row m l = true → ∀ e ∈ l, m ≤ e.from_ ∧ m ≤ e.to_
 | [], m, _, e, he => by cases he
 | x :: r, m, h, e, he => by
  simp only [entsOK, Bool.and_eq_true, decide_eq_true_eq] at h
  obtain ⟨h1, h2, h3, h4⟩ := h
  rcases List.mem_cons.1 he with rfl | he
  ·omega
  ·have := entsOK_ge h4 e he; omega
theorem entsOf_snocT : ∀ {ns : List Bool} {ms : List Int} (f t : Int) (b : Bool), ms.length = 2 * ns.length → entsOf (ms ++ [f, t]) (ns ++ [b]) = entsOf ms ns ++ [⟨f, t, b⟩]
 | [], [], f, t, b, _ => rfl
 | [], _ :: _, f, t, b, h => by simp at h
 | n :: ns, [], f, t, b, h => by simp at h
 | n :: ns, [_], f, t, b, h => by simp at h; omega
 | n :: ns, x :: y :: ms, f, t, b, h => by
  simp only [List.cons_append, entsOf]
  rw [entsOf_snocT f t b (by simp at h; omega)]
theorem backG_mem (any : Bool) : ∀ (l : List Ent) (t f : Int) (g : Int × Int), g ∈ backG any t f l → (g.1 = f ∨ ∃ e ∈ l, g.1 = e.from_) ∧ (g.2 = t ∨ ∃ e ∈ l, g.2 = e.to_)
 | [], t, f, g, h => by
  simp only [backG, List.mem_singleton] at h; subst h; exact ⟨.inl rfl, .inl rfl⟩
 | x :: r, t, f, g, h => by
  simp only [backG] at h
  split at h
  ·obtain ⟨h1, h2⟩ := backG_mem any r t x.from_ g h
   refine ⟨.inr ?_, h2.imp id fun ⟨e, he, h⟩ => ⟨e, List.mem_cons_of_mem _ he, h⟩⟩
   rcases h1 with h1 | ⟨e, he, h1⟩
   ·exact ⟨x, List.mem_cons_self, h1⟩
   ·exact ⟨e, List.mem_cons_of_mem _ he, h1⟩
  ·rcases List.mem_cons.1 h with rfl | h
   ·exact ⟨.inl rfl, .inl rfl⟩
   ·obtain ⟨h1, h2⟩ := backG_mem any r x.to_ x.from_ g h
    refine ⟨.inr ?_, .inr ?_⟩
    ·rcases h1 with h1 | ⟨e, he, h1⟩
     ·exact ⟨x, List.mem_cons_self, h1⟩
     ·exact ⟨e, List.mem_cons_of_mem _ he, h1⟩
    ·rcases h2 with h2 | ⟨e, he, h2⟩
     ·exact ⟨x, List.mem_cons_self, h2⟩
     ·exact ⟨e, List.mem_cons_of_mem _ he, h2⟩
theorem backG_len (any : Bool) : ∀ (l : List Ent) (t f : Int), (backG any t f l).length ≤ l.length + 1
 | [], t, f => by simp [backG]
 | x :: r, t, f => by
  simp only [backG]
  split
  ·have := backG_len any r t x.from_; simp only [List.length_cons]; omega
  ·have := backG_len any r x.to_ x.from_; simp only [List.length_cons]; omega
theorem backGroups_mem {any : Bool} {l : List Ent} {g : Int × Int} (h : g ∈ backGroups any l) : (∃ e ∈ l, g.1 = e.from_) ∧ (∃ e ∈ l, g.2 = e.to_) := by
 cases l with
 | nil => simp [backGroups] at h
 | cons x r =>
  simp only [backGroups] at h
  obtain ⟨h1, h2⟩ := backG_mem any r _ _ _ h
  refine ⟨?_, ?_⟩
  ·rcases h1 with h1 | ⟨e, he, h1⟩
   ·exact ⟨x, List.mem_cons_self, h1⟩
   ·exact ⟨e, List.mem_cons_of_mem _ he, h1⟩
  ·rcases h2 with h2 | ⟨e, he, h2⟩
   ·exact ⟨x, List.mem_cons_self, h2⟩
   ·exact ⟨e, List.mem_cons_of_mem _ he, h2⟩
theorem backGroups_len (any : Bool) (l : List Ent) : (backGroups any l).length ≤ l.length := by
 cases l with
 | nil => simp [backGroups]
 | cons x r => simp only [backGroups, List.length_cons]; exact backG_len any r _ _
theorem close_opn (m k : Int) : (a.close m k).opn = a.opn := by
 cases hd : a.dg with
 | none => exact (close_row hd m k).2.2.2
 | some d => rw [close_dead (by unfold A.dead; rw [hd]; rfl)]
theorem close_len (m k : Int) : (a.close m k).row.length ≤ a.row.length + 1 := by
 cases hd : a.dg with
 | none =>
  rw [(close_row hd m k).1]
  simp only [List.length_append, List.length_singleton, List.length_take]
  have := List.takeWhile_prefix (l := a.row.drop (a.clamp m)) triv |>.length_le
  simp only [List.length_drop] at this
  omega
 | some d => rw [close_dead (by unfold A.dead; rw [hd]; rfl)]; omega
theorem close_pre {R : List Made} (hp : R <+: a.row) {m : Int} (hm : (R.length : Int) ≤ m) (k : Int) : R <+: (a.close m k).row := by
 cases hd : a.dg with
 | none =>
  rw [(close_row hd m k).1]
  refine List.IsPrefix.trans ?_ (List.prefix_append _ _)
  refine List.prefix_take_iff.2 ⟨hp, ?_⟩
  have := hp.length_le
  unfold A.clamp; omega
 | some d => rw [close_dead (by unfold A.dead; rw [hd]; rfl)]; exact hp
theorem group1_facts (g : Int × Int) : (A.group1 g a).rest = a.rest ∧ (A.group1 g a).opn = a.opn ∧ (A.group1 g a).row.length ≤ a.row.length + 1 ∧ (∀ R : List Made, R <+: a.row → (R.length : Int) ≤ g.1 → (R.length : Int) ≤ g.2 → R <+: (A.group1 g a).row) := by
 unfold A.group1
 refine ⟨close_rest _ _, close_opn _ _, ?_, fun R hp h1 h2 => ?_⟩
 ·have := close_len (a := { a with row := a.row.take g.2.toNat }) g.1 233
  simp only [List.length_append, List.length_drop, List.length_take] at this ⊢
  omega
 ·refine List.IsPrefix.trans (close_pre ?_ h1 233) (List.prefix_append _ _)
  exact List.prefix_take_iff.2 ⟨hp, by omega⟩
theorem groups_facts : ∀ (gs : List (Int × Int)) (a : A), (gs.foldl (fun b g => A.group1 g b) a).rest = a.rest ∧ (gs.foldl (fun b g => A.group1 g b) a).opn = a.opn ∧ (gs.foldl (fun b g => A.group1 g b) a).row.length ≤ a.row.length + gs.length ∧ (∀ R : List Made, R <+: a.row → (∀ g ∈ gs, (R.length : Int) ≤ g.1 ∧ (R.length : Int) ≤ g.2) → R <+: (gs.foldl (fun b g => A.group1 g b) a).row)
 | [], a => ⟨rfl, rfl, Nat.le_refl _, fun R hp _ => hp⟩
 | g :: gs, a => by
  obtain ⟨h1, h2, h3, h4⟩ := group1_facts (a := a) g
  obtain ⟨i1, i2, i3, i4⟩ := groups_facts gs (A.group1 g a)
  simp only [List.foldl_cons, List.length_cons]
  refine ⟨i1.trans h1, i2.trans h2, by omega, fun R hp hg => ?_⟩
  obtain ⟨g1, g2⟩ := hg g List.mem_cons_self
  exact i4 R (h4 R hp g1 g2) fun x hx => hg x (List.mem_cons_of_mem _ hx)
theorem group_facts (any : Bool) (l : List Ent) : (a.group any l).rest = a.rest ∧ (a.group any l).opn = a.opn ∧ (a.group any l).row.length ≤ a.row.length + l.length ∧ (∀ R : List Made, R <+: a.row → entsOK a.row R.length l = true → R <+: (a.group any l).row) := by
 unfold A.group
 split
 ·exact ⟨rfl, rfl, Nat.le_add_right _ _, fun R hp _ => hp⟩
 ·obtain ⟨h1, h2, h3, h4⟩ := groups_facts (backGroups any l.reverse) a
  refine ⟨h1, h2, ?_, fun R hp ho => h4 R hp fun g hg => ?_⟩
  ·have := backGroups_len any l.reverse
   rw [List.length_reverse] at this
   omega
  ·obtain ⟨⟨e, he, e1⟩, ⟨f, hf, f1⟩⟩ := backGroups_mem hg
   have x1 := entsOK_ge ho e (List.mem_reverse.1 he)
   have x2 := entsOK_ge ho f (List.mem_reverse.1 hf)
   omega
theorem Wl.group {ns : List Bool} {any : Bool} {k : M} (hB : B ≤ 4294967000) (hd : a.dead = false) (hb : a.row.length + 8 * a.rest.length + ns.length ≤ B) (he : entsOK a.row 0 (entsOf ms ns) = true)
  (h : ∀ b, b.dead = false → b.opn = a.opn → b.rest.length = a.rest.length → b.row.length ≤ a.row.length + ns.length → (∀ R : List Made, R <+: a.row → entsOK a.row R.length (entsOf ms ns) = true → R <+: b.row) → Wl B k b ms Q) : Wl B (.group ns any k) a ms Q := by
 obtain ⟨h1, h2, h3, h4⟩ := group_facts (a := a) any (entsOf ms ns)
 have := entsOf_length ms ns
 refine Wp.group (.inr ⟨by omega, by rw [room_iff]; omega, he⟩) ?_
 cases hdd : (a.group any (entsOf ms ns)).dead with
 | true => exact Wl.dead hB hdd (by rw [h1]; omega)
 | false => exact h _ hdd h2 (by rw [h1]) (by omega) h4
theorem Wl.names {ns : List Bool} {k : M} (hB : B ≤ 4294967000) (hd : a.dead = false) (hb : a.row.length + 8 * a.rest.length + ns.length ≤ B) (he : entsOK a.row 0 (entsOf ms ns) = true) (h : Wl B k a ms Q) : Wl B (.names ns k) a ms Q := by
 refine Wp.names (.inr ⟨by omega, he⟩) ?_
 unfold A.names
 split
 ·refine Wl.dead hB (fail_dead' 201) ?_
  obtain ⟨h1, h2, h3, h4⟩ := fail_dg (a := a) 201
  rw [h2, h3]; omega
 ·exact h
theorem range_mapT : ∀ (ms : List Int), (List.range ms.length).map (fun h => ms.getD h 0) = ms := by
 intro ms
 apply List.ext_getElem
 ·simp
 ·intro i h1 h2
  simp at h1
  simp [h1]
end
end Go.AI.Rd
