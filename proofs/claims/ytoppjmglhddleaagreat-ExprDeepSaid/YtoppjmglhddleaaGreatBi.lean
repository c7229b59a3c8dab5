/- DERIVED. THE EVALUATOR, THE READER, THE SCANNER: lemmas for Deep. -/
import Derived.Test.YtoppjmglhddleaaGreatBh
import Derived.Test.YtoppjmglhddleaaGreatBg
set_option linter.unusedVariables false
set_option linter.unusedSimpArgs false
section
namespace Go.AI.Rd
def cl : Proc → Nat × List AV × List AV
 | .takeP => (Take.n, [.rdr 0], [])
 | .X1 h => (X1.n, [], [.cbox (.rdr 0), .cbox (.bool h)])
 | .unary1 h => (unary1.n, [], [.cbox (.rdr 0), .cbox (.bool h)])
 | .flat => (flat.n, [.rdr 0], [])
 | .values => (values.n, [.rdr 0], [])
 | .form => (form.n, [.rdr 0], [])
 | .field => (field.n, [.rdr 0], [])
 | .element => (element.n, [.rdr 0], [])
 | .value1 => (value1.n, [], [.cbox (.rdr 0)])
 | .Sig1 => (Sig1.n, [], [.cbox (.rdr 0)])
 | .Params1 => (Params1.n, [], [.cbox (.rdr 0)])
 | .entry1 => (entry1.n, [], [.cbox (.rdr 0)])
 | _ => (0, [], [])
def isC : Proc → Bool
 | .takeP => true
 | .X1 _ => true
 | .unary1 _ => true
 | .flat => true
 | .values => true
 | .form => true
 | .field => true
 | .element => true
 | .value1 => true
 | .Sig1 => true
 | .Params1 => true
 | .entry1 => true
 | _ => false
def argsOf : Proc → Nat × List AV
 | .deeper pr => (deeper.n, [.rdr 0, .clos (cl pr).1 (cl pr).2.1 (cl pr).2.2])
 | .node k pr => (node.n, [.rdr 0, .int k, .clos (cl pr).1 (cl pr).2.1 (cl pr).2.2])
 | .items pr => (items.n, [.rdr 0, .clos (cl pr).1 (cl pr).2.1 (cl pr).2.2])
 | .takeP => (Take.n, [.rdr 0])
 | .X h => (X.n, [.rdr 0, .bool h])
 | .X1 h => (X1.n, [.cbox (.rdr 0), .cbox (.bool h)])
 | .binary q h => (binary.n, [.rdr 0, .int q, .bool h])
 | .unary h => (unary.n, [.rdr 0, .bool h])
 | .unary1 h => (unary1.n, [.cbox (.rdr 0), .cbox (.bool h)])
 | .primary h => (primary.n, [.rdr 0, .bool h])
 | .period => (period.n, [.rdr 0])
 | .index => (index.n, [.rdr 0])
 | .unless ks => (unless_.n, [.rdr 0, .sl .int ks])
 | .arguments => (arguments.n, [.rdr 0])
 | .value => (value.n, [.rdr 0])
 | .value1 => (value1.n, [.cbox (.rdr 0)])
 | .values => (values.n, [.rdr 0])
 | .operand => (operand.n, [.rdr 0])
 | .flat => (flat.n, [.rdr 0])
 | .Name => (Name.n, [.rdr 0])
 | .Type => (Type_.n, [.rdr 0])
 | .form => (form.n, [.rdr 0])
 | .elements => (elements.n, [.rdr 0])
 | .qualified => (qualified.n, [.rdr 0])
 | .field => (field.n, [.rdr 0])
 | .element => (element.n, [.rdr 0])
 | .union => (union.n, [.rdr 0])
 | .Sig => (Sig.n, [.rdr 0])
 | .Sig1 => (Sig1.n, [.cbox (.rdr 0)])
 | .Params => (Params.n, [.rdr 0])
 | .Params1 => (Params1.n, [.cbox (.rdr 0)])
 | .entry => (entry.n, [.rdr 0])
 | .entry1 => (entry1.n, [.cbox (.rdr 0)])
 | _ => (0, [])
def fnP : Proc → Bool
 | .deeper pr => isC pr && fnP pr
 | .node _ pr => isC pr && fnP pr
 | .items pr => isC pr && fnP pr
 | .takeP | .X _ | .X1 _ | .binary _ _ | .unary _ | .unary1 _ | .primary _ | .period | .index | .arguments | .value | .value1 | .values | .operand | .flat | .Name | .Type | .form | .elements | .qualified | .field | .element | .union | .Sig | .Sig1 | .Params | .Params1 | .entry | .entry1 => true
 | .unless ks => decide (ks.length < 1099511627776)
 | _ => false
def resE : Proc → A → Int → A → AV
 | .period, _ => fun r _ => .int r
 | .index, _ => fun r _ => .int r
 | .indexL, _ => fun r _ => .int r
 | .elements, _ => fun r _ => .int r
 | .unless _, _ => fun r _ => .bool (decide (r ≠ 0))
 | .union, _ => fun r _ => .bool (decide (r ≠ 0))
 | .unionL _, _ => fun r _ => .bool (decide (r ≠ 0))
 | .entry, a => fun r b => .agg [.int a.row.length, .int b.row.length, .bool (decide (r ≠ 0))]
 | _, _ => fun _ _ => .undef
noncomputable def loopOf : Proc → List Int → Nat → Nat → A → Option (AV × PS)
 | .itemsL pr, _, lim, n0, a => items.l0 W lim n0 (cl pr).1 (cl pr).2.1 (cl pr).2.2 (toP a)
 | .binaryL q h, ms, lim, n0, a => binary.l0 W lim n0 q h (ms.getD 0 0) (precF (a.kinds.getD 0 0)) (toP a)
 | .primaryL h, ms, lim, n0, a => primary.l0 W lim n0 h (ms.getD 0 0) (toP a)
 | .indexL, _, lim, n0, a => index.l0 W lim n0 (toP a)
 | .argsL, _, lim, n0, a => arguments.l0 W lim n0 (toP a)
 | .valuesL, _, lim, n0, a => values.l0 W lim n0 (toP a)
 | .flatL k, _, lim, n0, a => flat.l0 W lim n0 k (toP a)
 | .formL, ms, lim, n0, a => form.l1 W lim n0 (ms.getD 0 0) (toP a)
 | .fieldL, ms, lim, n0, a => field.l1 W lim n0 (ms.getD 0 0) (toP a)
 | .unionL more, _, lim, n0, a => union.l0 W lim n0 more (toP a)
 | .ParamsL ns, ms, lim, n0, a => Params1.l0 W lim n0 (entsOf ms ns) (ns.any id) (toP a)
 | _, _, _, _, _ => none
def lpP : Proc → Bool
 | .itemsL pr => isC pr && fnP pr
 | .binaryL _ _ | .primaryL _ | .indexL | .argsL | .valuesL | .flatL _ | .formL | .fieldL | .unionL _ | .ParamsL _ => true
 | _ => false
def msok (ms : List Int) : Prop := ∀ m ∈ ms, 0 ≤ m ∧ m < 4294967296
def Pre : Proc → List Int → A → Prop
 | .flatL k, _, a => k.natAbs + a.rest.length < 2199023255552
 | .valuesL, ms, _ => ms = []
 | .unionL _, ms, _ => ms = []
 | .TParams11L, ms, _ => ms = []
 | .ParamsL ns, ms, _ => ms.length = 2 * ns.length ∧ ns.length < 4294967290 ∧ msok ms
 | _, _, _ => True
def IH (n : Nat) : Prop :=
 (∀ pr a, fnP pr = true → a.good → Rf (callN n pr a []) (W .prog (argsOf pr).1 (argsOf pr).2 (toP a)) (resE pr a)) ∧
 (∀ pr a ms lim n0, lpP pr = true → Pre pr ms a → a.good → n ≤ n0 → Rf (callN n pr a ms) (loopOf pr ms lim n0 a) (resE pr a))
section
variable {n : Nat} {a : A} {ms : List Int}
theorem Rf.callF {pr : Proc} {k : Int → M} {f : Nat} {args : List AV} {K : Unit → PS → Option (AV × PS)} {e : Int → A → AV} (ih : IH n) (hg : a.good) (hp : fnP pr = true) (ha : argsOf pr = (f, args))
  (h : ∀ r b, b.good → b.rest.length ≤ a.rest.length → Rf (runM (callN n) (k r) b ms) (K () (toP b)) e) : Rf (runM (callN n) (.call pr [] k) a ms) (cX W .u .prog f args (toP a) K) e :=
 Rf.callU hg (by have := ih.1 pr a hp hg; rw [ha] at this; exact this) h
theorem Rf.callFI {pr : Proc} {k : Int → M} {f : Nat} {args : List AV} {K : Int → PS → Option (AV × PS)} {e : Int → A → AV} (ih : IH n) (hg : a.good) (hp : fnP pr = true) (ha : argsOf pr = (f, args)) (he : resE pr a = fun r _ => .int r)
  (h : ∀ r b, b.good → b.rest.length ≤ a.rest.length → Rf (runM (callN n) (k r) b ms) (K r (toP b)) e) : Rf (runM (callN n) (.call pr [] k) a ms) (cX W .i .prog f args (toP a) K) e :=
 Rf.callI hg (by have := ih.1 pr a hp hg; rw [ha, he] at this; exact this) h
theorem Rf.callFB {pr : Proc} {k : Int → M} {f : Nat} {args : List AV} {K : Bool → PS → Option (AV × PS)} {e : Int → A → AV} (ih : IH n) (hg : a.good) (hp : fnP pr = true) (ha : argsOf pr = (f, args)) (he : resE pr a = fun r _ => .bool (decide (r ≠ 0)))
  (h : ∀ r b, b.good → b.rest.length ≤ a.rest.length → Rf (runM (callN n) (k r) b ms) (K (decide (r ≠ 0)) (toP b)) e) : Rf (runM (callN n) (.call pr [] k) a ms) (cX W .b .prog f args (toP a) K) e :=
 Rf.callB hg (by have := ih.1 pr a hp hg; rw [ha, he] at this; exact this) h
theorem Rf.tailL {pr : Proc} {hs : List Nat} {y : Option (AV × PS)} {e : Int → A → AV} (ih : IH n) (lim n0 : Nat) (hg : a.good) (hp : lpP pr = true) (hpre : Pre pr (hs.map fun h => ms.getD h 0) a) (hn : n ≤ n0) (hy : loopOf pr (hs.map fun h => ms.getD h 0) lim n0 a = y) (he : resE pr a = e) : Rf (runM (callN n) (.call pr hs .ret) a ms) y e := by
 subst hy; subst he
 exact Rf.tail (ih.2 _ _ _ _ _ hp hpre hg hn)
theorem ihC (ih : IH n) {pr : Proc} (hc : isC pr = true) (hf : fnP pr = true) (hg : a.good) : Rf (callN n pr a []) (W .prog (cl pr).1 ((cl pr).2.1 ++ ([] ++ (cl pr).2.2)) (toP a)) (resE pr a) := by
 have := ih.1 pr a hf hg
 cases pr <;> first | exact this | (cases hc)
theorem Rf.any {x : Option (Int × A)} {y : Option (AV × PS)} {e f : Int → A → AV} (h : Rf x y e) (he : e = f) : Rf x y f := he ▸ h
theorem r_deeper (ih : IH n) {pr : Proc} (hc : isC pr = true) (hf : fnP pr = true) (hg : a.good) : Rf (runM (callN n) (body (.deeper pr)) a ms) (W .prog deeper.n [.rdr 0, .clos (cl pr).1 (cl pr).2.1 (cl pr).2.2] (toP a)) (fun _ _ => .undef) := by
 refine Rf.fix deeper.fd n ?_
 rw [deeper_eq]
 refine Rf.down hg fun b c hb => ?_
 cases c with
 | true =>
  (try simp only [qn, reduceIte, Int.reduceEq, if_true, if_false])
  refine Rf.callU hb (ihC ih hc hf hb) fun r d hd hl => ?_
  repeat' ((try simp only [qn, reduceIte, Int.reduceEq, if_true, if_false]); first | exact Rf.ret rfl | refine Rf.mark ?_ | refine Rf.kind ‹_› (fun x hx => ?_) | refine Rf.take ‹_› (fun b hb hbt => ?_) | refine Rf.expect (by decide) ‹_› (fun b hb => ?_) (fun b hb => ?_) | refine Rf.taken (by decide) ‹_› (fun b hc hb hbt => ?_) (fun hc => ?_) | refine Rf.comes (by decide) ‹_› (fun hc => ?_) (fun hc => ?_) | refine Rf.prec ?_ | refine Rf.close (by rfl) ‹_› (fun b hb => ?_) | refine Rf.dead (fun hd => ?_) (fun hd => ?_) | refine Rf.fail ‹_› (fun b hb => ?_) | refine Rf.none_ ‹_› (fun b hb => ?_) | refine Rf.up ‹_› (fun b hb => ?_) | refine Rf.callU ‹_› (ih.1 _ _ (by first | rfl | assumption) ‹_›) (fun r b hb hbl => ?_) | refine Rf.callI ‹_› (ih.1 _ _ (by rfl) ‹_›) (fun r b hb hbl => ?_) | refine Rf.callB ‹_› (ih.1 _ _ (by rfl) ‹_›) (fun r b hb hbl => ?_) | exact Rf.tail (ih.2 _ _ _ _ _ (by first | rfl | assumption) (by trivial) ‹_› (by first | assumption | omega)) | (refine Rf.ite (fun hc => ?_) (fun hc => ?_) <;> (try simp only [decide_eq_true_eq, gt_iff_lt, ge_iff_le, Bool.not_eq_true', decide_eq_false_iff_not, Bool.not_eq_true, ne_eq, Decidable.not_not] at hc) <;> first | exact absurd trivial hc | subst hc | simp only [hc, ne_eq, qm, decide_true, decide_false, Bool.not_true, Bool.not_false, Bool.false_eq_true, if_true, if_false, reduceIte] | skip) | refine Rf.lit (by rfl) (live_of_kind ‹_› (by decide)) ‹_› (fun c => ?_))
 | false => repeat' ((try simp only [qn, reduceIte, Int.reduceEq, if_true, if_false]); first | exact Rf.ret rfl | refine Rf.mark ?_ | refine Rf.kind ‹_› (fun x hx => ?_) | refine Rf.take ‹_› (fun b hb hbt => ?_) | refine Rf.expect (by decide) ‹_› (fun b hb => ?_) (fun b hb => ?_) | refine Rf.taken (by decide) ‹_› (fun b hc hb hbt => ?_) (fun hc => ?_) | refine Rf.comes (by decide) ‹_› (fun hc => ?_) (fun hc => ?_) | refine Rf.prec ?_ | refine Rf.close (by rfl) ‹_› (fun b hb => ?_) | refine Rf.dead (fun hd => ?_) (fun hd => ?_) | refine Rf.fail ‹_› (fun b hb => ?_) | refine Rf.none_ ‹_› (fun b hb => ?_) | refine Rf.up ‹_› (fun b hb => ?_) | refine Rf.callU ‹_› (ih.1 _ _ (by first | rfl | assumption) ‹_›) (fun r b hb hbl => ?_) | refine Rf.callI ‹_› (ih.1 _ _ (by rfl) ‹_›) (fun r b hb hbl => ?_) | refine Rf.callB ‹_› (ih.1 _ _ (by rfl) ‹_›) (fun r b hb hbl => ?_) | exact Rf.tail (ih.2 _ _ _ _ _ (by first | rfl | assumption) (by trivial) ‹_› (by first | assumption | omega)) | (refine Rf.ite (fun hc => ?_) (fun hc => ?_) <;> (try simp only [decide_eq_true_eq, gt_iff_lt, ge_iff_le, Bool.not_eq_true', decide_eq_false_iff_not, Bool.not_eq_true, ne_eq, Decidable.not_not] at hc) <;> first | exact absurd trivial hc | subst hc | simp only [hc, ne_eq, qm, decide_true, decide_false, Bool.not_true, Bool.not_false, Bool.false_eq_true, if_true, if_false, reduceIte] | skip) | refine Rf.lit (by rfl) (live_of_kind ‹_› (by decide)) ‹_› (fun c => ?_))
theorem r_node (ih : IH n) {k : Int} {pr : Proc} (hc : isC pr = true) (hf : fnP pr = true) (hg : a.good) : Rf (runM (callN n) (body (.node k pr)) a []) (W .prog node.n [.rdr 0, .int k, .clos (cl pr).1 (cl pr).2.1 (cl pr).2.2] (toP a)) (fun _ _ => .undef) := by
 refine Rf.fix node.fd n ?_
 rw [node_eq]
 refine Rf.mark ?_
 refine Rf.callU hg (ihC ih hc hf hg) fun r d hd hl => ?_
 repeat' ((try simp only [qn, reduceIte, Int.reduceEq, if_true, if_false]); first | exact Rf.ret rfl | refine Rf.mark ?_ | refine Rf.kind ‹_› (fun x hx => ?_) | refine Rf.take ‹_› (fun b hb hbt => ?_) | refine Rf.expect (by decide) ‹_› (fun b hb => ?_) (fun b hb => ?_) | refine Rf.taken (by decide) ‹_› (fun b hc hb hbt => ?_) (fun hc => ?_) | refine Rf.comes (by decide) ‹_› (fun hc => ?_) (fun hc => ?_) | refine Rf.prec ?_ | refine Rf.close (by rfl) ‹_› (fun b hb => ?_) | refine Rf.dead (fun hd => ?_) (fun hd => ?_) | refine Rf.fail ‹_› (fun b hb => ?_) | refine Rf.none_ ‹_› (fun b hb => ?_) | refine Rf.up ‹_› (fun b hb => ?_) | refine Rf.callU ‹_› (ih.1 _ _ (by first | rfl | assumption) ‹_›) (fun r b hb hbl => ?_) | refine Rf.callI ‹_› (ih.1 _ _ (by rfl) ‹_›) (fun r b hb hbl => ?_) | refine Rf.callB ‹_› (ih.1 _ _ (by rfl) ‹_›) (fun r b hb hbl => ?_) | exact Rf.tail (ih.2 _ _ _ _ _ (by first | rfl | assumption) (by trivial) ‹_› (by first | assumption | omega)) | (refine Rf.ite (fun hc => ?_) (fun hc => ?_) <;> (try simp only [decide_eq_true_eq, gt_iff_lt, ge_iff_le, Bool.not_eq_true', decide_eq_false_iff_not, Bool.not_eq_true, ne_eq, Decidable.not_not] at hc) <;> first | exact absurd trivial hc | subst hc | simp only [hc, ne_eq, qm, decide_true, decide_false, Bool.not_true, Bool.not_false, Bool.false_eq_true, if_true, if_false, reduceIte] | skip) | refine Rf.lit (by rfl) (live_of_kind ‹_› (by decide)) ‹_› (fun c => ?_))
theorem r_items (ih : IH n) {pr : Proc} (hc : lpP (.itemsL pr) = true) (hg : a.good) : Rf (runM (callN n) (body (.items pr)) a ms) (W .prog items.n [.rdr 0, .clos (cl pr).1 (cl pr).2.1 (cl pr).2.2] (toP a)) (fun _ _ => .undef) := by
 refine Rf.fix items.fd n ?_
 rw [items_eq]
 repeat' ((try simp only [qn, reduceIte, Int.reduceEq, if_true, if_false]); first | exact Rf.ret rfl | refine Rf.mark ?_ | refine Rf.kind ‹_› (fun x hx => ?_) | refine Rf.take ‹_› (fun b hb hbt => ?_) | refine Rf.expect (by decide) ‹_› (fun b hb => ?_) (fun b hb => ?_) | refine Rf.taken (by decide) ‹_› (fun b hc hb hbt => ?_) (fun hc => ?_) | refine Rf.comes (by decide) ‹_› (fun hc => ?_) (fun hc => ?_) | refine Rf.prec ?_ | refine Rf.close (by rfl) ‹_› (fun b hb => ?_) | refine Rf.dead (fun hd => ?_) (fun hd => ?_) | refine Rf.fail ‹_› (fun b hb => ?_) | refine Rf.none_ ‹_› (fun b hb => ?_) | refine Rf.up ‹_› (fun b hb => ?_) | refine Rf.callU ‹_› (ih.1 _ _ (by first | rfl | assumption) ‹_›) (fun r b hb hbl => ?_) | refine Rf.callI ‹_› (ih.1 _ _ (by rfl) ‹_›) (fun r b hb hbl => ?_) | refine Rf.callB ‹_› (ih.1 _ _ (by rfl) ‹_›) (fun r b hb hbl => ?_) | exact Rf.tail (ih.2 _ _ _ _ _ (by first | rfl | assumption) (by trivial) ‹_› (by first | assumption | omega)) | (refine Rf.ite (fun hc => ?_) (fun hc => ?_) <;> (try simp only [decide_eq_true_eq, gt_iff_lt, ge_iff_le, Bool.not_eq_true', decide_eq_false_iff_not, Bool.not_eq_true, ne_eq, Decidable.not_not] at hc) <;> first | exact absurd trivial hc | subst hc | simp only [hc, ne_eq, qm, decide_true, decide_false, Bool.not_true, Bool.not_false, Bool.false_eq_true, if_true, if_false, reduceIte] | skip) | refine Rf.lit (by rfl) (live_of_kind ‹_› (by decide)) ‹_› (fun c => ?_))
theorem r_itemsL (ih : IH n) {pr : Proc} (hp : lpP (.itemsL pr) = true) (hc : isC pr = true) (hf : fnP pr = true) (hg : a.good) (lim n0 : Nat) (hn : n ≤ n0) : Rf (runM (callN n) (body (.itemsL pr)) a ms) (items.l0 W lim (n0 + 1) (cl pr).1 (cl pr).2.1 (cl pr).2.2 (toP a)) (fun _ _ => .undef) := by
 rw [items.l0_succ]
 refine Rf.dead (fun hd => ?_) (fun hd => ?_)
 ·(try simp only [qn, reduceIte, Int.reduceEq, if_true, if_false])
  refine Rf.comes (by decide) hg (fun hc => ?_) (fun hcc => ?_)
  ·(try simp only [qn, reduceIte, Int.reduceEq, if_true, if_false])
   repeat' ((try simp only [qn, reduceIte, Int.reduceEq, if_true, if_false]); first | exact Rf.ret rfl | refine Rf.mark ?_ | refine Rf.kind ‹_› (fun x hx => ?_) | refine Rf.take ‹_› (fun b hb hbt => ?_) | refine Rf.expect (by decide) ‹_› (fun b hb => ?_) (fun b hb => ?_) | refine Rf.taken (by decide) ‹_› (fun b hc hb hbt => ?_) (fun hc => ?_) | refine Rf.comes (by decide) ‹_› (fun hc => ?_) (fun hc => ?_) | refine Rf.prec ?_ | refine Rf.close (by rfl) ‹_› (fun b hb => ?_) | refine Rf.dead (fun hd => ?_) (fun hd => ?_) | refine Rf.fail ‹_› (fun b hb => ?_) | refine Rf.none_ ‹_› (fun b hb => ?_) | refine Rf.up ‹_› (fun b hb => ?_) | refine Rf.callU ‹_› (ih.1 _ _ (by first | rfl | assumption) ‹_›) (fun r b hb hbl => ?_) | refine Rf.callI ‹_› (ih.1 _ _ (by rfl) ‹_›) (fun r b hb hbl => ?_) | refine Rf.callB ‹_› (ih.1 _ _ (by rfl) ‹_›) (fun r b hb hbl => ?_) | exact Rf.tail (ih.2 _ _ _ _ _ (by first | rfl | assumption) (by trivial) ‹_› (by first | assumption | omega)) | (refine Rf.ite (fun hc => ?_) (fun hc => ?_) <;> (try simp only [decide_eq_true_eq, gt_iff_lt, ge_iff_le, Bool.not_eq_true', decide_eq_false_iff_not, Bool.not_eq_true, ne_eq, Decidable.not_not] at hc) <;> first | exact absurd trivial hc | subst hc | simp only [hc, ne_eq, qm, decide_true, decide_false, Bool.not_true, Bool.not_false, Bool.false_eq_true, if_true, if_false, reduceIte] | skip) | refine Rf.lit (by rfl) (live_of_kind ‹_› (by decide)) ‹_› (fun c => ?_))
  ·(try simp only [qn, reduceIte, Int.reduceEq, if_true, if_false])
   refine Rf.callU hg (ihC ih hc hf hg) fun r d hd hl => ?_
   repeat' ((try simp only [qn, reduceIte, Int.reduceEq, if_true, if_false]); first | exact Rf.ret rfl | refine Rf.mark ?_ | refine Rf.kind ‹_› (fun x hx => ?_) | refine Rf.take ‹_› (fun b hb hbt => ?_) | refine Rf.expect (by decide) ‹_› (fun b hb => ?_) (fun b hb => ?_) | refine Rf.taken (by decide) ‹_› (fun b hc hb hbt => ?_) (fun hc => ?_) | refine Rf.comes (by decide) ‹_› (fun hc => ?_) (fun hc => ?_) | refine Rf.prec ?_ | refine Rf.close (by rfl) ‹_› (fun b hb => ?_) | refine Rf.dead (fun hd => ?_) (fun hd => ?_) | refine Rf.fail ‹_› (fun b hb => ?_) | refine Rf.none_ ‹_› (fun b hb => ?_) | refine Rf.up ‹_› (fun b hb => ?_) | refine Rf.callU ‹_› (ih.1 _ _ (by first | rfl | assumption) ‹_›) (fun r b hb hbl => ?_) | refine Rf.callI ‹_› (ih.1 _ _ (by rfl) ‹_›) (fun r b hb hbl => ?_) | refine Rf.callB ‹_› (ih.1 _ _ (by rfl) ‹_›) (fun r b hb hbl => ?_) | exact Rf.tail (ih.2 _ _ _ _ _ (by first | rfl | assumption) (by trivial) ‹_› (by first | assumption | omega)) | (refine Rf.ite (fun hc => ?_) (fun hc => ?_) <;> (try simp only [decide_eq_true_eq, gt_iff_lt, ge_iff_le, Bool.not_eq_true', decide_eq_false_iff_not, Bool.not_eq_true, ne_eq, Decidable.not_not] at hc) <;> first | exact absurd trivial hc | subst hc | simp only [hc, ne_eq, qm, decide_true, decide_false, Bool.not_true, Bool.not_false, Bool.false_eq_true, if_true, if_false, reduceIte] | skip) | refine Rf.lit (by rfl) (live_of_kind ‹_› (by decide)) ‹_› (fun c => ?_))
 ·repeat' ((try simp only [qn, reduceIte, Int.reduceEq, if_true, if_false]); first | exact Rf.ret rfl | refine Rf.mark ?_ | refine Rf.kind ‹_› (fun x hx => ?_) | refine Rf.take ‹_› (fun b hb hbt => ?_) | refine Rf.expect (by decide) ‹_› (fun b hb => ?_) (fun b hb => ?_) | refine Rf.taken (by decide) ‹_› (fun b hc hb hbt => ?_) (fun hc => ?_) | refine Rf.comes (by decide) ‹_› (fun hc => ?_) (fun hc => ?_) | refine Rf.prec ?_ | refine Rf.close (by rfl) ‹_› (fun b hb => ?_) | refine Rf.dead (fun hd => ?_) (fun hd => ?_) | refine Rf.fail ‹_› (fun b hb => ?_) | refine Rf.none_ ‹_› (fun b hb => ?_) | refine Rf.up ‹_› (fun b hb => ?_) | refine Rf.callU ‹_› (ih.1 _ _ (by first | rfl | assumption) ‹_›) (fun r b hb hbl => ?_) | refine Rf.callI ‹_› (ih.1 _ _ (by rfl) ‹_›) (fun r b hb hbl => ?_) | refine Rf.callB ‹_› (ih.1 _ _ (by rfl) ‹_›) (fun r b hb hbl => ?_) | exact Rf.tail (ih.2 _ _ _ _ _ (by first | rfl | assumption) (by trivial) ‹_› (by first | assumption | omega)) | (refine Rf.ite (fun hc => ?_) (fun hc => ?_) <;> (try simp only [decide_eq_true_eq, gt_iff_lt, ge_iff_le, Bool.not_eq_true', decide_eq_false_iff_not, Bool.not_eq_true, ne_eq, Decidable.not_not] at hc) <;> first | exact absurd trivial hc | subst hc | simp only [hc, ne_eq, qm, decide_true, decide_false, Bool.not_true, Bool.not_false, Bool.false_eq_true, if_true, if_false, reduceIte] | skip) | refine Rf.lit (by rfl) (live_of_kind ‹_› (by decide)) ‹_› (fun c => ?_))
theorem r_takeP (ih : IH n) (hg : a.good) : Rf (runM (callN n) (body .takeP) a ms) (W .prog Take.n [.rdr 0] (toP a)) (fun _ _ => .undef) := by
 intro r b hx
 simp only [body, done, runM] at hx
 split at hx
 ·rename_i hr
  simp only [Option.some.injEq, Prod.mk.injEq] at hx
  obtain ⟨_, rfl⟩ := hx
  exact W_Take hg.took hr
 ·cases hx
theorem r_binary (ih : IH n) (q : Int) (head : Bool) (hg : a.good) : Rf (runM (callN n) (body (.binary q head)) a []) (W .prog (argsOf (.binary q head)).1 (argsOf (.binary q head)).2 (toP a)) (resE (.binary q head) a) := by
 refine Rf.fix binary.fd n ?_
 simp only [argsOf, body]
 rw [binary_eq]
 refine Rf.mark ?_
 refine Rf.callU hg (ih.1 _ _ (by rfl) hg) fun r b hb hbl => ?_
 refine Rf.kindT hb (Rf.prec ?_)
 repeat' ((try simp only [qn, reduceIte, Int.reduceEq, if_true, if_false]); first | exact Rf.ret rfl | refine Rf.mark ?_ | refine Rf.kind ‹_› (fun x hx => ?_) | refine Rf.take ‹_› (fun b hb hbt => ?_) | refine Rf.expect (by decide) ‹_› (fun b hb => ?_) (fun b hb => ?_) | refine Rf.taken (by decide) ‹_› (fun b hc hb hbt => ?_) (fun hc => ?_) | refine Rf.comes (by decide) ‹_› (fun hc => ?_) (fun hc => ?_) | refine Rf.prec ?_ | refine Rf.close (by rfl) ‹_› (fun b hb => ?_) | refine Rf.dead (fun hd => ?_) (fun hd => ?_) | refine Rf.fail ‹_› (fun b hb => ?_) | refine Rf.none_ ‹_› (fun b hb => ?_) | refine Rf.up ‹_› (fun b hb => ?_) | refine Rf.callU ‹_› (ih.1 _ _ (by first | rfl | assumption) ‹_›) (fun r b hb hbl => ?_) | refine Rf.callI ‹_› (ih.1 _ _ (by rfl) ‹_›) (fun r b hb hbl => ?_) | refine Rf.callB ‹_› (ih.1 _ _ (by rfl) ‹_›) (fun r b hb hbl => ?_) | exact Rf.tail (ih.2 _ _ _ _ _ (by first | rfl | assumption) (by trivial) ‹_› (by first | assumption | omega)) | (refine Rf.ite (fun hc => ?_) (fun hc => ?_) <;> (try simp only [decide_eq_true_eq, gt_iff_lt, ge_iff_le, Bool.not_eq_true', decide_eq_false_iff_not, Bool.not_eq_true, ne_eq, Decidable.not_not] at hc) <;> first | exact absurd trivial hc | subst hc | simp only [hc, ne_eq, qm, decide_true, decide_false, Bool.not_true, Bool.not_false, Bool.false_eq_true, if_true, if_false, reduceIte] | skip) | refine Rf.lit (by rfl) (live_of_kind ‹_› (by decide)) ‹_› (fun c => ?_))
theorem r_binaryL (ih : IH n) (q : Int) (head : Bool) (hg : a.good) (ms : List Int) (lim n0 : Nat) (hn : n ≤ n0) : Rf (runM (callN n) (body (.binaryL q head)) a ms) (loopOf (.binaryL q head) ms lim (n0 + 1) a) (resE (.binaryL q head) a) := by
 simp only [loopOf, body]
 rw [binary.l0_succ]
 have hp := precF_le (a.kinds.getD 0 0)
 show Rf (runM (callN n) (if 0 < precF (a.kinds.getD 0 0) then (if q ≤ precF (a.kinds.getD 0 0) then .take (go (.binary (precF (a.kinds.getD 0 0) + 1) head) (.close 0 206 (.call (.binaryL q head) [0] .ret))) else done) else done) a ms) _ _
 refine Rf.ite (fun hc => ?_) (fun hc => ?_) <;> simp only [decide_eq_true_eq, gt_iff_lt] at hc
 ·rw [if_pos hc]
  refine Rf.ite (fun hc => ?_) (fun hc => ?_) <;> simp only [decide_eq_true_eq, ge_iff_le] at hc
  ·rw [if_pos hc, wi _ (by omega) (by omega)]
   refine Rf.take hg fun b hb hbt => ?_
   refine Rf.callU hb (ih.1 _ _ (by rfl) hb) fun r c hc hcl => ?_
   refine Rf.close rfl hc fun d hd => ?_
   refine Rf.kindT hd (Rf.prec ?_)
   repeat' ((try simp only [qn, reduceIte, Int.reduceEq, if_true, if_false]); first | exact Rf.ret rfl | refine Rf.mark ?_ | refine Rf.kind ‹_› (fun x hx => ?_) | refine Rf.take ‹_› (fun b hb hbt => ?_) | refine Rf.expect (by decide) ‹_› (fun b hb => ?_) (fun b hb => ?_) | refine Rf.taken (by decide) ‹_› (fun b hc hb hbt => ?_) (fun hc => ?_) | refine Rf.comes (by decide) ‹_› (fun hc => ?_) (fun hc => ?_) | refine Rf.prec ?_ | refine Rf.close (by rfl) ‹_› (fun b hb => ?_) | refine Rf.dead (fun hd => ?_) (fun hd => ?_) | refine Rf.fail ‹_› (fun b hb => ?_) | refine Rf.none_ ‹_› (fun b hb => ?_) | refine Rf.up ‹_› (fun b hb => ?_) | refine Rf.callU ‹_› (ih.1 _ _ (by first | rfl | assumption) ‹_›) (fun r b hb hbl => ?_) | refine Rf.callI ‹_› (ih.1 _ _ (by rfl) ‹_›) (fun r b hb hbl => ?_) | refine Rf.callB ‹_› (ih.1 _ _ (by rfl) ‹_›) (fun r b hb hbl => ?_) | exact Rf.tail (ih.2 _ _ _ _ _ (by first | rfl | assumption) (by trivial) ‹_› (by first | assumption | omega)) | (refine Rf.ite (fun hc => ?_) (fun hc => ?_) <;> (try simp only [decide_eq_true_eq, gt_iff_lt, ge_iff_le, Bool.not_eq_true', decide_eq_false_iff_not, Bool.not_eq_true, ne_eq, Decidable.not_not] at hc) <;> first | exact absurd trivial hc | subst hc | simp only [hc, ne_eq, qm, decide_true, decide_false, Bool.not_true, Bool.not_false, Bool.false_eq_true, if_true, if_false, reduceIte] | skip) | refine Rf.lit (by rfl) (live_of_kind ‹_› (by decide)) ‹_› (fun c => ?_))
  ·rw [if_neg hc]; repeat' ((try simp only [qn, reduceIte, Int.reduceEq, if_true, if_false]); first | exact Rf.ret rfl | refine Rf.mark ?_ | refine Rf.kind ‹_› (fun x hx => ?_) | refine Rf.take ‹_› (fun b hb hbt => ?_) | refine Rf.expect (by decide) ‹_› (fun b hb => ?_) (fun b hb => ?_) | refine Rf.taken (by decide) ‹_› (fun b hc hb hbt => ?_) (fun hc => ?_) | refine Rf.comes (by decide) ‹_› (fun hc => ?_) (fun hc => ?_) | refine Rf.prec ?_ | refine Rf.close (by rfl) ‹_› (fun b hb => ?_) | refine Rf.dead (fun hd => ?_) (fun hd => ?_) | refine Rf.fail ‹_› (fun b hb => ?_) | refine Rf.none_ ‹_› (fun b hb => ?_) | refine Rf.up ‹_› (fun b hb => ?_) | refine Rf.callU ‹_› (ih.1 _ _ (by first | rfl | assumption) ‹_›) (fun r b hb hbl => ?_) | refine Rf.callI ‹_› (ih.1 _ _ (by rfl) ‹_›) (fun r b hb hbl => ?_) | refine Rf.callB ‹_› (ih.1 _ _ (by rfl) ‹_›) (fun r b hb hbl => ?_) | exact Rf.tail (ih.2 _ _ _ _ _ (by first | rfl | assumption) (by trivial) ‹_› (by first | assumption | omega)) | (refine Rf.ite (fun hc => ?_) (fun hc => ?_) <;> (try simp only [decide_eq_true_eq, gt_iff_lt, ge_iff_le, Bool.not_eq_true', decide_eq_false_iff_not, Bool.not_eq_true, ne_eq, Decidable.not_not] at hc) <;> first | exact absurd trivial hc | subst hc | simp only [hc, ne_eq, qm, decide_true, decide_false, Bool.not_true, Bool.not_false, Bool.false_eq_true, if_true, if_false, reduceIte] | skip) | refine Rf.lit (by rfl) (live_of_kind ‹_› (by decide)) ‹_› (fun c => ?_))
 ·rw [if_neg hc]; repeat' ((try simp only [qn, reduceIte, Int.reduceEq, if_true, if_false]); first | exact Rf.ret rfl | refine Rf.mark ?_ | refine Rf.kind ‹_› (fun x hx => ?_) | refine Rf.take ‹_› (fun b hb hbt => ?_) | refine Rf.expect (by decide) ‹_› (fun b hb => ?_) (fun b hb => ?_) | refine Rf.taken (by decide) ‹_› (fun b hc hb hbt => ?_) (fun hc => ?_) | refine Rf.comes (by decide) ‹_› (fun hc => ?_) (fun hc => ?_) | refine Rf.prec ?_ | refine Rf.close (by rfl) ‹_› (fun b hb => ?_) | refine Rf.dead (fun hd => ?_) (fun hd => ?_) | refine Rf.fail ‹_› (fun b hb => ?_) | refine Rf.none_ ‹_› (fun b hb => ?_) | refine Rf.up ‹_› (fun b hb => ?_) | refine Rf.callU ‹_› (ih.1 _ _ (by first | rfl | assumption) ‹_›) (fun r b hb hbl => ?_) | refine Rf.callI ‹_› (ih.1 _ _ (by rfl) ‹_›) (fun r b hb hbl => ?_) | refine Rf.callB ‹_› (ih.1 _ _ (by rfl) ‹_›) (fun r b hb hbl => ?_) | exact Rf.tail (ih.2 _ _ _ _ _ (by first | rfl | assumption) (by trivial) ‹_› (by first | assumption | omega)) | (refine Rf.ite (fun hc => ?_) (fun hc => ?_) <;> (try simp only [decide_eq_true_eq, gt_iff_lt, ge_iff_le, Bool.not_eq_true', decide_eq_false_iff_not, Bool.not_eq_true, ne_eq, Decidable.not_not] at hc) <;> first | exact absurd trivial hc | subst hc | simp only [hc, ne_eq, qm, decide_true, decide_false, Bool.not_true, Bool.not_false, Bool.false_eq_true, if_true, if_false, reduceIte] | skip) | refine Rf.lit (by rfl) (live_of_kind ‹_› (by decide)) ‹_› (fun c => ?_))
set_option maxHeartbeats 4000000 in
theorem r_g0 (ih : IH n) (head : Bool) (hg : a.good) :
  (Rf (runM (callN n) (body (.X head)) a []) (W .prog (argsOf (.X head)).1 (argsOf (.X head)).2 (toP a)) (resE (.X head) a)) ∧
  (Rf (runM (callN n) (body (.X1 head)) a []) (W .prog (argsOf (.X1 head)).1 (argsOf (.X1 head)).2 (toP a)) (resE (.X1 head) a)) ∧
  (Rf (runM (callN n) (body (.unary1 head)) a []) (W .prog (argsOf (.unary1 head)).1 (argsOf (.unary1 head)).2 (toP a)) (resE (.unary1 head) a)) ∧
  (Rf (runM (callN n) (body (.primary head)) a []) (W .prog (argsOf (.primary head)).1 (argsOf (.primary head)).2 (toP a)) (resE (.primary head) a)) ∧
  (Rf (runM (callN n) (body .period) a []) (W .prog (argsOf .period).1 (argsOf .period).2 (toP a)) (resE .period a)) ∧
  (Rf (runM (callN n) (body .index) a []) (W .prog (argsOf .index).1 (argsOf .index).2 (toP a)) (resE .index a)) ∧
  (Rf (runM (callN n) (body .arguments) a []) (W .prog (argsOf .arguments).1 (argsOf .arguments).2 (toP a)) (resE .arguments a)) ∧
  (Rf (runM (callN n) (body .value) a []) (W .prog (argsOf .value).1 (argsOf .value).2 (toP a)) (resE .value a)) ∧
  (Rf (runM (callN n) (body .value1) a []) (W .prog (argsOf .value1).1 (argsOf .value1).2 (toP a)) (resE .value1 a)) ∧
  (Rf (runM (callN n) (body .values) a []) (W .prog (argsOf .values).1 (argsOf .values).2 (toP a)) (resE .values a)) := by
 refine ⟨?_, ?_, ?_, ?_, ?_, ?_, ?_, ?_, ?_, ?_⟩ <;> ((first | refine Rf.fix X.fd n ?_ | refine Rf.fix X1.fd n ?_ | refine Rf.fix unary1.fd n ?_ | refine Rf.fix primary.fd n ?_ | refine Rf.fix period.fd n ?_ | refine Rf.fix index.fd n ?_ | refine Rf.fix arguments.fd n ?_ | refine Rf.fix value.fd n ?_ | refine Rf.fix value1.fd n ?_ | refine Rf.fix values.fd n ?_); simp only [argsOf, body]; (first | rw [X_eq] | rw [X1_eq] | rw [unary1_eq] | rw [primary_eq] | rw [period_eq] | rw [index_eq] | rw [arguments_eq] | rw [value_eq] | rw [value1_eq] | rw [values_eq]); repeat' ((try simp only [qn, reduceIte, Int.reduceEq, if_true, if_false]); first | exact Rf.ret rfl | refine Rf.mark ?_ | refine Rf.kind ‹_› (fun x hx => ?_) | refine Rf.take ‹_› (fun b hb hbt => ?_) | refine Rf.expect (by decide) ‹_› (fun b hb => ?_) (fun b hb => ?_) | refine Rf.taken (by decide) ‹_› (fun b hc hb hbt => ?_) (fun hc => ?_) | refine Rf.comes (by decide) ‹_› (fun hc => ?_) (fun hc => ?_) | refine Rf.prec ?_ | refine Rf.close (by rfl) ‹_› (fun b hb => ?_) | refine Rf.dead (fun hd => ?_) (fun hd => ?_) | refine Rf.fail ‹_› (fun b hb => ?_) | refine Rf.none_ ‹_› (fun b hb => ?_) | refine Rf.up ‹_› (fun b hb => ?_) | refine Rf.callU ‹_› (ih.1 _ _ (by first | rfl | assumption) ‹_›) (fun r b hb hbl => ?_) | refine Rf.callI ‹_› (ih.1 _ _ (by rfl) ‹_›) (fun r b hb hbl => ?_) | refine Rf.callB ‹_› (ih.1 _ _ (by rfl) ‹_›) (fun r b hb hbl => ?_) | exact Rf.tail (ih.2 _ _ _ _ _ (by first | rfl | assumption) (by trivial) ‹_› (by first | assumption | omega)) | (refine Rf.ite (fun hc => ?_) (fun hc => ?_) <;> (try simp only [decide_eq_true_eq, gt_iff_lt, ge_iff_le, Bool.not_eq_true', decide_eq_false_iff_not, Bool.not_eq_true, ne_eq, Decidable.not_not] at hc) <;> first | exact absurd trivial hc | subst hc | simp only [hc, ne_eq, qm, decide_true, decide_false, Bool.not_true, Bool.not_false, Bool.false_eq_true, if_true, if_false, reduceIte] | skip) | refine Rf.lit (by rfl) (live_of_kind ‹_› (by decide)) ‹_› (fun c => ?_)))
theorem r_X (ih : IH n) (head : Bool) (hg : a.good) : Rf (runM (callN n) (body (.X head)) a []) (W .prog (argsOf (.X head)).1 (argsOf (.X head)).2 (toP a)) (resE (.X head) a) := (r_g0 ih head hg).1
theorem r_X1 (ih : IH n) (head : Bool) (hg : a.good) : Rf (runM (callN n) (body (.X1 head)) a []) (W .prog (argsOf (.X1 head)).1 (argsOf (.X1 head)).2 (toP a)) (resE (.X1 head) a) := (r_g0 ih head hg).2.1
theorem r_unary1 (ih : IH n) (head : Bool) (hg : a.good) : Rf (runM (callN n) (body (.unary1 head)) a []) (W .prog (argsOf (.unary1 head)).1 (argsOf (.unary1 head)).2 (toP a)) (resE (.unary1 head) a) := (r_g0 ih head hg).2.2.1
theorem r_primary (ih : IH n) (head : Bool) (hg : a.good) : Rf (runM (callN n) (body (.primary head)) a []) (W .prog (argsOf (.primary head)).1 (argsOf (.primary head)).2 (toP a)) (resE (.primary head) a) := (r_g0 ih head hg).2.2.2.1
theorem r_period (ih : IH n) (hg : a.good) : Rf (runM (callN n) (body .period) a []) (W .prog (argsOf .period).1 (argsOf .period).2 (toP a)) (resE .period a) := (r_g0 ih false hg).2.2.2.2.1
theorem r_index (ih : IH n) (hg : a.good) : Rf (runM (callN n) (body .index) a []) (W .prog (argsOf .index).1 (argsOf .index).2 (toP a)) (resE .index a) := (r_g0 ih false hg).2.2.2.2.2.1
theorem r_arguments (ih : IH n) (hg : a.good) : Rf (runM (callN n) (body .arguments) a []) (W .prog (argsOf .arguments).1 (argsOf .arguments).2 (toP a)) (resE .arguments a) := (r_g0 ih false hg).2.2.2.2.2.2.1
theorem r_value (ih : IH n) (hg : a.good) : Rf (runM (callN n) (body .value) a []) (W .prog (argsOf .value).1 (argsOf .value).2 (toP a)) (resE .value a) := (r_g0 ih false hg).2.2.2.2.2.2.2.1
theorem r_value1 (ih : IH n) (hg : a.good) : Rf (runM (callN n) (body .value1) a []) (W .prog (argsOf .value1).1 (argsOf .value1).2 (toP a)) (resE .value1 a) := (r_g0 ih false hg).2.2.2.2.2.2.2.2.1
theorem r_values (ih : IH n) (hg : a.good) : Rf (runM (callN n) (body .values) a []) (W .prog (argsOf .values).1 (argsOf .values).2 (toP a)) (resE .values a) := (r_g0 ih false hg).2.2.2.2.2.2.2.2.2
set_option maxHeartbeats 4000000 in
theorem r_g1 (ih : IH n) (hg : a.good) :
  (Rf (runM (callN n) (body .Name) a []) (W .prog (argsOf .Name).1 (argsOf .Name).2 (toP a)) (resE .Name a)) ∧
  (Rf (runM (callN n) (body .Type) a []) (W .prog (argsOf .Type).1 (argsOf .Type).2 (toP a)) (resE .Type a)) ∧
  (Rf (runM (callN n) (body .elements) a []) (W .prog (argsOf .elements).1 (argsOf .elements).2 (toP a)) (resE .elements a)) ∧
  (Rf (runM (callN n) (body .qualified) a []) (W .prog (argsOf .qualified).1 (argsOf .qualified).2 (toP a)) (resE .qualified a)) ∧
  (Rf (runM (callN n) (body .union) a []) (W .prog (argsOf .union).1 (argsOf .union).2 (toP a)) (resE .union a)) ∧
  (Rf (runM (callN n) (body .Sig) a []) (W .prog (argsOf .Sig).1 (argsOf .Sig).2 (toP a)) (resE .Sig a)) ∧
  (Rf (runM (callN n) (body .Sig1) a []) (W .prog (argsOf .Sig1).1 (argsOf .Sig1).2 (toP a)) (resE .Sig1 a)) ∧
  (Rf (runM (callN n) (body .Params) a []) (W .prog (argsOf .Params).1 (argsOf .Params).2 (toP a)) (resE .Params a)) ∧
  (Rf (runM (callN n) (body .entry1) a []) (W .prog (argsOf .entry1).1 (argsOf .entry1).2 (toP a)) (resE .entry1 a)) := by
 refine ⟨?_, ?_, ?_, ?_, ?_, ?_, ?_, ?_, ?_⟩ <;> ((first | refine Rf.fix Name.fd n ?_ | refine Rf.fix Type_.fd n ?_ | refine Rf.fix elements.fd n ?_ | refine Rf.fix qualified.fd n ?_ | refine Rf.fix union.fd n ?_ | refine Rf.fix Sig.fd n ?_ | refine Rf.fix Sig1.fd n ?_ | refine Rf.fix Params.fd n ?_ | refine Rf.fix entry1.fd n ?_); simp only [argsOf, body]; (first | rw [Name_eq] | rw [Type__eq] | rw [elements_eq] | rw [qualified_eq] | rw [union_eq] | rw [Sig_eq] | rw [Sig1_eq] | rw [Params_eq] | rw [entry1_eq]); repeat' ((try simp only [qn, reduceIte, Int.reduceEq, if_true, if_false]); first | exact Rf.ret rfl | refine Rf.mark ?_ | refine Rf.kind ‹_› (fun x hx => ?_) | refine Rf.take ‹_› (fun b hb hbt => ?_) | refine Rf.expect (by decide) ‹_› (fun b hb => ?_) (fun b hb => ?_) | refine Rf.taken (by decide) ‹_› (fun b hc hb hbt => ?_) (fun hc => ?_) | refine Rf.comes (by decide) ‹_› (fun hc => ?_) (fun hc => ?_) | refine Rf.prec ?_ | refine Rf.close (by rfl) ‹_› (fun b hb => ?_) | refine Rf.dead (fun hd => ?_) (fun hd => ?_) | refine Rf.fail ‹_› (fun b hb => ?_) | refine Rf.none_ ‹_› (fun b hb => ?_) | refine Rf.up ‹_› (fun b hb => ?_) | refine Rf.callU ‹_› (ih.1 _ _ (by first | rfl | assumption) ‹_›) (fun r b hb hbl => ?_) | refine Rf.callI ‹_› (ih.1 _ _ (by rfl) ‹_›) (fun r b hb hbl => ?_) | refine Rf.callB ‹_› (ih.1 _ _ (by rfl) ‹_›) (fun r b hb hbl => ?_) | exact Rf.tail (ih.2 _ _ _ _ _ (by first | rfl | assumption) (by trivial) ‹_› (by first | assumption | omega)) | (refine Rf.ite (fun hc => ?_) (fun hc => ?_) <;> (try simp only [decide_eq_true_eq, gt_iff_lt, ge_iff_le, Bool.not_eq_true', decide_eq_false_iff_not, Bool.not_eq_true, ne_eq, Decidable.not_not] at hc) <;> first | exact absurd trivial hc | subst hc | simp only [hc, ne_eq, qm, decide_true, decide_false, Bool.not_true, Bool.not_false, Bool.false_eq_true, if_true, if_false, reduceIte] | skip) | refine Rf.lit (by rfl) (live_of_kind ‹_› (by decide)) ‹_› (fun c => ?_)))
theorem r_Name (ih : IH n) (hg : a.good) : Rf (runM (callN n) (body .Name) a []) (W .prog (argsOf .Name).1 (argsOf .Name).2 (toP a)) (resE .Name a) := (r_g1 ih hg).1
theorem r_Type (ih : IH n) (hg : a.good) : Rf (runM (callN n) (body .Type) a []) (W .prog (argsOf .Type).1 (argsOf .Type).2 (toP a)) (resE .Type a) := (r_g1 ih hg).2.1
theorem r_elements (ih : IH n) (hg : a.good) : Rf (runM (callN n) (body .elements) a []) (W .prog (argsOf .elements).1 (argsOf .elements).2 (toP a)) (resE .elements a) := (r_g1 ih hg).2.2.1
theorem r_qualified (ih : IH n) (hg : a.good) : Rf (runM (callN n) (body .qualified) a []) (W .prog (argsOf .qualified).1 (argsOf .qualified).2 (toP a)) (resE .qualified a) := (r_g1 ih hg).2.2.2.1
theorem r_union (ih : IH n) (hg : a.good) : Rf (runM (callN n) (body .union) a []) (W .prog (argsOf .union).1 (argsOf .union).2 (toP a)) (resE .union a) := (r_g1 ih hg).2.2.2.2.1
theorem r_Sig (ih : IH n) (hg : a.good) : Rf (runM (callN n) (body .Sig) a []) (W .prog (argsOf .Sig).1 (argsOf .Sig).2 (toP a)) (resE .Sig a) := (r_g1 ih hg).2.2.2.2.2.1
theorem r_Sig1 (ih : IH n) (hg : a.good) : Rf (runM (callN n) (body .Sig1) a []) (W .prog (argsOf .Sig1).1 (argsOf .Sig1).2 (toP a)) (resE .Sig1 a) := (r_g1 ih hg).2.2.2.2.2.2.1
theorem r_Params (ih : IH n) (hg : a.good) : Rf (runM (callN n) (body .Params) a []) (W .prog (argsOf .Params).1 (argsOf .Params).2 (toP a)) (resE .Params a) := (r_g1 ih hg).2.2.2.2.2.2.2.1
theorem r_entry1 (ih : IH n) (hg : a.good) : Rf (runM (callN n) (body .entry1) a []) (W .prog (argsOf .entry1).1 (argsOf .entry1).2 (toP a)) (resE .entry1 a) := (r_g1 ih hg).2.2.2.2.2.2.2.2
theorem r_primaryL (ih : IH n) (head : Bool) (hg : a.good) (ms : List Int) (lim n0 : Nat) (hn : n ≤ n0) : Rf (runM (callN n) (body (.primaryL head)) a ms) (loopOf (.primaryL head) ms lim (n0 + 1) a) (resE (.primaryL head) a) := by
 simp only [loopOf, body]
 rw [primary.l0_succ]
 repeat' ((try simp only [qn, reduceIte, Int.reduceEq, if_true, if_false]); first | exact Rf.ret rfl | refine Rf.mark ?_ | refine Rf.kind ‹_› (fun x hx => ?_) | refine Rf.take ‹_› (fun b hb hbt => ?_) | refine Rf.expect (by decide) ‹_› (fun b hb => ?_) (fun b hb => ?_) | refine Rf.taken (by decide) ‹_› (fun b hc hb hbt => ?_) (fun hc => ?_) | refine Rf.comes (by decide) ‹_› (fun hc => ?_) (fun hc => ?_) | refine Rf.prec ?_ | refine Rf.close (by rfl) ‹_› (fun b hb => ?_) | refine Rf.dead (fun hd => ?_) (fun hd => ?_) | refine Rf.fail ‹_› (fun b hb => ?_) | refine Rf.none_ ‹_› (fun b hb => ?_) | refine Rf.up ‹_› (fun b hb => ?_) | refine Rf.callU ‹_› (ih.1 _ _ (by first | rfl | assumption) ‹_›) (fun r b hb hbl => ?_) | refine Rf.callI ‹_› (ih.1 _ _ (by rfl) ‹_›) (fun r b hb hbl => ?_) | refine Rf.callB ‹_› (ih.1 _ _ (by rfl) ‹_›) (fun r b hb hbl => ?_) | exact Rf.tail (ih.2 _ _ _ _ _ (by first | rfl | assumption) (by trivial) ‹_› (by first | assumption | omega)) | (refine Rf.ite (fun hc => ?_) (fun hc => ?_) <;> (try simp only [decide_eq_true_eq, gt_iff_lt, ge_iff_le, Bool.not_eq_true', decide_eq_false_iff_not, Bool.not_eq_true, ne_eq, Decidable.not_not] at hc) <;> first | exact absurd trivial hc | subst hc | simp only [hc, ne_eq, qm, decide_true, decide_false, Bool.not_true, Bool.not_false, Bool.false_eq_true, if_true, if_false, reduceIte] | skip) | refine Rf.lit (by rfl) (live_of_kind ‹_› (by decide)) ‹_› (fun c => ?_))
theorem r_indexL (ih : IH n) (hg : a.good) (ms : List Int) (lim n0 : Nat) (hn : n ≤ n0) : Rf (runM (callN n) (body .indexL) a ms) (loopOf .indexL ms lim (n0 + 1) a) (resE .indexL a) := by
 simp only [loopOf, body]
 rw [index.l0_succ]
 repeat' ((try simp only [qn, reduceIte, Int.reduceEq, if_true, if_false]); first | exact Rf.ret rfl | refine Rf.mark ?_ | refine Rf.kind ‹_› (fun x hx => ?_) | refine Rf.take ‹_› (fun b hb hbt => ?_) | refine Rf.expect (by decide) ‹_› (fun b hb => ?_) (fun b hb => ?_) | refine Rf.taken (by decide) ‹_› (fun b hc hb hbt => ?_) (fun hc => ?_) | refine Rf.comes (by decide) ‹_› (fun hc => ?_) (fun hc => ?_) | refine Rf.prec ?_ | refine Rf.close (by rfl) ‹_› (fun b hb => ?_) | refine Rf.dead (fun hd => ?_) (fun hd => ?_) | refine Rf.fail ‹_› (fun b hb => ?_) | refine Rf.none_ ‹_› (fun b hb => ?_) | refine Rf.up ‹_› (fun b hb => ?_) | refine Rf.callU ‹_› (ih.1 _ _ (by first | rfl | assumption) ‹_›) (fun r b hb hbl => ?_) | refine Rf.callI ‹_› (ih.1 _ _ (by rfl) ‹_›) (fun r b hb hbl => ?_) | refine Rf.callB ‹_› (ih.1 _ _ (by rfl) ‹_›) (fun r b hb hbl => ?_) | exact Rf.tail (ih.2 _ _ _ _ _ (by first | rfl | assumption) (by trivial) ‹_› (by first | assumption | omega)) | (refine Rf.ite (fun hc => ?_) (fun hc => ?_) <;> (try simp only [decide_eq_true_eq, gt_iff_lt, ge_iff_le, Bool.not_eq_true', decide_eq_false_iff_not, Bool.not_eq_true, ne_eq, Decidable.not_not] at hc) <;> first | exact absurd trivial hc | subst hc | simp only [hc, ne_eq, qm, decide_true, decide_false, Bool.not_true, Bool.not_false, Bool.false_eq_true, if_true, if_false, reduceIte] | skip) | refine Rf.lit (by rfl) (live_of_kind ‹_› (by decide)) ‹_› (fun c => ?_))
theorem r_argsL (ih : IH n) (hg : a.good) (ms : List Int) (lim n0 : Nat) (hn : n ≤ n0) : Rf (runM (callN n) (body .argsL) a ms) (loopOf .argsL ms lim (n0 + 1) a) (resE .argsL a) := by
 simp only [loopOf, body]
 rw [arguments.l0_succ]
 repeat' ((try simp only [qn, reduceIte, Int.reduceEq, if_true, if_false]); first | exact Rf.ret rfl | refine Rf.mark ?_ | refine Rf.kind ‹_› (fun x hx => ?_) | refine Rf.take ‹_› (fun b hb hbt => ?_) | refine Rf.expect (by decide) ‹_› (fun b hb => ?_) (fun b hb => ?_) | refine Rf.taken (by decide) ‹_› (fun b hc hb hbt => ?_) (fun hc => ?_) | refine Rf.comes (by decide) ‹_› (fun hc => ?_) (fun hc => ?_) | refine Rf.prec ?_ | refine Rf.close (by rfl) ‹_› (fun b hb => ?_) | refine Rf.dead (fun hd => ?_) (fun hd => ?_) | refine Rf.fail ‹_› (fun b hb => ?_) | refine Rf.none_ ‹_› (fun b hb => ?_) | refine Rf.up ‹_› (fun b hb => ?_) | refine Rf.callU ‹_› (ih.1 _ _ (by first | rfl | assumption) ‹_›) (fun r b hb hbl => ?_) | refine Rf.callI ‹_› (ih.1 _ _ (by rfl) ‹_›) (fun r b hb hbl => ?_) | refine Rf.callB ‹_› (ih.1 _ _ (by rfl) ‹_›) (fun r b hb hbl => ?_) | exact Rf.tail (ih.2 _ _ _ _ _ (by first | rfl | assumption) (by trivial) ‹_› (by first | assumption | omega)) | (refine Rf.ite (fun hc => ?_) (fun hc => ?_) <;> (try simp only [decide_eq_true_eq, gt_iff_lt, ge_iff_le, Bool.not_eq_true', decide_eq_false_iff_not, Bool.not_eq_true, ne_eq, Decidable.not_not] at hc) <;> first | exact absurd trivial hc | subst hc | simp only [hc, ne_eq, qm, decide_true, decide_false, Bool.not_true, Bool.not_false, Bool.false_eq_true, if_true, if_false, reduceIte] | skip) | refine Rf.lit (by rfl) (live_of_kind ‹_› (by decide)) ‹_› (fun c => ?_))
theorem r_valuesL (ih : IH n) (hg : a.good) (ms : List Int) (hms : ms = []) (lim n0 : Nat) (hn : n ≤ n0) : Rf (runM (callN n) (body .valuesL) a ms) (loopOf .valuesL ms lim (n0 + 1) a) (resE .valuesL a) := by
 subst hms
 simp only [loopOf, body]
 rw [values.l0_succ]
 repeat' ((try simp only [qn, reduceIte, Int.reduceEq, if_true, if_false]); first | exact Rf.ret rfl | refine Rf.mark ?_ | refine Rf.kind ‹_› (fun x hx => ?_) | refine Rf.take ‹_› (fun b hb hbt => ?_) | refine Rf.expect (by decide) ‹_› (fun b hb => ?_) (fun b hb => ?_) | refine Rf.taken (by decide) ‹_› (fun b hc hb hbt => ?_) (fun hc => ?_) | refine Rf.comes (by decide) ‹_› (fun hc => ?_) (fun hc => ?_) | refine Rf.prec ?_ | refine Rf.close (by rfl) ‹_› (fun b hb => ?_) | refine Rf.dead (fun hd => ?_) (fun hd => ?_) | refine Rf.fail ‹_› (fun b hb => ?_) | refine Rf.none_ ‹_› (fun b hb => ?_) | refine Rf.up ‹_› (fun b hb => ?_) | refine Rf.callU ‹_› (ih.1 _ _ (by first | rfl | assumption) ‹_›) (fun r b hb hbl => ?_) | refine Rf.callI ‹_› (ih.1 _ _ (by rfl) ‹_›) (fun r b hb hbl => ?_) | refine Rf.callB ‹_› (ih.1 _ _ (by rfl) ‹_›) (fun r b hb hbl => ?_) | exact Rf.tail (ih.2 _ _ _ _ _ (by first | rfl | assumption) (by trivial) ‹_› (by first | assumption | omega)) | (refine Rf.ite (fun hc => ?_) (fun hc => ?_) <;> (try simp only [decide_eq_true_eq, gt_iff_lt, ge_iff_le, Bool.not_eq_true', decide_eq_false_iff_not, Bool.not_eq_true, ne_eq, Decidable.not_not] at hc) <;> first | exact absurd trivial hc | subst hc | simp only [hc, ne_eq, qm, decide_true, decide_false, Bool.not_true, Bool.not_false, Bool.false_eq_true, if_true, if_false, reduceIte] | skip) | refine Rf.lit (by rfl) (live_of_kind ‹_› (by decide)) ‹_› (fun c => ?_))
theorem r_formL (ih : IH n) (hg : a.good) (ms : List Int) (lim n0 : Nat) (hn : n ≤ n0) : Rf (runM (callN n) (body .formL) a ms) (loopOf .formL ms lim (n0 + 1) a) (resE .formL a) := by
 simp only [loopOf, body]
 rw [form.l1_succ]
 repeat' ((try simp only [qn, reduceIte, Int.reduceEq, if_true, if_false]); first | exact Rf.ret rfl | refine Rf.mark ?_ | refine Rf.kind ‹_› (fun x hx => ?_) | refine Rf.take ‹_› (fun b hb hbt => ?_) | refine Rf.expect (by decide) ‹_› (fun b hb => ?_) (fun b hb => ?_) | refine Rf.taken (by decide) ‹_› (fun b hc hb hbt => ?_) (fun hc => ?_) | refine Rf.comes (by decide) ‹_› (fun hc => ?_) (fun hc => ?_) | refine Rf.prec ?_ | refine Rf.close (by rfl) ‹_› (fun b hb => ?_) | refine Rf.dead (fun hd => ?_) (fun hd => ?_) | refine Rf.fail ‹_› (fun b hb => ?_) | refine Rf.none_ ‹_› (fun b hb => ?_) | refine Rf.up ‹_› (fun b hb => ?_) | refine Rf.callU ‹_› (ih.1 _ _ (by first | rfl | assumption) ‹_›) (fun r b hb hbl => ?_) | refine Rf.callI ‹_› (ih.1 _ _ (by rfl) ‹_›) (fun r b hb hbl => ?_) | refine Rf.callB ‹_› (ih.1 _ _ (by rfl) ‹_›) (fun r b hb hbl => ?_) | exact Rf.tail (ih.2 _ _ _ _ _ (by first | rfl | assumption) (by trivial) ‹_› (by first | assumption | omega)) | (refine Rf.ite (fun hc => ?_) (fun hc => ?_) <;> (try simp only [decide_eq_true_eq, gt_iff_lt, ge_iff_le, Bool.not_eq_true', decide_eq_false_iff_not, Bool.not_eq_true, ne_eq, Decidable.not_not] at hc) <;> first | exact absurd trivial hc | subst hc | simp only [hc, ne_eq, qm, decide_true, decide_false, Bool.not_true, Bool.not_false, Bool.false_eq_true, if_true, if_false, reduceIte] | skip) | refine Rf.lit (by rfl) (live_of_kind ‹_› (by decide)) ‹_› (fun c => ?_))
theorem r_fieldL (ih : IH n) (hg : a.good) (ms : List Int) (lim n0 : Nat) (hn : n ≤ n0) : Rf (runM (callN n) (body .fieldL) a ms) (loopOf .fieldL ms lim (n0 + 1) a) (resE .fieldL a) := by
 simp only [loopOf, body]
 rw [field.l1_succ]
 repeat' ((try simp only [qn, reduceIte, Int.reduceEq, if_true, if_false]); first | exact Rf.ret rfl | refine Rf.mark ?_ | refine Rf.kind ‹_› (fun x hx => ?_) | refine Rf.take ‹_› (fun b hb hbt => ?_) | refine Rf.expect (by decide) ‹_› (fun b hb => ?_) (fun b hb => ?_) | refine Rf.taken (by decide) ‹_› (fun b hc hb hbt => ?_) (fun hc => ?_) | refine Rf.comes (by decide) ‹_› (fun hc => ?_) (fun hc => ?_) | refine Rf.prec ?_ | refine Rf.close (by rfl) ‹_› (fun b hb => ?_) | refine Rf.dead (fun hd => ?_) (fun hd => ?_) | refine Rf.fail ‹_› (fun b hb => ?_) | refine Rf.none_ ‹_› (fun b hb => ?_) | refine Rf.up ‹_› (fun b hb => ?_) | refine Rf.callU ‹_› (ih.1 _ _ (by first | rfl | assumption) ‹_›) (fun r b hb hbl => ?_) | refine Rf.callI ‹_› (ih.1 _ _ (by rfl) ‹_›) (fun r b hb hbl => ?_) | refine Rf.callB ‹_› (ih.1 _ _ (by rfl) ‹_›) (fun r b hb hbl => ?_) | exact Rf.tail (ih.2 _ _ _ _ _ (by first | rfl | assumption) (by trivial) ‹_› (by first | assumption | omega)) | (refine Rf.ite (fun hc => ?_) (fun hc => ?_) <;> (try simp only [decide_eq_true_eq, gt_iff_lt, ge_iff_le, Bool.not_eq_true', decide_eq_false_iff_not, Bool.not_eq_true, ne_eq, Decidable.not_not] at hc) <;> first | exact absurd trivial hc | subst hc | simp only [hc, ne_eq, qm, decide_true, decide_false, Bool.not_true, Bool.not_false, Bool.false_eq_true, if_true, if_false, reduceIte] | skip) | refine Rf.lit (by rfl) (live_of_kind ‹_› (by decide)) ‹_› (fun c => ?_))
theorem r_unionL (ih : IH n) (more : Bool) (hg : a.good) (ms : List Int) (hms : ms = []) (lim n0 : Nat) (hn : n ≤ n0) : Rf (runM (callN n) (body (.unionL more)) a ms) (loopOf (.unionL more) ms lim (n0 + 1) a) (resE (.unionL more) a) := by
 subst hms
 simp only [loopOf, body]
 rw [union.l0_succ]
 repeat' ((try simp only [qn, reduceIte, Int.reduceEq, if_true, if_false]); first | exact Rf.ret rfl | refine Rf.mark ?_ | refine Rf.kind ‹_› (fun x hx => ?_) | refine Rf.take ‹_› (fun b hb hbt => ?_) | refine Rf.expect (by decide) ‹_› (fun b hb => ?_) (fun b hb => ?_) | refine Rf.taken (by decide) ‹_› (fun b hc hb hbt => ?_) (fun hc => ?_) | refine Rf.comes (by decide) ‹_› (fun hc => ?_) (fun hc => ?_) | refine Rf.prec ?_ | refine Rf.close (by rfl) ‹_› (fun b hb => ?_) | refine Rf.dead (fun hd => ?_) (fun hd => ?_) | refine Rf.fail ‹_› (fun b hb => ?_) | refine Rf.none_ ‹_› (fun b hb => ?_) | refine Rf.up ‹_› (fun b hb => ?_) | refine Rf.callU ‹_› (ih.1 _ _ (by first | rfl | assumption) ‹_›) (fun r b hb hbl => ?_) | refine Rf.callI ‹_› (ih.1 _ _ (by rfl) ‹_›) (fun r b hb hbl => ?_) | refine Rf.callB ‹_› (ih.1 _ _ (by rfl) ‹_›) (fun r b hb hbl => ?_) | exact Rf.tail (ih.2 _ _ _ _ _ (by first | rfl | assumption) (by trivial) ‹_› (by first | assumption | omega)) | (refine Rf.ite (fun hc => ?_) (fun hc => ?_) <;> (try simp only [decide_eq_true_eq, gt_iff_lt, ge_iff_le, Bool.not_eq_true', decide_eq_false_iff_not, Bool.not_eq_true, ne_eq, Decidable.not_not] at hc) <;> first | exact absurd trivial hc | subst hc | simp only [hc, ne_eq, qm, decide_true, decide_false, Bool.not_true, Bool.not_false, Bool.false_eq_true, if_true, if_false, reduceIte] | skip) | refine Rf.lit (by rfl) (live_of_kind ‹_› (by decide)) ‹_› (fun c => ?_))
 all_goals (cases more <;> exact Rf.ret rfl)
theorem r_unary (ih : IH n) (head : Bool) (hg : a.good) : Rf (runM (callN n) (body (.unary head)) a []) (W .prog (argsOf (.unary head)).1 (argsOf (.unary head)).2 (toP a)) (resE (.unary head) a) := by
 refine Rf.fix unary.fd n ?_
 simp only [argsOf, body]
 rw [unary_eq]
 simp only [unary.j0]
 repeat' ((try simp only [qn, reduceIte, Int.reduceEq, if_true, if_false]); first | exact Rf.ret rfl | refine Rf.mark ?_ | refine Rf.kind ‹_› (fun x hx => ?_) | refine Rf.take ‹_› (fun b hb hbt => ?_) | refine Rf.expect (by decide) ‹_› (fun b hb => ?_) (fun b hb => ?_) | refine Rf.taken (by decide) ‹_› (fun b hc hb hbt => ?_) (fun hc => ?_) | refine Rf.comes (by decide) ‹_› (fun hc => ?_) (fun hc => ?_) | refine Rf.prec ?_ | refine Rf.close (by rfl) ‹_› (fun b hb => ?_) | refine Rf.dead (fun hd => ?_) (fun hd => ?_) | refine Rf.fail ‹_› (fun b hb => ?_) | refine Rf.none_ ‹_› (fun b hb => ?_) | refine Rf.up ‹_› (fun b hb => ?_) | refine Rf.callU ‹_› (ih.1 _ _ (by first | rfl | assumption) ‹_›) (fun r b hb hbl => ?_) | refine Rf.callI ‹_› (ih.1 _ _ (by rfl) ‹_›) (fun r b hb hbl => ?_) | refine Rf.callB ‹_› (ih.1 _ _ (by rfl) ‹_›) (fun r b hb hbl => ?_) | exact Rf.tail (ih.2 _ _ _ _ _ (by first | rfl | assumption) (by trivial) ‹_› (by first | assumption | omega)) | (refine Rf.ite (fun hc => ?_) (fun hc => ?_) <;> (try simp only [decide_eq_true_eq, gt_iff_lt, ge_iff_le, Bool.not_eq_true', decide_eq_false_iff_not, Bool.not_eq_true, ne_eq, Decidable.not_not] at hc) <;> first | exact absurd trivial hc | subst hc | simp only [hc, ne_eq, qm, decide_true, decide_false, Bool.not_true, Bool.not_false, Bool.false_eq_true, if_true, if_false, reduceIte] | skip) | refine Rf.lit (by rfl) (live_of_kind ‹_› (by decide)) ‹_› (fun c => ?_))
theorem r_operand (ih : IH n) (hg : a.good) : Rf (runM (callN n) (body .operand) a []) (W .prog (argsOf .operand).1 (argsOf .operand).2 (toP a)) (resE .operand a) := by
 refine Rf.fix operand.fd n ?_
 simp only [argsOf, body]
 rw [operand_eq]
 simp only [operand.j0]
 repeat' ((try simp only [qn, reduceIte, Int.reduceEq, if_true, if_false]); first | exact Rf.ret rfl | refine Rf.mark ?_ | refine Rf.kind ‹_› (fun x hx => ?_) | refine Rf.take ‹_› (fun b hb hbt => ?_) | refine Rf.expect (by decide) ‹_› (fun b hb => ?_) (fun b hb => ?_) | refine Rf.taken (by decide) ‹_› (fun b hc hb hbt => ?_) (fun hc => ?_) | refine Rf.comes (by decide) ‹_› (fun hc => ?_) (fun hc => ?_) | refine Rf.prec ?_ | refine Rf.close (by rfl) ‹_› (fun b hb => ?_) | refine Rf.dead (fun hd => ?_) (fun hd => ?_) | refine Rf.fail ‹_› (fun b hb => ?_) | refine Rf.none_ ‹_› (fun b hb => ?_) | refine Rf.up ‹_› (fun b hb => ?_) | refine Rf.callU ‹_› (ih.1 _ _ (by first | rfl | assumption) ‹_›) (fun r b hb hbl => ?_) | refine Rf.callI ‹_› (ih.1 _ _ (by rfl) ‹_›) (fun r b hb hbl => ?_) | refine Rf.callB ‹_› (ih.1 _ _ (by rfl) ‹_›) (fun r b hb hbl => ?_) | exact Rf.tail (ih.2 _ _ _ _ _ (by first | rfl | assumption) (by trivial) ‹_› (by first | assumption | omega)) | (refine Rf.ite (fun hc => ?_) (fun hc => ?_) <;> (try simp only [decide_eq_true_eq, gt_iff_lt, ge_iff_le, Bool.not_eq_true', decide_eq_false_iff_not, Bool.not_eq_true, ne_eq, Decidable.not_not] at hc) <;> first | exact absurd trivial hc | subst hc | simp only [hc, ne_eq, qm, decide_true, decide_false, Bool.not_true, Bool.not_false, Bool.false_eq_true, if_true, if_false, reduceIte] | skip) | refine Rf.lit (by rfl) (live_of_kind ‹_› (by decide)) ‹_› (fun c => ?_))
theorem r_form (ih : IH n) (hg : a.good) : Rf (runM (callN n) (body .form) a []) (W .prog (argsOf .form).1 (argsOf .form).2 (toP a)) (resE .form a) := by
 refine Rf.fix form.fd n ?_
 simp only [argsOf, body]
 rw [form_eq]
 repeat' ((try simp only [qn, reduceIte, Int.reduceEq, if_true, if_false]); first | exact Rf.ret rfl | refine Rf.mark ?_ | refine Rf.kind ‹_› (fun x hx => ?_) | refine Rf.take ‹_› (fun b hb hbt => ?_) | refine Rf.expect (by decide) ‹_› (fun b hb => ?_) (fun b hb => ?_) | refine Rf.taken (by decide) ‹_› (fun b hc hb hbt => ?_) (fun hc => ?_) | refine Rf.comes (by decide) ‹_› (fun hc => ?_) (fun hc => ?_) | refine Rf.prec ?_ | refine Rf.close (by rfl) ‹_› (fun b hb => ?_) | refine Rf.dead (fun hd => ?_) (fun hd => ?_) | refine Rf.fail ‹_› (fun b hb => ?_) | refine Rf.none_ ‹_› (fun b hb => ?_) | refine Rf.up ‹_› (fun b hb => ?_) | refine Rf.callU ‹_› (ih.1 _ _ (by first | rfl | assumption) ‹_›) (fun r b hb hbl => ?_) | refine Rf.callI ‹_› (ih.1 _ _ (by rfl) ‹_›) (fun r b hb hbl => ?_) | refine Rf.callB ‹_› (ih.1 _ _ (by rfl) ‹_›) (fun r b hb hbl => ?_) | exact Rf.tail (ih.2 _ _ _ _ _ (by first | rfl | assumption) (by trivial) ‹_› (by first | assumption | omega)) | (refine Rf.ite (fun hc => ?_) (fun hc => ?_) <;> (try simp only [decide_eq_true_eq, gt_iff_lt, ge_iff_le, Bool.not_eq_true', decide_eq_false_iff_not, Bool.not_eq_true, ne_eq, Decidable.not_not] at hc) <;> first | exact absurd trivial hc | subst hc | simp only [hc, ne_eq, qm, decide_true, decide_false, Bool.not_true, Bool.not_false, Bool.false_eq_true, if_true, if_false, reduceIte] | skip) | refine Rf.lit (by rfl) (live_of_kind ‹_› (by decide)) ‹_› (fun c => ?_))
theorem r_unless (ih : IH n) (ks : List Int) (hk : ks.length < 1099511627776) (hg : a.good) : Rf (runM (callN n) (body (.unless ks)) a []) (W .prog (argsOf (.unless ks)).1 (argsOf (.unless ks)).2 (toP a)) (resE (.unless ks) a) := by
 refine Rf.fix unless_.fd n ?_
 simp only [argsOf, body]
 rw [unless__eq]
 refine Rf.comes hk hg (fun hc => ?_) (fun hc => ?_) <;> (try simp only [qn, reduceIte, Int.reduceEq, if_true, if_false])
 all_goals repeat' ((try simp only [qn, reduceIte, Int.reduceEq, if_true, if_false]); first | exact Rf.ret rfl | refine Rf.mark ?_ | refine Rf.kind ‹_› (fun x hx => ?_) | refine Rf.take ‹_› (fun b hb hbt => ?_) | refine Rf.expect (by decide) ‹_› (fun b hb => ?_) (fun b hb => ?_) | refine Rf.taken (by decide) ‹_› (fun b hc hb hbt => ?_) (fun hc => ?_) | refine Rf.comes (by decide) ‹_› (fun hc => ?_) (fun hc => ?_) | refine Rf.prec ?_ | refine Rf.close (by rfl) ‹_› (fun b hb => ?_) | refine Rf.dead (fun hd => ?_) (fun hd => ?_) | refine Rf.fail ‹_› (fun b hb => ?_) | refine Rf.none_ ‹_› (fun b hb => ?_) | refine Rf.up ‹_› (fun b hb => ?_) | refine Rf.callU ‹_› (ih.1 _ _ (by first | rfl | assumption) ‹_›) (fun r b hb hbl => ?_) | refine Rf.callI ‹_› (ih.1 _ _ (by rfl) ‹_›) (fun r b hb hbl => ?_) | refine Rf.callB ‹_› (ih.1 _ _ (by rfl) ‹_›) (fun r b hb hbl => ?_) | exact Rf.tail (ih.2 _ _ _ _ _ (by first | rfl | assumption) (by trivial) ‹_› (by first | assumption | omega)) | (refine Rf.ite (fun hc => ?_) (fun hc => ?_) <;> (try simp only [decide_eq_true_eq, gt_iff_lt, ge_iff_le, Bool.not_eq_true', decide_eq_false_iff_not, Bool.not_eq_true, ne_eq, Decidable.not_not] at hc) <;> first | exact absurd trivial hc | subst hc | simp only [hc, ne_eq, qm, decide_true, decide_false, Bool.not_true, Bool.not_false, Bool.false_eq_true, if_true, if_false, reduceIte] | skip) | refine Rf.lit (by rfl) (live_of_kind ‹_› (by decide)) ‹_› (fun c => ?_))
theorem r_field (ih : IH n) (hg : a.good) : Rf (runM (callN n) (body .field) a []) (W .prog (argsOf .field).1 (argsOf .field).2 (toP a)) (resE .field a) := by
 refine Rf.fix field.fd n ?_
 simp only [argsOf, body]
 rw [field_eq]
 refine Rf.mark ?_
 refine Rf.comes (by decide) hg (fun hc => ?_) (fun hc => ?_) <;> (try simp only [qn, reduceIte, Int.reduceEq, if_true, if_false])
 ·repeat' ((try simp only [qn, reduceIte, Int.reduceEq, if_true, if_false]); first | exact Rf.ret rfl | refine Rf.mark ?_ | refine Rf.kind ‹_› (fun x hx => ?_) | refine Rf.take ‹_› (fun b hb hbt => ?_) | refine Rf.expect (by decide) ‹_› (fun b hb => ?_) (fun b hb => ?_) | refine Rf.taken (by decide) ‹_› (fun b hc hb hbt => ?_) (fun hc => ?_) | refine Rf.comes (by decide) ‹_› (fun hc => ?_) (fun hc => ?_) | refine Rf.prec ?_ | refine Rf.close (by rfl) ‹_› (fun b hb => ?_) | refine Rf.dead (fun hd => ?_) (fun hd => ?_) | refine Rf.fail ‹_› (fun b hb => ?_) | refine Rf.none_ ‹_› (fun b hb => ?_) | refine Rf.up ‹_› (fun b hb => ?_) | refine Rf.callU ‹_› (ih.1 _ _ (by first | rfl | assumption) ‹_›) (fun r b hb hbl => ?_) | refine Rf.callI ‹_› (ih.1 _ _ (by rfl) ‹_›) (fun r b hb hbl => ?_) | refine Rf.callB ‹_› (ih.1 _ _ (by rfl) ‹_›) (fun r b hb hbl => ?_) | exact Rf.tail (ih.2 _ _ _ _ _ (by first | rfl | assumption) (by trivial) ‹_› (by first | assumption | omega)) | (refine Rf.ite (fun hc => ?_) (fun hc => ?_) <;> (try simp only [decide_eq_true_eq, gt_iff_lt, ge_iff_le, Bool.not_eq_true', decide_eq_false_iff_not, Bool.not_eq_true, ne_eq, Decidable.not_not] at hc) <;> first | exact absurd trivial hc | subst hc | simp only [hc, ne_eq, qm, decide_true, decide_false, Bool.not_true, Bool.not_false, Bool.false_eq_true, if_true, if_false, reduceIte] | skip) | refine Rf.lit (by rfl) (live_of_kind ‹_› (by decide)) ‹_› (fun c => ?_))
 ·refine Rf.lookB (W_embedded hg.took) (fun hc => ?_) (fun hc => ?_) <;> (try simp only [qn, reduceIte, Int.reduceEq, if_true, if_false])
  all_goals repeat' ((try simp only [qn, reduceIte, Int.reduceEq, if_true, if_false]); first | exact Rf.ret rfl | refine Rf.mark ?_ | refine Rf.kind ‹_› (fun x hx => ?_) | refine Rf.take ‹_› (fun b hb hbt => ?_) | refine Rf.expect (by decide) ‹_› (fun b hb => ?_) (fun b hb => ?_) | refine Rf.taken (by decide) ‹_› (fun b hc hb hbt => ?_) (fun hc => ?_) | refine Rf.comes (by decide) ‹_› (fun hc => ?_) (fun hc => ?_) | refine Rf.prec ?_ | refine Rf.close (by rfl) ‹_› (fun b hb => ?_) | refine Rf.dead (fun hd => ?_) (fun hd => ?_) | refine Rf.fail ‹_› (fun b hb => ?_) | refine Rf.none_ ‹_› (fun b hb => ?_) | refine Rf.up ‹_› (fun b hb => ?_) | refine Rf.callU ‹_› (ih.1 _ _ (by first | rfl | assumption) ‹_›) (fun r b hb hbl => ?_) | refine Rf.callI ‹_› (ih.1 _ _ (by rfl) ‹_›) (fun r b hb hbl => ?_) | refine Rf.callB ‹_› (ih.1 _ _ (by rfl) ‹_›) (fun r b hb hbl => ?_) | exact Rf.tail (ih.2 _ _ _ _ _ (by first | rfl | assumption) (by trivial) ‹_› (by first | assumption | omega)) | (refine Rf.ite (fun hc => ?_) (fun hc => ?_) <;> (try simp only [decide_eq_true_eq, gt_iff_lt, ge_iff_le, Bool.not_eq_true', decide_eq_false_iff_not, Bool.not_eq_true, ne_eq, Decidable.not_not] at hc) <;> first | exact absurd trivial hc | subst hc | simp only [hc, ne_eq, qm, decide_true, decide_false, Bool.not_true, Bool.not_false, Bool.false_eq_true, if_true, if_false, reduceIte] | skip) | refine Rf.lit (by rfl) (live_of_kind ‹_› (by decide)) ‹_› (fun c => ?_))
theorem r_flat (ih : IH n) (hg : a.good) : Rf (runM (callN n) (body .flat) a []) (W .prog (argsOf .flat).1 (argsOf .flat).2 (toP a)) (resE .flat a) := by
 refine Rf.fix flat.fd n ?_
 simp only [argsOf, body]
 rw [flat_eq]
 have := hg.len
 exact Rf.tail (ih.2 _ _ _ _ _ (by rfl) (by show (0 : Int).natAbs + a.rest.length < 2199023255552; simp; omega) hg (Nat.le_refl _))
theorem r_flatL (ih : IH n) (k : Int) (hg : a.good) (ms : List Int) (hp : Pre (.flatL k) ms a) (lim n0 : Nat) (hn : n ≤ n0) : Rf (runM (callN n) (body (.flatL k)) a ms) (loopOf (.flatL k) ms lim (n0 + 1) a) (resE (.flatL k) a) := by
 simp only [loopOf, body]
 rw [flat.l0_succ]
 have hp' : k.natAbs + a.rest.length < 2199023255552 := hp
 refine Rf.kind hg fun x hx => ?_
 refine Rf.ite (fun hc => ?_) (fun hc => ?_) <;> simp only [decide_eq_true_eq] at hc
 ·subst hc; (try simp only [qn, reduceIte, Int.reduceEq, if_true, if_false])
  repeat' ((try simp only [qn, reduceIte, Int.reduceEq, if_true, if_false]); first | exact Rf.ret rfl | refine Rf.mark ?_ | refine Rf.kind ‹_› (fun x hx => ?_) | refine Rf.take ‹_› (fun b hb hbt => ?_) | refine Rf.expect (by decide) ‹_› (fun b hb => ?_) (fun b hb => ?_) | refine Rf.taken (by decide) ‹_› (fun b hc hb hbt => ?_) (fun hc => ?_) | refine Rf.comes (by decide) ‹_› (fun hc => ?_) (fun hc => ?_) | refine Rf.prec ?_ | refine Rf.close (by rfl) ‹_› (fun b hb => ?_) | refine Rf.dead (fun hd => ?_) (fun hd => ?_) | refine Rf.fail ‹_› (fun b hb => ?_) | refine Rf.none_ ‹_› (fun b hb => ?_) | refine Rf.up ‹_› (fun b hb => ?_) | refine Rf.callU ‹_› (ih.1 _ _ (by first | rfl | assumption) ‹_›) (fun r b hb hbl => ?_) | refine Rf.callI ‹_› (ih.1 _ _ (by rfl) ‹_›) (fun r b hb hbl => ?_) | refine Rf.callB ‹_› (ih.1 _ _ (by rfl) ‹_›) (fun r b hb hbl => ?_) | exact Rf.tail (ih.2 _ _ _ _ _ (by first | rfl | assumption) (by trivial) ‹_› (by first | assumption | omega)) | (refine Rf.ite (fun hc => ?_) (fun hc => ?_) <;> (try simp only [decide_eq_true_eq, gt_iff_lt, ge_iff_le, Bool.not_eq_true', decide_eq_false_iff_not, Bool.not_eq_true, ne_eq, Decidable.not_not] at hc) <;> first | exact absurd trivial hc | subst hc | simp only [hc, ne_eq, qm, decide_true, decide_false, Bool.not_true, Bool.not_false, Bool.false_eq_true, if_true, if_false, reduceIte] | skip) | refine Rf.lit (by rfl) (live_of_kind ‹_› (by decide)) ‹_› (fun c => ?_))
 have hlt : a.take.rest.length < a.rest.length := take_lt (by rw [← hx]; exact hc)
 simp only [hc, if_false]
 refine Rf.ite (fun hc => ?_) (fun hc => ?_) <;> simp only [decide_eq_true_eq] at hc
 ·subst hc; (try simp only [qn, reduceIte, Int.reduceEq, if_true, if_false])
  refine Rf.take hg fun b hb hbt => ?_
  rw [wi _ (by omega) (by omega)]
  refine Rf.ite (fun hc => ?_) (fun hc => ?_) <;> simp only [decide_eq_true_eq] at hc
  ·rw [if_pos hc]; repeat' ((try simp only [qn, reduceIte, Int.reduceEq, if_true, if_false]); first | exact Rf.ret rfl | refine Rf.mark ?_ | refine Rf.kind ‹_› (fun x hx => ?_) | refine Rf.take ‹_› (fun b hb hbt => ?_) | refine Rf.expect (by decide) ‹_› (fun b hb => ?_) (fun b hb => ?_) | refine Rf.taken (by decide) ‹_› (fun b hc hb hbt => ?_) (fun hc => ?_) | refine Rf.comes (by decide) ‹_› (fun hc => ?_) (fun hc => ?_) | refine Rf.prec ?_ | refine Rf.close (by rfl) ‹_› (fun b hb => ?_) | refine Rf.dead (fun hd => ?_) (fun hd => ?_) | refine Rf.fail ‹_› (fun b hb => ?_) | refine Rf.none_ ‹_› (fun b hb => ?_) | refine Rf.up ‹_› (fun b hb => ?_) | refine Rf.callU ‹_› (ih.1 _ _ (by first | rfl | assumption) ‹_›) (fun r b hb hbl => ?_) | refine Rf.callI ‹_› (ih.1 _ _ (by rfl) ‹_›) (fun r b hb hbl => ?_) | refine Rf.callB ‹_› (ih.1 _ _ (by rfl) ‹_›) (fun r b hb hbl => ?_) | exact Rf.tail (ih.2 _ _ _ _ _ (by first | rfl | assumption) (by trivial) ‹_› (by first | assumption | omega)) | (refine Rf.ite (fun hc => ?_) (fun hc => ?_) <;> (try simp only [decide_eq_true_eq, gt_iff_lt, ge_iff_le, Bool.not_eq_true', decide_eq_false_iff_not, Bool.not_eq_true, ne_eq, Decidable.not_not] at hc) <;> first | exact absurd trivial hc | subst hc | simp only [hc, ne_eq, qm, decide_true, decide_false, Bool.not_true, Bool.not_false, Bool.false_eq_true, if_true, if_false, reduceIte] | skip) | refine Rf.lit (by rfl) (live_of_kind ‹_› (by decide)) ‹_› (fun c => ?_))
  ·rw [if_neg hc]
   exact Rf.tail (ih.2 _ _ _ _ _ (by rfl) (by show (k + 1).natAbs + b.rest.length < 2199023255552; rw [hbt]; omega) hb hn)
 simp only [hc, if_false]
 refine Rf.ite (fun hc => ?_) (fun hc => ?_) <;> simp only [decide_eq_true_eq] at hc
 ·subst hc; (try simp only [qn, reduceIte, Int.reduceEq, if_true, if_false])
  refine Rf.take hg fun b hb hbt => ?_
  rw [wi _ (by omega) (by omega)]
  refine Rf.ite (fun hc => ?_) (fun hc => ?_) <;> simp only [decide_eq_true_eq] at hc
  ·rw [if_pos hc]; repeat' ((try simp only [qn, reduceIte, Int.reduceEq, if_true, if_false]); first | exact Rf.ret rfl | refine Rf.mark ?_ | refine Rf.kind ‹_› (fun x hx => ?_) | refine Rf.take ‹_› (fun b hb hbt => ?_) | refine Rf.expect (by decide) ‹_› (fun b hb => ?_) (fun b hb => ?_) | refine Rf.taken (by decide) ‹_› (fun b hc hb hbt => ?_) (fun hc => ?_) | refine Rf.comes (by decide) ‹_› (fun hc => ?_) (fun hc => ?_) | refine Rf.prec ?_ | refine Rf.close (by rfl) ‹_› (fun b hb => ?_) | refine Rf.dead (fun hd => ?_) (fun hd => ?_) | refine Rf.fail ‹_› (fun b hb => ?_) | refine Rf.none_ ‹_› (fun b hb => ?_) | refine Rf.up ‹_› (fun b hb => ?_) | refine Rf.callU ‹_› (ih.1 _ _ (by first | rfl | assumption) ‹_›) (fun r b hb hbl => ?_) | refine Rf.callI ‹_› (ih.1 _ _ (by rfl) ‹_›) (fun r b hb hbl => ?_) | refine Rf.callB ‹_› (ih.1 _ _ (by rfl) ‹_›) (fun r b hb hbl => ?_) | exact Rf.tail (ih.2 _ _ _ _ _ (by first | rfl | assumption) (by trivial) ‹_› (by first | assumption | omega)) | (refine Rf.ite (fun hc => ?_) (fun hc => ?_) <;> (try simp only [decide_eq_true_eq, gt_iff_lt, ge_iff_le, Bool.not_eq_true', decide_eq_false_iff_not, Bool.not_eq_true, ne_eq, Decidable.not_not] at hc) <;> first | exact absurd trivial hc | subst hc | simp only [hc, ne_eq, qm, decide_true, decide_false, Bool.not_true, Bool.not_false, Bool.false_eq_true, if_true, if_false, reduceIte] | skip) | refine Rf.lit (by rfl) (live_of_kind ‹_› (by decide)) ‹_› (fun c => ?_))
  ·rw [if_neg hc]
   exact Rf.tail (ih.2 _ _ _ _ _ (by rfl) (by show (k - 1).natAbs + b.rest.length < 2199023255552; rw [hbt]; omega) hb hn)
 simp only [hc, if_false]
 refine Rf.take hg fun b hb hbt => ?_
 refine Rf.ite (fun hc => ?_) (fun hc => ?_) <;> simp only [decide_eq_true_eq] at hc
 ·rw [if_pos hc]; repeat' ((try simp only [qn, reduceIte, Int.reduceEq, if_true, if_false]); first | exact Rf.ret rfl | refine Rf.mark ?_ | refine Rf.kind ‹_› (fun x hx => ?_) | refine Rf.take ‹_› (fun b hb hbt => ?_) | refine Rf.expect (by decide) ‹_› (fun b hb => ?_) (fun b hb => ?_) | refine Rf.taken (by decide) ‹_› (fun b hc hb hbt => ?_) (fun hc => ?_) | refine Rf.comes (by decide) ‹_› (fun hc => ?_) (fun hc => ?_) | refine Rf.prec ?_ | refine Rf.close (by rfl) ‹_› (fun b hb => ?_) | refine Rf.dead (fun hd => ?_) (fun hd => ?_) | refine Rf.fail ‹_› (fun b hb => ?_) | refine Rf.none_ ‹_› (fun b hb => ?_) | refine Rf.up ‹_› (fun b hb => ?_) | refine Rf.callU ‹_› (ih.1 _ _ (by first | rfl | assumption) ‹_›) (fun r b hb hbl => ?_) | refine Rf.callI ‹_› (ih.1 _ _ (by rfl) ‹_›) (fun r b hb hbl => ?_) | refine Rf.callB ‹_› (ih.1 _ _ (by rfl) ‹_›) (fun r b hb hbl => ?_) | exact Rf.tail (ih.2 _ _ _ _ _ (by first | rfl | assumption) (by trivial) ‹_› (by first | assumption | omega)) | (refine Rf.ite (fun hc => ?_) (fun hc => ?_) <;> (try simp only [decide_eq_true_eq, gt_iff_lt, ge_iff_le, Bool.not_eq_true', decide_eq_false_iff_not, Bool.not_eq_true, ne_eq, Decidable.not_not] at hc) <;> first | exact absurd trivial hc | subst hc | simp only [hc, ne_eq, qm, decide_true, decide_false, Bool.not_true, Bool.not_false, Bool.false_eq_true, if_true, if_false, reduceIte] | skip) | refine Rf.lit (by rfl) (live_of_kind ‹_› (by decide)) ‹_› (fun c => ?_))
 ·rw [if_neg hc]
  exact Rf.tail (ih.2 _ _ _ _ _ (by rfl) (by show k.natAbs + b.rest.length < 2199023255552; rw [hbt]; omega) hb hn)
theorem Rf.markT {x : Option (Int × A)} {K : Int → PS → Option (AV × PS)} {e : Int → A → AV} (h : Rf x (K a.row.length (toP a)) e) : Rf x (cX W .i .prog Mark.n [.rdr 0] (toP a) K) e := by
 rw [cX_i W_Mark]; exact h
theorem r_entryM (ih : IH n) (v : Int) (u : Bool) (hu : u = decide (v ≠ 0)) (c : A) (hg : a.good) : Rf (runM (callN n) (entryM v) a [])
  (cX W .b .prog comes.n [.rdr 0, .sl .int [56]] (toP a) fun (x7 : Bool) (p8 : PS) =>
   if x7 then
   cX W .u .prog node.n [.rdr 0, .int 234, .clos entry1.n [] [.cbox (.rdr 0)]] p8 fun _ (p10 : PS) =>
   cX W .i .prog Mark.n [.rdr 0] p10 fun (x11 : Int) (p12 : PS) =>
   some (.agg [.int c.row.length, .int x11, .bool u], p12)
   else
   cX W .u .prog Type_.n [.rdr 0] p8 fun _ (p14 : PS) =>
   cX W .i .prog Mark.n [.rdr 0] p14 fun (x15 : Int) (p16 : PS) =>
   some (.agg [.int c.row.length, .int x15, .bool u], p16)) (resE .entry c) := by
 unfold entryM
 refine Rf.comes (by decide) hg (fun hc => ?_) (fun hc => ?_) <;> (try simp only [qn, reduceIte, Int.reduceEq, if_true, if_false])
 ·refine Rf.callU hg (ih.1 _ _ (by rfl) hg) fun r b hb hbl => ?_
  refine Rf.markT (Rf.ret ?_)
  rw [hu]; rfl
 ·refine Rf.callU hg (ih.1 _ _ (by rfl) hg) fun r b hb hbl => ?_
  refine Rf.markT (Rf.ret ?_)
  rw [hu]; rfl
theorem r_entry (ih : IH n) (hg : a.good) : Rf (runM (callN n) (body .entry) a []) (W .prog (argsOf .entry).1 (argsOf .entry).2 (toP a)) (resE .entry a) := by
 refine Rf.fix entry.fd n ?_
 simp only [argsOf, body]
 rw [entry_eq]
 refine Rf.markT ?_
 refine Rf.lookB (W_hasName hg.took) (fun hc => ?_) (fun hc => ?_) <;> (try simp only [qn, reduceIte, Int.reduceEq, if_true, if_false])
 ·refine Rf.callU hg (ih.1 _ _ (by rfl) hg) fun r b hb hbl => ?_
  exact r_entryM ih 1 true rfl a hb
 ·exact r_entryM ih 0 false rfl a hg
theorem r_element (ih : IH n) (hg : a.good) : Rf (runM (callN n) (body .element) a []) (W .prog (argsOf .element).1 (argsOf .element).2 (toP a)) (resE .element a) := by
 refine Rf.fix element.fd n ?_
 simp only [argsOf, body]
 rw [element_eq]
 refine Rf.mark ?_
 rw [cX_i (W_Kind hg.took)]
 show Rf (runM (callN n) (if (decide (a.kinds.getD 0 0 = 10) && decide (a.kinds.getD 1 0 = 57)) = true then go .Name (go .Sig (.close 0 228 done)) else go .union (.close 0 229 done)) a _) _ _
 by_cases h0 : a.kinds.getD 0 0 = 10
 ·rw [if_pos (decide_eq_true h0), cX_i (show W .prog Ahead.n [.rdr 0, .int 1] (toP a) = _ from W_Ahead' hg.took 1), decide_eq_true h0]
  by_cases h1 : a.kinds.getD 1 0 = 57
  ·rw [if_pos (decide_eq_true h1), decide_eq_true h1]
   simp only [Bool.and_self, if_true]
   repeat' ((try simp only [qn, reduceIte, Int.reduceEq, if_true, if_false]); first | exact Rf.ret rfl | refine Rf.mark ?_ | refine Rf.kind ‹_› (fun x hx => ?_) | refine Rf.take ‹_› (fun b hb hbt => ?_) | refine Rf.expect (by decide) ‹_› (fun b hb => ?_) (fun b hb => ?_) | refine Rf.taken (by decide) ‹_› (fun b hc hb hbt => ?_) (fun hc => ?_) | refine Rf.comes (by decide) ‹_› (fun hc => ?_) (fun hc => ?_) | refine Rf.prec ?_ | refine Rf.close (by rfl) ‹_› (fun b hb => ?_) | refine Rf.dead (fun hd => ?_) (fun hd => ?_) | refine Rf.fail ‹_› (fun b hb => ?_) | refine Rf.none_ ‹_› (fun b hb => ?_) | refine Rf.up ‹_› (fun b hb => ?_) | refine Rf.callU ‹_› (ih.1 _ _ (by first | rfl | assumption) ‹_›) (fun r b hb hbl => ?_) | refine Rf.callI ‹_› (ih.1 _ _ (by rfl) ‹_›) (fun r b hb hbl => ?_) | refine Rf.callB ‹_› (ih.1 _ _ (by rfl) ‹_›) (fun r b hb hbl => ?_) | exact Rf.tail (ih.2 _ _ _ _ _ (by first | rfl | assumption) (by trivial) ‹_› (by first | assumption | omega)) | (refine Rf.ite (fun hc => ?_) (fun hc => ?_) <;> (try simp only [decide_eq_true_eq, gt_iff_lt, ge_iff_le, Bool.not_eq_true', decide_eq_false_iff_not, Bool.not_eq_true, ne_eq, Decidable.not_not] at hc) <;> first | exact absurd trivial hc | subst hc | simp only [hc, ne_eq, qm, decide_true, decide_false, Bool.not_true, Bool.not_false, Bool.false_eq_true, if_true, if_false, reduceIte] | skip) | refine Rf.lit (by rfl) (live_of_kind ‹_› (by decide)) ‹_› (fun c => ?_))
  ·rw [if_neg (c := decide (a.kinds.getD 1 0 = 57) = true) (by simp only [decide_eq_true_eq]; exact h1), decide_eq_false h1]
   simp only [Bool.and_false, Bool.false_eq_true, if_false]
   repeat' ((try simp only [qn, reduceIte, Int.reduceEq, if_true, if_false]); first | exact Rf.ret rfl | refine Rf.mark ?_ | refine Rf.kind ‹_› (fun x hx => ?_) | refine Rf.take ‹_› (fun b hb hbt => ?_) | refine Rf.expect (by decide) ‹_› (fun b hb => ?_) (fun b hb => ?_) | refine Rf.taken (by decide) ‹_› (fun b hc hb hbt => ?_) (fun hc => ?_) | refine Rf.comes (by decide) ‹_› (fun hc => ?_) (fun hc => ?_) | refine Rf.prec ?_ | refine Rf.close (by rfl) ‹_› (fun b hb => ?_) | refine Rf.dead (fun hd => ?_) (fun hd => ?_) | refine Rf.fail ‹_› (fun b hb => ?_) | refine Rf.none_ ‹_› (fun b hb => ?_) | refine Rf.up ‹_› (fun b hb => ?_) | refine Rf.callU ‹_› (ih.1 _ _ (by first | rfl | assumption) ‹_›) (fun r b hb hbl => ?_) | refine Rf.callI ‹_› (ih.1 _ _ (by rfl) ‹_›) (fun r b hb hbl => ?_) | refine Rf.callB ‹_› (ih.1 _ _ (by rfl) ‹_›) (fun r b hb hbl => ?_) | exact Rf.tail (ih.2 _ _ _ _ _ (by first | rfl | assumption) (by trivial) ‹_› (by first | assumption | omega)) | (refine Rf.ite (fun hc => ?_) (fun hc => ?_) <;> (try simp only [decide_eq_true_eq, gt_iff_lt, ge_iff_le, Bool.not_eq_true', decide_eq_false_iff_not, Bool.not_eq_true, ne_eq, Decidable.not_not] at hc) <;> first | exact absurd trivial hc | subst hc | simp only [hc, ne_eq, qm, decide_true, decide_false, Bool.not_true, Bool.not_false, Bool.false_eq_true, if_true, if_false, reduceIte] | skip) | refine Rf.lit (by rfl) (live_of_kind ‹_› (by decide)) ‹_› (fun c => ?_))
 ·rw [if_neg (c := decide (a.kinds.getD 0 0 = 10) = true) (by simp only [decide_eq_true_eq]; exact h0), decide_eq_false h0]
  simp only [Bool.false_and, Bool.false_eq_true, if_false]
  repeat' ((try simp only [qn, reduceIte, Int.reduceEq, if_true, if_false]); first | exact Rf.ret rfl | refine Rf.mark ?_ | refine Rf.kind ‹_› (fun x hx => ?_) | refine Rf.take ‹_› (fun b hb hbt => ?_) | refine Rf.expect (by decide) ‹_› (fun b hb => ?_) (fun b hb => ?_) | refine Rf.taken (by decide) ‹_› (fun b hc hb hbt => ?_) (fun hc => ?_) | refine Rf.comes (by decide) ‹_› (fun hc => ?_) (fun hc => ?_) | refine Rf.prec ?_ | refine Rf.close (by rfl) ‹_› (fun b hb => ?_) | refine Rf.dead (fun hd => ?_) (fun hd => ?_) | refine Rf.fail ‹_› (fun b hb => ?_) | refine Rf.none_ ‹_› (fun b hb => ?_) | refine Rf.up ‹_› (fun b hb => ?_) | refine Rf.callU ‹_› (ih.1 _ _ (by first | rfl | assumption) ‹_›) (fun r b hb hbl => ?_) | refine Rf.callI ‹_› (ih.1 _ _ (by rfl) ‹_›) (fun r b hb hbl => ?_) | refine Rf.callB ‹_› (ih.1 _ _ (by rfl) ‹_›) (fun r b hb hbl => ?_) | exact Rf.tail (ih.2 _ _ _ _ _ (by first | rfl | assumption) (by trivial) ‹_› (by first | assumption | omega)) | (refine Rf.ite (fun hc => ?_) (fun hc => ?_) <;> (try simp only [decide_eq_true_eq, gt_iff_lt, ge_iff_le, Bool.not_eq_true', decide_eq_false_iff_not, Bool.not_eq_true, ne_eq, Decidable.not_not] at hc) <;> first | exact absurd trivial hc | subst hc | simp only [hc, ne_eq, qm, decide_true, decide_false, Bool.not_true, Bool.not_false, Bool.false_eq_true, if_true, if_false, reduceIte] | skip) | refine Rf.lit (by rfl) (live_of_kind ‹_› (by decide)) ‹_› (fun c => ?_))
theorem r_Params1 (ih : IH n) (hg : a.good) : Rf (runM (callN n) (body .Params1) a []) (W .prog (argsOf .Params1).1 (argsOf .Params1).2 (toP a)) (resE .Params1 a) := by
 refine Rf.fix Params1.fd n ?_
 simp only [argsOf, body]
 rw [Params1_eq]
 have hpre : ∀ b : A, Pre (.ParamsL []) (([] : List Nat).map fun h => ([] : List Int).getD h 0) b := fun b => ⟨rfl, by decide, fun m hm => by cases hm⟩
 refine Rf.expect (by decide) hg (fun b hb => ?_) (fun b hb => ?_)
 ·exact Rf.tail (ih.2 _ _ _ _ _ (by rfl) (hpre b) hb (Nat.le_refl _))
 ·exact Rf.tail (ih.2 _ _ _ _ _ (by rfl) (hpre b) hb (Nat.le_refl _))
theorem entsOf_snoc : ∀ (ms : List Int) (ns : List Bool) (f t : Int) (b : Bool), ms.length = 2 * ns.length → entsOf (ms ++ [f, t]) (ns ++ [b]) = entsOf ms ns ++ [⟨f, t, b⟩]
 | [], [], f, t, b, _ => rfl
 | [], _ :: _, f, t, b, h => by simp at h
 | [_], ns, f, t, b, h => by simp at h; omega
 | _ :: _ :: ms, [], f, t, b, h => by simp at h
 | x :: y :: ms, c :: ns, f, t, b, h => by
  simp only [List.cons_append, entsOf]
  rw [entsOf_snoc ms ns f t b (by simp only [List.length_cons] at h; omega)]
theorem entsOf_pos : ∀ (ms : List Int) (ns : List Bool), msok ms → EntPos (entsOf ms ns)
 | [], _, _ => fun e he => by simp [entsOf] at he
 | [_], _, _ => fun e he => by simp [entsOf] at he
 | _ :: _ :: _, [], _ => fun e he => by simp [entsOf] at he
 | f :: t :: ms, b :: ns, h => fun e he => by
  simp only [entsOf, List.mem_cons] at he
  rcases he with rfl | he
  ·exact ⟨h f (by simp), h t (by simp)⟩
  ·exact entsOf_pos ms ns (fun m hm => h m (by simp [hm])) e he
theorem range_getD (l : List Int) (k : Nat) (h : l.length = k) : (List.range k).map (fun i => l.getD i 0) = l := by
 subst h
 apply List.ext_getElem
 ·simp
 ·intro i h1 h2
  simp only [List.getElem_map, List.getElem_range, List.getD_eq_getElem?_getD, List.getElem?_eq_getElem h2]; rfl
theorem r_groupM (ih : IH n) (ns : List Bool) (hns : ns.length < 4294967296) (hg : a.good) (ms : List Int) (l : List Ent) (hl : entsOf ms ns = l) (hp : EntPos l) (e : Int → A → AV) (he : e = fun _ _ => .undef) (any : Bool) (ha : any = ns.any id) :
  Rf (runM (callN n) (groupM ns) a ms) (if any then
   cX W .u .prog names.n [.rdr 0, .sl .ent l] (toP a) fun _ (p30 : PS) =>
   cX W .u .prog group.n [.rdr 0, .sl .ent l, .bool any] p30 fun _ (p32 : PS) =>
   cX W .b .prog Expect.n [.rdr 0, .int 62] p32 fun (x33 : Bool) (p34 : PS) =>
   some (.undef, p34)
   else
   cX W .u .prog group.n [.rdr 0, .sl .ent l, .bool any] (toP a) fun _ (p36 : PS) =>
   cX W .b .prog Expect.n [.rdr 0, .int 62] p36 fun (x37 : Bool) (p38 : PS) =>
   some (.undef, p38)) e := by
 subst he
 unfold groupM
 rw [← ha]
 cases any with
 | true =>
  (try simp only [qn, reduceIte, Int.reduceEq, if_true, if_false])
  refine Rf.names hns hl hp hg fun b hb => ?_
  refine Rf.group hns hl hb fun c hc => ?_
  repeat' ((try simp only [qn, reduceIte, Int.reduceEq, if_true, if_false]); first | exact Rf.ret rfl | refine Rf.mark ?_ | refine Rf.kind ‹_› (fun x hx => ?_) | refine Rf.take ‹_› (fun b hb hbt => ?_) | refine Rf.expect (by decide) ‹_› (fun b hb => ?_) (fun b hb => ?_) | refine Rf.taken (by decide) ‹_› (fun b hc hb hbt => ?_) (fun hc => ?_) | refine Rf.comes (by decide) ‹_› (fun hc => ?_) (fun hc => ?_) | refine Rf.prec ?_ | refine Rf.close (by rfl) ‹_› (fun b hb => ?_) | refine Rf.dead (fun hd => ?_) (fun hd => ?_) | refine Rf.fail ‹_› (fun b hb => ?_) | refine Rf.none_ ‹_› (fun b hb => ?_) | refine Rf.up ‹_› (fun b hb => ?_) | refine Rf.callU ‹_› (ih.1 _ _ (by first | rfl | assumption) ‹_›) (fun r b hb hbl => ?_) | refine Rf.callI ‹_› (ih.1 _ _ (by rfl) ‹_›) (fun r b hb hbl => ?_) | refine Rf.callB ‹_› (ih.1 _ _ (by rfl) ‹_›) (fun r b hb hbl => ?_) | exact Rf.tail (ih.2 _ _ _ _ _ (by first | rfl | assumption) (by trivial) ‹_› (by first | assumption | omega)) | (refine Rf.ite (fun hc => ?_) (fun hc => ?_) <;> (try simp only [decide_eq_true_eq, gt_iff_lt, ge_iff_le, Bool.not_eq_true', decide_eq_false_iff_not, Bool.not_eq_true, ne_eq, Decidable.not_not] at hc) <;> first | exact absurd trivial hc | subst hc | simp only [hc, ne_eq, qm, decide_true, decide_false, Bool.not_true, Bool.not_false, Bool.false_eq_true, if_true, if_false, reduceIte] | skip) | refine Rf.lit (by rfl) (live_of_kind ‹_› (by decide)) ‹_› (fun c => ?_))
 | false =>
  (try simp only [qn, reduceIte, Int.reduceEq, if_true, if_false])
  refine Rf.group hns hl hg fun c hc => ?_
  repeat' ((try simp only [qn, reduceIte, Int.reduceEq, if_true, if_false]); first | exact Rf.ret rfl | refine Rf.mark ?_ | refine Rf.kind ‹_› (fun x hx => ?_) | refine Rf.take ‹_› (fun b hb hbt => ?_) | refine Rf.expect (by decide) ‹_› (fun b hb => ?_) (fun b hb => ?_) | refine Rf.taken (by decide) ‹_› (fun b hc hb hbt => ?_) (fun hc => ?_) | refine Rf.comes (by decide) ‹_› (fun hc => ?_) (fun hc => ?_) | refine Rf.prec ?_ | refine Rf.close (by rfl) ‹_› (fun b hb => ?_) | refine Rf.dead (fun hd => ?_) (fun hd => ?_) | refine Rf.fail ‹_› (fun b hb => ?_) | refine Rf.none_ ‹_› (fun b hb => ?_) | refine Rf.up ‹_› (fun b hb => ?_) | refine Rf.callU ‹_› (ih.1 _ _ (by first | rfl | assumption) ‹_›) (fun r b hb hbl => ?_) | refine Rf.callI ‹_› (ih.1 _ _ (by rfl) ‹_›) (fun r b hb hbl => ?_) | refine Rf.callB ‹_› (ih.1 _ _ (by rfl) ‹_›) (fun r b hb hbl => ?_) | exact Rf.tail (ih.2 _ _ _ _ _ (by first | rfl | assumption) (by trivial) ‹_› (by first | assumption | omega)) | (refine Rf.ite (fun hc => ?_) (fun hc => ?_) <;> (try simp only [decide_eq_true_eq, gt_iff_lt, ge_iff_le, Bool.not_eq_true', decide_eq_false_iff_not, Bool.not_eq_true, ne_eq, Decidable.not_not] at hc) <;> first | exact absurd trivial hc | subst hc | simp only [hc, ne_eq, qm, decide_true, decide_false, Bool.not_true, Bool.not_false, Bool.false_eq_true, if_true, if_false, reduceIte] | skip) | refine Rf.lit (by rfl) (live_of_kind ‹_› (by decide)) ‹_› (fun c => ?_))
theorem r_ParamsL (ih : IH n) (ns : List Bool) (hg : a.good) (ms : List Int) (hp : Pre (.ParamsL ns) ms a) (lim n0 : Nat) (hn : n ≤ n0) : Rf (runM (callN n) (body (.ParamsL ns)) a ms) (loopOf (.ParamsL ns) ms lim (n0 + 1) a) (resE (.ParamsL ns) a) := by
 obtain ⟨hp1, hp2, hp3⟩ := hp
 have hpos := entsOf_pos ms ns hp3
 simp only [loopOf, body]
 rw [Params1.l0_succ]
 refine Rf.dead (fun hd => ?_) (fun hd => ?_)
 rotate_left
 ·exact r_groupM ih ns (by omega) hg ms _ rfl hpos _ rfl _ rfl
 (try simp only [qn, reduceIte, Int.reduceEq, if_true, if_false])
 refine Rf.comes (by decide) hg (fun hc => ?_) (fun hc => ?_) <;> (try simp only [qn, reduceIte, Int.reduceEq, if_true, if_false])
 ·exact r_groupM ih ns (by omega) hg ms _ rfl hpos _ rfl _ rfl
 -- one entry more
 intro r b hx
 simp only [runM] at hx
 split at hx
 rotate_left
 ·cases hx
 rename_i hml0
 have hml : ms.length < 4294967264 := by simpa [hd] using hml0
 split at hx
 rotate_left
 ·cases hx
 rename_i v c hcall
 have hE := ih.1 .entry a rfl hg
 have hcg := callN_good n .entry a _ _ _ hg hcall
 split at hx
 rotate_left
 ·cases hx
 rename_i hml2
 have hWe : W .prog entry.n [.rdr 0] (toP a) = some (.agg [.int a.row.length, .int c.row.length, .bool (decide (v ≠ 0))], toP c) := hE _ _ hcall
 rw [cX_ent hWe]
 have hln := entsOf_length ms ns
 have hlen2 : (entsOf ms ns).length + ([(⟨(a.row.length : Int), (c.row.length : Int), decide (v ≠ 0)⟩ : Ent)]).length < maxRow := by
  simp only [List.length_singleton]; unfold maxRow
  omega
 rw [if_pos hlen2]
 have hms : ms ++ [(a.row.length : Int)] ++ [(c.row.length : Int)] = ms ++ [(a.row.length : Int), (c.row.length : Int)] := by simp
 rw [hms] at hx
 have hents := entsOf_snoc ms ns a.row.length c.row.length (decide (v ≠ 0)) hp1
 have hmsok : msok (ms ++ [(a.row.length : Int), (c.row.length : Int)]) := by
  intro m hm
  simp only [List.mem_append, List.mem_cons, List.not_mem_nil, or_false] at hm
  have h1 := hg.row
  have h2 := hcg.1.row
  rcases hm with hm | rfl | rfl
  ·exact hp3 m hm
  ·omega
  ·omega
 have hpos2 := entsOf_pos _ (ns ++ [decide (v ≠ 0)]) hmsok
 rw [hents] at hpos2
 have hmlen : (ms ++ [(a.row.length : Int), (c.row.length : Int)]).length = 2 * ns.length + 2 := by simp; omega
 have hany : (ns ++ [decide (v ≠ 0)]).any id = (ns.any id || decide (v ≠ 0)) := by simp
 -- what comes behind an entry
 have hbeh : ∀ any : Bool, any = (ns ++ [decide (v ≠ 0)]).any id → Rf (runM (callN n) (taken [60] fun t => if t then .call (.ParamsL (ns ++ [decide (v ≠ 0)])) (List.range (2 * ns.length + 2)) .ret else groupM (ns ++ [decide (v ≠ 0)])) c (ms ++ [(a.row.length : Int), (c.row.length : Int)]))
   (cX W .b .prog taken.n [.rdr 0, .sl .int [60]] (toP c) fun (x17 : Bool) (p18 : PS) =>
    if (!x17) then
    if any then
    cX W .u .prog names.n [.rdr 0, .sl .ent (entsOf ms ns ++ [(⟨(a.row.length : Int), (c.row.length : Int), decide (v ≠ 0)⟩ : Ent)])] p18 fun _ (p20 : PS) =>
    cX W .u .prog group.n [.rdr 0, .sl .ent (entsOf ms ns ++ [(⟨(a.row.length : Int), (c.row.length : Int), decide (v ≠ 0)⟩ : Ent)]), .bool any] p20 fun _ (p22 : PS) =>
    cX W .b .prog Expect.n [.rdr 0, .int 62] p22 fun (x23 : Bool) (p24 : PS) =>
    some (.undef, p24)
    else
    cX W .u .prog group.n [.rdr 0, .sl .ent (entsOf ms ns ++ [(⟨(a.row.length : Int), (c.row.length : Int), decide (v ≠ 0)⟩ : Ent)]), .bool any] p18 fun _ (p26 : PS) =>
    cX W .b .prog Expect.n [.rdr 0, .int 62] p26 fun (x27 : Bool) (p28 : PS) =>
    some (.undef, p28)
    else
    Params1.l0 W lim n0 (entsOf ms ns ++ [(⟨(a.row.length : Int), (c.row.length : Int), decide (v ≠ 0)⟩ : Ent)]) any p18) (resE (.ParamsL ns) a) := by
  intro any ha
  refine Rf.taken (by decide) hcg.1 (fun d hc hd hdt => ?_) (fun hc => ?_) <;> (try simp only [qn, reduceIte, Int.reduceEq, if_true, if_false])
  ·refine Rf.tail ?_
   rw [range_getD _ _ hmlen]
   have := ih.2 (.ParamsL (ns ++ [decide (v ≠ 0)])) d (ms ++ [(a.row.length : Int), (c.row.length : Int)]) lim n0 rfl ⟨by rw [hmlen]; simp; omega, by simp only [List.length_append, List.length_singleton]; omega, hmsok⟩ hd hn
   simp only [loopOf] at this
   rw [hents, ← ha] at this
   exact this
  ·exact r_groupM ih _ (by simp; omega) hcg.1 _ _ hents hpos2 _ rfl _ ha
 cases hna : ns.any id with
 | true =>
  rw [if_pos rfl]
  have := hbeh true (by rw [hany, hna]; rfl)
  exact this r b hx
 | false =>
  rw [if_neg (by decide)]
  exact hbeh (decide (v ≠ 0)) (by rw [hany, hna]; rfl) r b hx
end
theorem refs : ∀ n, IH n
 | 0 => ⟨fun pr a _ _ r b h => by simp [callN] at h, fun pr a ms lim n0 _ _ _ _ r b h => by simp [callN] at h⟩
 | n + 1 => by
  have ih := refs n
  refine ⟨fun pr a hf hg => ?_, fun pr a ms lim n0 hf hp hg hn => ?_⟩
  ·show Rf (runM (callN n) (body pr) a []) _ _
   cases pr with
   | deeper pr => simp only [fnP, Bool.and_eq_true] at hf; exact r_deeper ih hf.1 hf.2 hg
   | node k pr => simp only [fnP, Bool.and_eq_true] at hf; exact r_node ih hf.1 hf.2 hg
   | items pr => exact r_items ih hf hg
   | takeP => exact r_takeP ih hg
   | X h => exact r_X ih h hg
   | X1 h => exact r_X1 ih h hg
   | binary q h => exact r_binary ih q h hg
   | unary h => exact r_unary ih h hg
   | unary1 h => exact r_unary1 ih h hg
   | primary h => exact r_primary ih h hg
   | period => exact r_period ih hg
   | index => exact r_index ih hg
   | «unless» ks => exact r_unless ih ks (of_decide_eq_true hf) hg
   | arguments => exact r_arguments ih hg
   | value => exact r_value ih hg
   | value1 => exact r_value1 ih hg
   | values => exact r_values ih hg
   | operand => exact r_operand ih hg
   | flat => exact r_flat ih hg
   | Name => exact r_Name ih hg
   | «Type» => exact r_Type ih hg
   | form => exact r_form ih hg
   | elements => exact r_elements ih hg
   | qualified => exact r_qualified ih hg
   | field => exact r_field ih hg
   | element => exact r_element ih hg
   | union => exact r_union ih hg
   | Sig => exact r_Sig ih hg
   | Sig1 => exact r_Sig1 ih hg
   | Params => exact r_Params ih hg
   | Params1 => exact r_Params1 ih hg
   | entry => exact r_entry ih hg
   | entry1 => exact r_entry1 ih hg
   | _ => cases hf
  ·show Rf (runM (callN n) (body pr) a ms) _ _
   obtain ⟨n1, rfl⟩ : ∃ n1, n0 = n1 + 1 := ⟨n0 - 1, by omega⟩
   have hn : n ≤ n1 := by omega
   cases pr with
   | itemsL pr => have hf' := hf; simp only [lpP, Bool.and_eq_true] at hf; exact r_itemsL ih hf' hf.1 hf.2 hg lim n1 hn
   | binaryL q h => exact r_binaryL ih q h hg ms lim n1 hn
   | primaryL h => exact r_primaryL ih h hg ms lim n1 hn
   | indexL => exact r_indexL ih hg ms lim n1 hn
   | argsL => exact r_argsL ih hg ms lim n1 hn
   | valuesL => exact r_valuesL ih hg ms hp lim n1 hn
   | flatL k => exact r_flatL ih k hg ms hp lim n1 hn
   | formL => exact r_formL ih hg ms lim n1 hn
   | fieldL => exact r_fieldL ih hg ms lim n1 hn
   | unionL more => exact r_unionL ih more hg ms hp lim n1 hn
   | ParamsL ns => exact r_ParamsL ih ns hg ms hp lim n1 hn
   | _ => cases hf
end Go.AI.Rd
end
namespace Go.AI.Rd
def rf : Proc → Option (Nat × List AV)
 | .X h => some (qX.n, [.rdr 0, .bool h])
 | .binary q h => some (qbinary.n, [.rdr 0, .int q, .bool h])
 | .unary h => some (qunary.n, [.rdr 0, .bool h])
 | .primary h => some (qprimary.n, [.rdr 0, .bool h])
 | .value => some (qvalue.n, [.rdr 0])
 | .values => some (qvalues.n, [.rdr 0])
 | .operand => some (qoperand.n, [.rdr 0])
 | .Name => some (qName.n, [.rdr 0])
 | .Type => some (qType.n, [.rdr 0])
 | .qualified => some (qqualified.n, [.rdr 0])
 | .field => some (qfield.n, [.rdr 0])
 | .element => some (qelement.n, [.rdr 0])
 | .items .field => some (qitems.n, [.rdr 0, .bool true])
 | .items .element => some (qitems.n, [.rdr 0, .bool false])
 | .union => some (qunion.n, [.rdr 0])
 | .Sig => some (qSig.n, [.rdr 0])
 | .Params => some (qParams.n, [.rdr 0])
 | .entry => some (qentry.n, [.rdr 0])
 | _ => none
def PU : Int → AV → Prop := fun r u => ∃ (c : Int) (t : Bool), u = .tup [.int c, .bool t] ∧ (r ≠ 0 ↔ (c > 1 ∨ t = true))
def PR : Proc → Int → AV → Prop
 | .entry => PB
 | .union => PU
 | _ => P0
abbrev IHQ (n : Nat) : Prop := ∀ pr f args, rf pr = some (f, args) → ∀ a q, a.good → RelQ q a → Rq (callN n pr a []) (W .ref f args q) (PR pr)
theorem IHQ.le {n k : Nat} (ih : IHQ n) (h : k ≤ n) : IHQ k := fun pr f args hr a q hg hq => Rq.mono h (ih pr f args hr a q hg hq)
theorem Rq.zero {pr : Proc} {a : A} {ms : List Int} {y : Option (AV × QS)} {e : Int → AV → Prop} {F : Int × A → Option (Int × A)} : Rq ((callN 0 pr a ms).bind F) y e := fun r b hx => by simp [callN] at hx
section
variable {n : Nat} {a : A} {q : QS}
theorem q_X (ih : IHQ n) (h : Bool) (hg : a.good) (hq : RelQ q a) : Rq (runM (callN n) (body (.X h)) a []) (W .ref qX.n [.rdr 0, .bool h] q) P0 := by
 refine Rq.fix qX.fd n (Rq.start ?_)
 rw [qX_eq]; simp only [body, go]
 refine Rq.inl ?_; simp only [body, go]
 refine Rq.down hq hg (fun b q' hb hq' hl => ?_) (fun b q' hb hq' hd => ?_) <;> (try simp only [go, taken, done, List.map_nil, qn, reduceIte, Int.reduceEq, if_true, if_false, ne_eq, qm])
 ·refine Rq.inl ?_; simp only [body, go, done]
  repeat' ((try simp only [go, taken, done, List.map_nil, qn, reduceIte, Int.reduceEq, if_true, if_false, ne_eq, qm]); first | ((with_reducible refine Rq.fin ‹_› ?_); first | trivial | rfl) | with_reducible (first | refine Rq.ret ?_ | refine Rq.fk ?_ | refine Rq.fc ?_ | refine Rq.comes (by decide) ‹_› ‹_› (fun hc => ?_) fun hc => ?_ | refine Rq.take ‹_› ‹_› fun b q' hbt hb hq' hl => ?_ | refine Rq.expect (by decide) ‹_› ‹_› (fun b q' hb hq' hl => ?_) fun b q' hb hq' hl => ?_ | refine Rq.fail ‹_› ‹_› fun b q' hb hq' hd => ?_ | refine Rq.none_ ‹_› ‹_› fun b q' hb hq' hl => ?_ | refine Rq.up ‹_› ‹_› fun b q' hb hq' hl => ?_ | refine Rq.dead ‹_› (fun hd => ?_) fun hd => ?_) | ((with_reducible refine Rq.close ?_ ‹_› ‹_› fun b q' hb hq' hl => ?_); (focus ((intro hal; first | (refine (hm ?_).trans rfl; solve_by_elim (maxDepth := 20)) | (refine (hm2 ?_).trans rfl; solve_by_elim (maxDepth := 20))); done))) | ((with_reducible refine Rq.callU0 ‹_› (ih _ _ _ ?_ _ _ ‹_› ‹_›) fun r b q' hb hq' hl => ?_); (focus (rfl; done))) | exact Rq.stop ‹_› (by repeat (first | exact SF.some | exact SF.Fc | exact SF.Fk | refine SF.bind ?_)) ‹_› fun _ => by first | trivial | rfl)
 ·repeat' ((try simp only [go, taken, done, List.map_nil, qn, reduceIte, Int.reduceEq, if_true, if_false, ne_eq, qm]); first | ((with_reducible refine Rq.fin ‹_› ?_); first | trivial | rfl) | with_reducible (first | refine Rq.ret ?_ | refine Rq.fk ?_ | refine Rq.fc ?_ | refine Rq.comes (by decide) ‹_› ‹_› (fun hc => ?_) fun hc => ?_ | refine Rq.take ‹_› ‹_› fun b q' hbt hb hq' hl => ?_ | refine Rq.expect (by decide) ‹_› ‹_› (fun b q' hb hq' hl => ?_) fun b q' hb hq' hl => ?_ | refine Rq.fail ‹_› ‹_› fun b q' hb hq' hd => ?_ | refine Rq.none_ ‹_› ‹_› fun b q' hb hq' hl => ?_ | refine Rq.up ‹_› ‹_› fun b q' hb hq' hl => ?_ | refine Rq.dead ‹_› (fun hd => ?_) fun hd => ?_) | ((with_reducible refine Rq.close ?_ ‹_› ‹_› fun b q' hb hq' hl => ?_); (focus ((intro hal; first | (refine (hm ?_).trans rfl; solve_by_elim (maxDepth := 20)) | (refine (hm2 ?_).trans rfl; solve_by_elim (maxDepth := 20))); done))) | ((with_reducible refine Rq.callU0 ‹_› (ih _ _ _ ?_ _ _ ‹_› ‹_›) fun r b q' hb hq' hl => ?_); (focus (rfl; done))) | exact Rq.stop ‹_› (by repeat (first | exact SF.some | exact SF.Fc | exact SF.Fk | refine SF.bind ?_)) ‹_› fun _ => by first | trivial | rfl)
theorem q_binaryL (p : Int) (h : Bool) : ∀ (n : Nat), IHQ n → ∀ (a : A) (q : QS) (ms : List Int) (m : Int) (lim n0 : Nat), a.good → RelQ q a → (a.dead = false → m = ms.getD 0 0) → n < n0 → Rq ((callN n (.binaryL p h) a ms).bind some) (qbinary.l0 W lim n0 p h m q) P0
 | 0, ih, a, q, ms, m, lim, n0, hg, hq, hm, hn => Rq.zero
 | n + 1, ih, a, q, ms, m, lim, 0, hg, hq, hm, hn => by omega
 | n + 1, ih0, a, q, ms, m, lim, n0 + 1, hg, hq, hm, hn => by
  have ih := ih0.le (Nat.le_succ n)
  show Rq ((runM (callN n) (body (.binaryL p h)) a ms).bind some) _ _
  rw [qbinary.l0_succ]; simp only [body]
  refine Rq.tkind hq hg (Rq.tprec (Rq.xlook ?_))
  have hp := precF_le (a.kinds.getD 0 0)
  refine Rq.ite (fun hc => ?_) (fun hc => ?_) <;> simp only [decide_eq_true_eq] at hc
  ·rw [if_neg (by omega)]; simp only [done]; repeat' ((try simp only [go, taken, done, List.map_nil, qn, reduceIte, Int.reduceEq, if_true, if_false, ne_eq, qm]); first | ((with_reducible refine Rq.fin ‹_› ?_); first | trivial | rfl) | with_reducible (first | refine Rq.ret ?_ | refine Rq.fk ?_ | refine Rq.fc ?_ | refine Rq.comes (by decide) ‹_› ‹_› (fun hc => ?_) fun hc => ?_ | refine Rq.take ‹_› ‹_› fun b q' hbt hb hq' hl => ?_ | refine Rq.expect (by decide) ‹_› ‹_› (fun b q' hb hq' hl => ?_) fun b q' hb hq' hl => ?_ | refine Rq.fail ‹_› ‹_› fun b q' hb hq' hd => ?_ | refine Rq.none_ ‹_› ‹_› fun b q' hb hq' hl => ?_ | refine Rq.up ‹_› ‹_› fun b q' hb hq' hl => ?_ | refine Rq.dead ‹_› (fun hd => ?_) fun hd => ?_) | ((with_reducible refine Rq.close ?_ ‹_› ‹_› fun b q' hb hq' hl => ?_); (focus ((intro hal; first | (refine (hm ?_).trans rfl; solve_by_elim (maxDepth := 20)) | (refine (hm2 ?_).trans rfl; solve_by_elim (maxDepth := 20))); done))) | ((with_reducible refine Rq.callU0 ‹_› (ih _ _ _ ?_ _ _ ‹_› ‹_›) fun r b q' hb hq' hl => ?_); (focus (rfl; done))) | exact Rq.stop ‹_› (by repeat (first | exact SF.some | exact SF.Fc | exact SF.Fk | refine SF.bind ?_)) ‹_› fun _ => by first | trivial | rfl)
  rw [if_pos (by omega)]
  refine Rq.ite (fun hc => ?_) (fun hc => ?_) <;> simp only [decide_eq_true_eq] at hc
  ·rw [if_neg (by omega)]; simp only [done]; repeat' ((try simp only [go, taken, done, List.map_nil, qn, reduceIte, Int.reduceEq, if_true, if_false, ne_eq, qm]); first | ((with_reducible refine Rq.fin ‹_› ?_); first | trivial | rfl) | with_reducible (first | refine Rq.ret ?_ | refine Rq.fk ?_ | refine Rq.fc ?_ | refine Rq.comes (by decide) ‹_› ‹_› (fun hc => ?_) fun hc => ?_ | refine Rq.take ‹_› ‹_› fun b q' hbt hb hq' hl => ?_ | refine Rq.expect (by decide) ‹_› ‹_› (fun b q' hb hq' hl => ?_) fun b q' hb hq' hl => ?_ | refine Rq.fail ‹_› ‹_› fun b q' hb hq' hd => ?_ | refine Rq.none_ ‹_› ‹_› fun b q' hb hq' hl => ?_ | refine Rq.up ‹_› ‹_› fun b q' hb hq' hl => ?_ | refine Rq.dead ‹_› (fun hd => ?_) fun hd => ?_) | ((with_reducible refine Rq.close ?_ ‹_› ‹_› fun b q' hb hq' hl => ?_); (focus ((intro hal; first | (refine (hm ?_).trans rfl; solve_by_elim (maxDepth := 20)) | (refine (hm2 ?_).trans rfl; solve_by_elim (maxDepth := 20))); done))) | ((with_reducible refine Rq.callU0 ‹_› (ih _ _ _ ?_ _ _ ‹_› ‹_›) fun r b q' hb hq' hl => ?_); (focus (rfl; done))) | exact Rq.stop ‹_› (by repeat (first | exact SF.some | exact SF.Fc | exact SF.Fk | refine SF.bind ?_)) ‹_› fun _ => by first | trivial | rfl)
  rw [if_pos (by omega), wi _ (by omega) (by omega)]
  refine Rq.take hq hg fun b q' hbt hb hq' hl => ?_
  refine Rq.callU hb (ih _ _ _ (by rfl) _ _ hb hq') fun r c q2 hc2 hq2 hl2 => ?_
  refine Rq.close (fun hal => hm (hl (hl2 hal))) hq2 hc2 fun d q3 hd hq3 hl3 => ?_
  exact Rq.tailF (q_binaryL p h n ih d q3 _ m lim n0 hd hq3 (fun hal => (hm (hl (hl2 (hl3 hal)))).trans rfl) (by omega))
theorem q_binary (ih : IHQ n) (p : Int) (h : Bool) (hg : a.good) (hq : RelQ q a) : Rq (runM (callN n) (body (.binary p h)) a []) (W .ref qbinary.n [.rdr 0, .int p, .bool h] q) P0 := by
 refine Rq.fix qbinary.fd (n + 1) (Rq.start ?_)
 rw [qbinary_eq]; simp only [body, go]
 refine Rq.mark hq fun m hm _ _ => ?_
 refine Rq.callU hg (ih _ _ _ (by rfl) _ _ hg hq) fun r b q' hb hq' hl => ?_
 exact Rq.tailF (q_binaryL p h n ih b q' _ m _ _ hb hq' (fun hal => (hm (hl hal)).trans rfl) (by omega))
theorem q_unaryJ (ih : IHQ n) (h : Bool) (kd m : Int) (hm : a.dead = false → m = (a.row.length : Int)) (hg : a.good) (hq : RelQ q a) : Rq ((runM (callN n) (unaryM h kd) a []).bind some)
  (cX W .u .ref qTake.n [.rdr 0] q fun _ (p13 : QS) =>
   cX W .b .ref qDown.n [.rdr 0] p13 fun (x14 : Bool) (p15 : QS) =>
   if (!x14) then
   some (.undef, p15)
   else
   cX W .u .ref qunary.n [.rdr 0, .bool h] p15 fun _ (p17 : QS) =>
   cX W .u .ref qUp.n [.rdr 0] p17 fun _ (p19 : QS) =>
   cX W .u .ref qClose.n [.rdr 0, .int m, .int kd] p19 fun _ (p21 : QS) =>
   some (.undef, p21)) P0 := by
 unfold unaryM
 simp only [go]
 refine Rq.xmark fun _ => ?_
 refine Rq.take hq hg fun b q' hbt hb hq' hl => ?_
 refine Rq.inl ?_; simp only [body, go]
 refine Rq.down hq' hb (fun c q2 hc hq2 hl2 => ?_) (fun c q2 hc hq2 hd => ?_) <;> (try simp only [go, taken, done, List.map_nil, qn, reduceIte, Int.reduceEq, if_true, if_false, ne_eq, qm])
 ·refine Rq.inl ?_; simp only [body, go, done]
  repeat' ((try simp only [go, taken, done, List.map_nil, qn, reduceIte, Int.reduceEq, if_true, if_false, ne_eq, qm]); first | ((with_reducible refine Rq.fin ‹_› ?_); first | trivial | rfl) | with_reducible (first | refine Rq.ret ?_ | refine Rq.fk ?_ | refine Rq.fc ?_ | refine Rq.comes (by decide) ‹_› ‹_› (fun hc => ?_) fun hc => ?_ | refine Rq.take ‹_› ‹_› fun b q' hbt hb hq' hl => ?_ | refine Rq.expect (by decide) ‹_› ‹_› (fun b q' hb hq' hl => ?_) fun b q' hb hq' hl => ?_ | refine Rq.fail ‹_› ‹_› fun b q' hb hq' hd => ?_ | refine Rq.none_ ‹_› ‹_› fun b q' hb hq' hl => ?_ | refine Rq.up ‹_› ‹_› fun b q' hb hq' hl => ?_ | refine Rq.dead ‹_› (fun hd => ?_) fun hd => ?_) | ((with_reducible refine Rq.close ?_ ‹_› ‹_› fun b q' hb hq' hl => ?_); (focus ((intro hal; first | (refine (hm ?_).trans rfl; solve_by_elim (maxDepth := 20)) | (refine (hm2 ?_).trans rfl; solve_by_elim (maxDepth := 20))); done))) | ((with_reducible refine Rq.callU0 ‹_› (ih _ _ _ ?_ _ _ ‹_› ‹_›) fun r b q' hb hq' hl => ?_); (focus (rfl; done))) | exact Rq.stop ‹_› (by repeat (first | exact SF.some | exact SF.Fc | exact SF.Fk | refine SF.bind ?_)) ‹_› fun _ => by first | trivial | rfl)
 ·repeat' ((try simp only [go, taken, done, List.map_nil, qn, reduceIte, Int.reduceEq, if_true, if_false, ne_eq, qm]); first | ((with_reducible refine Rq.fin ‹_› ?_); first | trivial | rfl) | with_reducible (first | refine Rq.ret ?_ | refine Rq.fk ?_ | refine Rq.fc ?_ | refine Rq.comes (by decide) ‹_› ‹_› (fun hc => ?_) fun hc => ?_ | refine Rq.take ‹_› ‹_› fun b q' hbt hb hq' hl => ?_ | refine Rq.expect (by decide) ‹_› ‹_› (fun b q' hb hq' hl => ?_) fun b q' hb hq' hl => ?_ | refine Rq.fail ‹_› ‹_› fun b q' hb hq' hd => ?_ | refine Rq.none_ ‹_› ‹_› fun b q' hb hq' hl => ?_ | refine Rq.up ‹_› ‹_› fun b q' hb hq' hl => ?_ | refine Rq.dead ‹_› (fun hd => ?_) fun hd => ?_) | ((with_reducible refine Rq.close ?_ ‹_› ‹_› fun b q' hb hq' hl => ?_); (focus ((intro hal; first | (refine (hm ?_).trans rfl; solve_by_elim (maxDepth := 20)) | (refine (hm2 ?_).trans rfl; solve_by_elim (maxDepth := 20))); done))) | ((with_reducible refine Rq.callU0 ‹_› (ih _ _ _ ?_ _ _ ‹_› ‹_›) fun r b q' hb hq' hl => ?_); (focus (rfl; done))) | exact Rq.stop ‹_› (by repeat (first | exact SF.some | exact SF.Fc | exact SF.Fk | refine SF.bind ?_)) ‹_› fun _ => by first | trivial | rfl)
theorem q_unary (ih : IHQ n) (h : Bool) (hg : a.good) (hq : RelQ q a) : Rq (runM (callN n) (body (.unary h)) a []) (W .ref qunary.n [.rdr 0, .bool h] q) P0 := by
 refine Rq.fix qunary.fd n (Rq.start ?_)
 rw [qunary_eq]; simp only [body, go, qunary.j0]
 refine Rq.tmark ?_
 have hm := len_of hq
 refine Rq.xkind ?_
 have hcm : comesF [22, 20, 21, 50, 27, 25] a.kinds = decide (a.kinds.getD 0 0 = 22 ∨ a.kinds.getD 0 0 = 20 ∨ a.kinds.getD 0 0 = 21 ∨ a.kinds.getD 0 0 = 50 ∨ a.kinds.getD 0 0 = 27 ∨ a.kinds.getD 0 0 = 25) := by
  unfold comesF
  generalize a.kinds.getD 0 0 = x
  by_cases h1 : x = 0
  ·subst h1; rfl
  ·rw [decide_eq_true h1]; simp [List.contains_cons, Bool.decide_or]
 by_cases h22 : a.kinds.getD 0 0 = 22
 ·refine Rq.tcY (by decide) (by rw [comes1 (by decide), decide_eq_true h22]) hq hg ?_
  (try simp only [go, taken, done, List.map_nil, qn, reduceIte, Int.reduceEq, if_true, if_false, ne_eq, qm])
  refine Rq.tcY (by decide) (by rw [hcm]; exact decide_eq_true (.inl h22)) hq hg ?_
  (try simp only [go, taken, done, List.map_nil, qn, reduceIte, Int.reduceEq, if_true, if_false, ne_eq, qm])
  rw [if_neg (c := a.kinds.getD 0 0 = 20 ∨ a.kinds.getD 0 0 = 21 ∨ a.kinds.getD 0 0 = 50 ∨ a.kinds.getD 0 0 = 27 ∨ a.kinds.getD 0 0 = 25) (by omega), if_pos h22]
  exact q_unaryJ ih h 205 _ hm hg hq
 ·refine Rq.tcN (by decide) (by rw [comes1 (by decide), decide_eq_false h22]) hq hg ?_
  (try simp only [go, taken, done, List.map_nil, qn, reduceIte, Int.reduceEq, if_true, if_false, ne_eq, qm])
  by_cases hx : a.kinds.getD 0 0 = 20 ∨ a.kinds.getD 0 0 = 21 ∨ a.kinds.getD 0 0 = 50 ∨ a.kinds.getD 0 0 = 27 ∨ a.kinds.getD 0 0 = 25
  ·refine Rq.tcY (by decide) (by rw [hcm]; exact decide_eq_true (.inr hx)) hq hg ?_
   (try simp only [go, taken, done, List.map_nil, qn, reduceIte, Int.reduceEq, if_true, if_false, ne_eq, qm])
   rw [if_pos hx]
   exact q_unaryJ ih h 204 _ hm hg hq
  ·refine Rq.tcN (by decide) (by rw [hcm]; exact decide_eq_false (fun hc => hc.elim h22 hx)) hq hg ?_
   (try simp only [go, taken, done, List.map_nil, qn, reduceIte, Int.reduceEq, if_true, if_false, ne_eq, qm])
   rw [if_neg hx, if_neg h22]
   (try simp only [done])
   repeat' ((try simp only [go, taken, done, List.map_nil, qn, reduceIte, Int.reduceEq, if_true, if_false, ne_eq, qm]); first | ((with_reducible refine Rq.fin ‹_› ?_); first | trivial | rfl) | with_reducible (first | refine Rq.ret ?_ | refine Rq.fk ?_ | refine Rq.fc ?_ | refine Rq.comes (by decide) ‹_› ‹_› (fun hc => ?_) fun hc => ?_ | refine Rq.take ‹_› ‹_› fun b q' hbt hb hq' hl => ?_ | refine Rq.expect (by decide) ‹_› ‹_› (fun b q' hb hq' hl => ?_) fun b q' hb hq' hl => ?_ | refine Rq.fail ‹_› ‹_› fun b q' hb hq' hd => ?_ | refine Rq.none_ ‹_› ‹_› fun b q' hb hq' hl => ?_ | refine Rq.up ‹_› ‹_› fun b q' hb hq' hl => ?_ | refine Rq.dead ‹_› (fun hd => ?_) fun hd => ?_) | ((with_reducible refine Rq.close ?_ ‹_› ‹_› fun b q' hb hq' hl => ?_); (focus ((intro hal; first | (refine (hm ?_).trans rfl; solve_by_elim (maxDepth := 20)) | (refine (hm2 ?_).trans rfl; solve_by_elim (maxDepth := 20))); done))) | ((with_reducible refine Rq.callU0 ‹_› (ih _ _ _ ?_ _ _ ‹_› ‹_›) fun r b q' hb hq' hl => ?_); (focus (rfl; done))) | exact Rq.stop ‹_› (by repeat (first | exact SF.some | exact SF.Fc | exact SF.Fk | refine SF.bind ?_)) ‹_› fun _ => by first | trivial | rfl)
theorem q_Name (ih : IHQ n) (hg : a.good) (hq : RelQ q a) : Rq (runM (callN n) (body .Name) a []) (W .ref qName.n [.rdr 0] q) P0 := by
 refine Rq.fix qName.fd n (Rq.start ?_)
 rw [qName_eq]; simp only [body, go]
 refine Rq.tmark ?_
 have hm := len_of hq
 refine Rq.xkind ?_
 by_cases hk : a.kinds.getD 0 0 = 10
 ·rw [if_pos hk]
  refine Rq.inl ?_; simp only [body, go]
  refine Rq.xmark fun _ => ?_
  refine Rq.inl ?_; simp only [body, done]
  refine Rq.expY (by decide) hk hq hg fun b q' hbt hb hq' hl => ?_
  repeat' ((try simp only [go, taken, done, List.map_nil, qn, reduceIte, Int.reduceEq, if_true, if_false, ne_eq, qm]); first | ((with_reducible refine Rq.fin ‹_› ?_); first | trivial | rfl) | with_reducible (first | refine Rq.ret ?_ | refine Rq.fk ?_ | refine Rq.fc ?_ | refine Rq.comes (by decide) ‹_› ‹_› (fun hc => ?_) fun hc => ?_ | refine Rq.take ‹_› ‹_› fun b q' hbt hb hq' hl => ?_ | refine Rq.expect (by decide) ‹_› ‹_› (fun b q' hb hq' hl => ?_) fun b q' hb hq' hl => ?_ | refine Rq.fail ‹_› ‹_› fun b q' hb hq' hd => ?_ | refine Rq.none_ ‹_› ‹_› fun b q' hb hq' hl => ?_ | refine Rq.up ‹_› ‹_› fun b q' hb hq' hl => ?_ | refine Rq.dead ‹_› (fun hd => ?_) fun hd => ?_) | ((with_reducible refine Rq.close ?_ ‹_› ‹_› fun b q' hb hq' hl => ?_); (focus ((intro hal; first | (refine (hm ?_).trans rfl; solve_by_elim (maxDepth := 20)) | (refine (hm2 ?_).trans rfl; solve_by_elim (maxDepth := 20))); done))) | ((with_reducible refine Rq.callU0 ‹_› (ih _ _ _ ?_ _ _ ‹_› ‹_›) fun r b q' hb hq' hl => ?_); (focus (rfl; done))) | exact Rq.stop ‹_› (by repeat (first | exact SF.some | exact SF.Fc | exact SF.Fk | refine SF.bind ?_)) ‹_› fun _ => by first | trivial | rfl)
 ·rw [if_neg hk]
  refine Rq.expN (by decide) hk hq hg fun b q' hb hq' hd => ?_
  (try simp only [done])
  repeat' ((try simp only [go, taken, done, List.map_nil, qn, reduceIte, Int.reduceEq, if_true, if_false, ne_eq, qm]); first | ((with_reducible refine Rq.fin ‹_› ?_); first | trivial | rfl) | with_reducible (first | refine Rq.ret ?_ | refine Rq.fk ?_ | refine Rq.fc ?_ | refine Rq.comes (by decide) ‹_› ‹_› (fun hc => ?_) fun hc => ?_ | refine Rq.take ‹_› ‹_› fun b q' hbt hb hq' hl => ?_ | refine Rq.expect (by decide) ‹_› ‹_› (fun b q' hb hq' hl => ?_) fun b q' hb hq' hl => ?_ | refine Rq.fail ‹_› ‹_› fun b q' hb hq' hd => ?_ | refine Rq.none_ ‹_› ‹_› fun b q' hb hq' hl => ?_ | refine Rq.up ‹_› ‹_› fun b q' hb hq' hl => ?_ | refine Rq.dead ‹_› (fun hd => ?_) fun hd => ?_) | ((with_reducible refine Rq.close ?_ ‹_› ‹_› fun b q' hb hq' hl => ?_); (focus ((intro hal; first | (refine (hm ?_).trans rfl; solve_by_elim (maxDepth := 20)) | (refine (hm2 ?_).trans rfl; solve_by_elim (maxDepth := 20))); done))) | ((with_reducible refine Rq.callU0 ‹_› (ih _ _ _ ?_ _ _ ‹_› ‹_›) fun r b q' hb hq' hl => ?_); (focus (rfl; done))) | exact Rq.stop ‹_› (by repeat (first | exact SF.some | exact SF.Fc | exact SF.Fk | refine SF.bind ?_)) ‹_› fun _ => by first | trivial | rfl)
theorem piece_split {cf : Proc → A → List Int → Option (Int × A)} (pr : Proc) (f : Int → Int) (k : M) (a : A) (ms : List Int) : runM cf (.take (.call pr [] fun kd => .close 0 (f kd) k)) a ms = (runM cf (.take (.call pr [] fun kd => .close 0 (f kd) done)) a ms).bind fun rb => runM cf k rb.2 ms := by
 simp only [runM, done]
 split
 ·split
  ·split
   ·rfl
   ·rfl
  ·rfl
 ·rfl
theorem q_period (ih : IHQ n) (ms : List Int) (m : Int) (hm : a.dead = false → m = ms.getD 0 0) (hg : a.good) (hq : RelQ q a) : Rq (runM (callN n) (.take (.call .period [] fun kd => .close 0 kd done)) a ms) (W .ref qperiod.n [.rdr 0, .int m] q) P0 := by
 refine Rq.fix qperiod.fd n (Rq.start ?_)
 rw [qperiod_eq]
 refine Rq.take hq hg fun b q' hbt hb hq' hl => ?_
 refine Rq.inl ?_; simp only [body, go]
 refine Rq.xkind ?_
 by_cases h10 : b.kinds.getD 0 0 = 10
 ·refine Rq.tcY (by decide) (by rw [comes1 (by decide), decide_eq_true h10]) hq' hb ?_
  rw [if_pos h10]; (try simp only [go, taken, done, List.map_nil, qn, reduceIte, Int.reduceEq, if_true, if_false, ne_eq, qm]); (try simp only [done])
  repeat' ((try simp only [go, taken, done, List.map_nil, qn, reduceIte, Int.reduceEq, if_true, if_false, ne_eq, qm]); first | ((with_reducible refine Rq.fin ‹_› ?_); first | trivial | rfl) | with_reducible (first | refine Rq.ret ?_ | refine Rq.fk ?_ | refine Rq.fc ?_ | refine Rq.comes (by decide) ‹_› ‹_› (fun hc => ?_) fun hc => ?_ | refine Rq.take ‹_› ‹_› fun b q' hbt hb hq' hl => ?_ | refine Rq.expect (by decide) ‹_› ‹_› (fun b q' hb hq' hl => ?_) fun b q' hb hq' hl => ?_ | refine Rq.fail ‹_› ‹_› fun b q' hb hq' hd => ?_ | refine Rq.none_ ‹_› ‹_› fun b q' hb hq' hl => ?_ | refine Rq.up ‹_› ‹_› fun b q' hb hq' hl => ?_ | refine Rq.dead ‹_› (fun hd => ?_) fun hd => ?_) | ((with_reducible refine Rq.close ?_ ‹_› ‹_› fun b q' hb hq' hl => ?_); (focus ((intro hal; first | (refine (hm ?_).trans rfl; solve_by_elim (maxDepth := 20)) | (refine (hm2 ?_).trans rfl; solve_by_elim (maxDepth := 20))); done))) | ((with_reducible refine Rq.callU0 ‹_› (ih _ _ _ ?_ _ _ ‹_› ‹_›) fun r b q' hb hq' hl => ?_); (focus (rfl; done))) | exact Rq.stop ‹_› (by repeat (first | exact SF.some | exact SF.Fc | exact SF.Fk | refine SF.bind ?_)) ‹_› fun _ => by first | trivial | rfl)
 ·refine Rq.tcN (by decide) (by rw [comes1 (by decide), decide_eq_false h10]) hq' hb ?_
  rw [if_neg h10]; (try simp only [go, taken, done, List.map_nil, qn, reduceIte, Int.reduceEq, if_true, if_false, ne_eq, qm])
  refine Rq.xkind ?_
  by_cases h57 : b.kinds.getD 0 0 = 57
  ·refine Rq.tcY (by decide) (by rw [comes1 (by decide), decide_eq_true h57]) hq' hb ?_
   rw [if_pos h57]; (try simp only [go, taken, done, List.map_nil, qn, reduceIte, Int.reduceEq, if_true, if_false, ne_eq, qm]); (try simp only [done])
   repeat' ((try simp only [go, taken, done, List.map_nil, qn, reduceIte, Int.reduceEq, if_true, if_false, ne_eq, qm]); first | ((with_reducible refine Rq.fin ‹_› ?_); first | trivial | rfl) | with_reducible (first | refine Rq.ret ?_ | refine Rq.fk ?_ | refine Rq.fc ?_ | refine Rq.comes (by decide) ‹_› ‹_› (fun hc => ?_) fun hc => ?_ | refine Rq.take ‹_› ‹_› fun b q' hbt hb hq' hl => ?_ | refine Rq.expect (by decide) ‹_› ‹_› (fun b q' hb hq' hl => ?_) fun b q' hb hq' hl => ?_ | refine Rq.fail ‹_› ‹_› fun b q' hb hq' hd => ?_ | refine Rq.none_ ‹_› ‹_› fun b q' hb hq' hl => ?_ | refine Rq.up ‹_› ‹_› fun b q' hb hq' hl => ?_ | refine Rq.dead ‹_› (fun hd => ?_) fun hd => ?_) | ((with_reducible refine Rq.close ?_ ‹_› ‹_› fun b q' hb hq' hl => ?_); (focus ((intro hal; first | (refine (hm ?_).trans rfl; solve_by_elim (maxDepth := 20)) | (refine (hm2 ?_).trans rfl; solve_by_elim (maxDepth := 20))); done))) | ((with_reducible refine Rq.callU0 ‹_› (ih _ _ _ ?_ _ _ ‹_› ‹_›) fun r b q' hb hq' hl => ?_); (focus (rfl; done))) | exact Rq.stop ‹_› (by repeat (first | exact SF.some | exact SF.Fc | exact SF.Fk | refine SF.bind ?_)) ‹_› fun _ => by first | trivial | rfl)
  ·refine Rq.tcN (by decide) (by rw [comes1 (by decide), decide_eq_false h57]) hq' hb ?_
   rw [if_neg h57]; (try simp only [go, taken, done, List.map_nil, qn, reduceIte, Int.reduceEq, if_true, if_false, ne_eq, qm])
   repeat' ((try simp only [go, taken, done, List.map_nil, qn, reduceIte, Int.reduceEq, if_true, if_false, ne_eq, qm]); first | ((with_reducible refine Rq.fin ‹_› ?_); first | trivial | rfl) | with_reducible (first | refine Rq.ret ?_ | refine Rq.fk ?_ | refine Rq.fc ?_ | refine Rq.comes (by decide) ‹_› ‹_› (fun hc => ?_) fun hc => ?_ | refine Rq.take ‹_› ‹_› fun b q' hbt hb hq' hl => ?_ | refine Rq.expect (by decide) ‹_› ‹_› (fun b q' hb hq' hl => ?_) fun b q' hb hq' hl => ?_ | refine Rq.fail ‹_› ‹_› fun b q' hb hq' hd => ?_ | refine Rq.none_ ‹_› ‹_› fun b q' hb hq' hl => ?_ | refine Rq.up ‹_› ‹_› fun b q' hb hq' hl => ?_ | refine Rq.dead ‹_› (fun hd => ?_) fun hd => ?_) | ((with_reducible refine Rq.close ?_ ‹_› ‹_› fun b q' hb hq' hl => ?_); (focus ((intro hal; first | (refine (hm ?_).trans rfl; solve_by_elim (maxDepth := 20)) | (refine (hm2 ?_).trans rfl; solve_by_elim (maxDepth := 20))); done))) | ((with_reducible refine Rq.callU0 ‹_› (ih _ _ _ ?_ _ _ ‹_› ‹_›) fun r b q' hb hq' hl => ?_); (focus (rfl; done))) | exact Rq.stop ‹_› (by repeat (first | exact SF.some | exact SF.Fc | exact SF.Fk | refine SF.bind ?_)) ‹_› fun _ => by first | trivial | rfl)
def cutM : M := .call (.unless [65, 63]) [] fun n => comes [65] fun c =>
    if c then (if n ≠ 0 then .fail 201 (.take (go (.X false) (expect 63 (.ret 209)))) else .take (go (.X false) (expect 63 (.ret 209))))
    else expect 63 (.ret 209)
theorem q_cutJ (ih : IHQ n) (ms : List Int) (lim : Nat) (v m : Int) (w : Bool) (hw : w = decide (v ≠ 0)) (hm : a.dead = false → m = ms.getD 0 0) (hg : a.good) (hq : RelQ q a) : Rq ((runM (callN n) (comes [65] fun c =>
    if c then (if v ≠ 0 then .fail 201 (.take (go (.X false) (expect 63 (.ret 209)))) else .take (go (.X false) (expect 63 (.ret 209))))
    else expect 63 (.ret 209)) a []).bind (Fk n ms)) (qcut.j0 W lim m w q) P0 := by
 simp only [qcut.j0, go]
 refine Rq.comes (by decide) hq hg (fun hc => ?_) (fun hc => ?_)
 ·rw [if_pos rfl, if_pos rfl]
  cases w with
  | true =>
   rw [if_pos (of_decide_eq_true hw.symm)]; (try simp only [go, taken, done, List.map_nil, qn, reduceIte, Int.reduceEq, if_true, if_false, ne_eq, qm])
   repeat' ((try simp only [go, taken, done, List.map_nil, qn, reduceIte, Int.reduceEq, if_true, if_false, ne_eq, qm]); first | ((with_reducible refine Rq.fin ‹_› ?_); first | trivial | rfl) | with_reducible (first | refine Rq.ret ?_ | refine Rq.fk ?_ | refine Rq.fc ?_ | refine Rq.comes (by decide) ‹_› ‹_› (fun hc => ?_) fun hc => ?_ | refine Rq.take ‹_› ‹_› fun b q' hbt hb hq' hl => ?_ | refine Rq.expect (by decide) ‹_› ‹_› (fun b q' hb hq' hl => ?_) fun b q' hb hq' hl => ?_ | refine Rq.fail ‹_› ‹_› fun b q' hb hq' hd => ?_ | refine Rq.none_ ‹_› ‹_› fun b q' hb hq' hl => ?_ | refine Rq.up ‹_› ‹_› fun b q' hb hq' hl => ?_ | refine Rq.dead ‹_› (fun hd => ?_) fun hd => ?_) | ((with_reducible refine Rq.close ?_ ‹_› ‹_› fun b q' hb hq' hl => ?_); (focus ((intro hal; first | (refine (hm ?_).trans rfl; solve_by_elim (maxDepth := 20)) | (refine (hm2 ?_).trans rfl; solve_by_elim (maxDepth := 20))); done))) | ((with_reducible refine Rq.callU0 ‹_› (ih _ _ _ ?_ _ _ ‹_› ‹_›) fun r b q' hb hq' hl => ?_); (focus (rfl; done))) | exact Rq.stop ‹_› (by repeat (first | exact SF.some | exact SF.Fc | exact SF.Fk | refine SF.bind ?_)) ‹_› fun _ => by first | trivial | rfl)
  | false =>
   rw [if_neg (fun hv => by rw [decide_eq_true hv] at hw; cases hw)]; (try simp only [go, taken, done, List.map_nil, qn, reduceIte, Int.reduceEq, if_true, if_false, ne_eq, qm])
   repeat' ((try simp only [go, taken, done, List.map_nil, qn, reduceIte, Int.reduceEq, if_true, if_false, ne_eq, qm]); first | ((with_reducible refine Rq.fin ‹_› ?_); first | trivial | rfl) | with_reducible (first | refine Rq.ret ?_ | refine Rq.fk ?_ | refine Rq.fc ?_ | refine Rq.comes (by decide) ‹_› ‹_› (fun hc => ?_) fun hc => ?_ | refine Rq.take ‹_› ‹_› fun b q' hbt hb hq' hl => ?_ | refine Rq.expect (by decide) ‹_› ‹_› (fun b q' hb hq' hl => ?_) fun b q' hb hq' hl => ?_ | refine Rq.fail ‹_› ‹_› fun b q' hb hq' hd => ?_ | refine Rq.none_ ‹_› ‹_› fun b q' hb hq' hl => ?_ | refine Rq.up ‹_› ‹_› fun b q' hb hq' hl => ?_ | refine Rq.dead ‹_› (fun hd => ?_) fun hd => ?_) | ((with_reducible refine Rq.close ?_ ‹_› ‹_› fun b q' hb hq' hl => ?_); (focus ((intro hal; first | (refine (hm ?_).trans rfl; solve_by_elim (maxDepth := 20)) | (refine (hm2 ?_).trans rfl; solve_by_elim (maxDepth := 20))); done))) | ((with_reducible refine Rq.callU0 ‹_› (ih _ _ _ ?_ _ _ ‹_› ‹_›) fun r b q' hb hq' hl => ?_); (focus (rfl; done))) | exact Rq.stop ‹_› (by repeat (first | exact SF.some | exact SF.Fc | exact SF.Fk | refine SF.bind ?_)) ‹_› fun _ => by first | trivial | rfl)
 ·(try simp only [go, taken, done, List.map_nil, qn, reduceIte, Int.reduceEq, if_true, if_false, ne_eq, qm])
  repeat' ((try simp only [go, taken, done, List.map_nil, qn, reduceIte, Int.reduceEq, if_true, if_false, ne_eq, qm]); first | ((with_reducible refine Rq.fin ‹_› ?_); first | trivial | rfl) | with_reducible (first | refine Rq.ret ?_ | refine Rq.fk ?_ | refine Rq.fc ?_ | refine Rq.comes (by decide) ‹_› ‹_› (fun hc => ?_) fun hc => ?_ | refine Rq.take ‹_› ‹_› fun b q' hbt hb hq' hl => ?_ | refine Rq.expect (by decide) ‹_› ‹_› (fun b q' hb hq' hl => ?_) fun b q' hb hq' hl => ?_ | refine Rq.fail ‹_› ‹_› fun b q' hb hq' hd => ?_ | refine Rq.none_ ‹_› ‹_› fun b q' hb hq' hl => ?_ | refine Rq.up ‹_› ‹_› fun b q' hb hq' hl => ?_ | refine Rq.dead ‹_› (fun hd => ?_) fun hd => ?_) | ((with_reducible refine Rq.close ?_ ‹_› ‹_› fun b q' hb hq' hl => ?_); (focus ((intro hal; first | (refine (hm ?_).trans rfl; solve_by_elim (maxDepth := 20)) | (refine (hm2 ?_).trans rfl; solve_by_elim (maxDepth := 20))); done))) | ((with_reducible refine Rq.callU0 ‹_› (ih _ _ _ ?_ _ _ ‹_› ‹_›) fun r b q' hb hq' hl => ?_); (focus (rfl; done))) | exact Rq.stop ‹_› (by repeat (first | exact SF.some | exact SF.Fc | exact SF.Fk | refine SF.bind ?_)) ‹_› fun _ => by first | trivial | rfl)
theorem q_cut (ih : IHQ n) (ms : List Int) (m : Int) (hm : a.dead = false → m = ms.getD 0 0) (hg : a.good) (hq : RelQ q a) : Rq ((runM (callN n) (.take cutM) a []).bind (Fk n ms)) (W .ref qcut.n [.rdr 0, .int m] q) P0 := by
 refine Rq.fix qcut.fd n ?_
 rw [qcut_eq]; unfold cutM
 refine Rq.take hq hg fun b q' hbt hb hq' hl => ?_
 refine Rq.inl ?_; simp only [body]
 refine Rq.comes (by decide) hq' hb (fun hc => ?_) (fun hc => ?_) <;> (try simp only [go, taken, done, List.map_nil, qn, reduceIte, Int.reduceEq, if_true, if_false, ne_eq, qm])
 ·refine Rq.none_ hq' hb fun c q2 hc2 hq2 hl2 => ?_
  refine Rq.ret ?_
  exact q_cutJ ih ms n 1 m true (by decide) (fun hal => hm (hl (hl2 hal))) hc2 hq2
 ·(try simp only [go])
  refine Rq.callU hb (ih _ _ _ (by rfl) _ _ hb hq') fun r c q2 hc2 hq2 hl2 => ?_
  (try simp only [done])
  refine Rq.ret ?_
  exact q_cutJ ih ms n 0 m false (by decide) (fun hal => hm (hl (hl2 hal))) hc2 hq2
theorem q_indexL : ∀ (n : Nat), IHQ n → ∀ (a : A) (q : QS) (ms : List Int) (m : Int) (N lim n0 : Nat), a.good → RelQ q a → (a.dead = false → m = ms.getD 0 0) → n < n0 → Rq ((callN n .indexL a []).bind (Fk N ms)) (qindex.l0 W lim n0 m q) P0
 | 0, ih, a, q, ms, m, N, lim, n0, hg, hq, hm, hn => Rq.zero
 | n + 1, ih, a, q, ms, m, N, lim, 0, hg, hq, hm, hn => by omega
 | n + 1, ih0, a, q, ms, m, N, lim, n0 + 1, hg, hq, hm, hn => by
  have ih := ih0.le (Nat.le_succ n)
  show Rq ((runM (callN n) (body .indexL) a []).bind (Fk N ms)) _ _
  rw [qindex.l0_succ]; simp only [body, go]
  refine Rq.comes (by decide) hq hg (fun hc => ?_) (fun hc => ?_) <;> (try simp only [go, taken, done, List.map_nil, qn, reduceIte, Int.reduceEq, if_true, if_false, ne_eq, qm])
  ·refine Rq.take hq hg fun b q' hbt hb hq' hl => ?_
   refine Rq.comes (by decide) hq' hb (fun hc => ?_) (fun hc => ?_) <;> (try simp only [go, taken, done, List.map_nil, qn, reduceIte, Int.reduceEq, if_true, if_false, ne_eq, qm])
   ·exact Rq.tailF (q_indexL n ih b q' ms m N lim n0 hb hq' (fun hal => hm (hl hal)) (by omega))
   ·refine Rq.callU hb (ih _ _ _ (by rfl) _ _ hb hq') fun r c q2 hc2 hq2 hl2 => ?_
    exact Rq.tailF (q_indexL n ih c q2 ms m N lim n0 hc2 hq2 (fun hal => hm (hl (hl2 hal))) (by omega))
  ·refine Rq.expect (by decide) hq hg (fun d q3 hd hq3 hl3 => ?_) (fun d q3 hd hq3 hl3 => ?_)
   ·repeat' ((try simp only [go, taken, done, List.map_nil, qn, reduceIte, Int.reduceEq, if_true, if_false, ne_eq, qm]); first | ((with_reducible refine Rq.fin ‹_› ?_); first | trivial | rfl) | with_reducible (first | refine Rq.ret ?_ | refine Rq.fk ?_ | refine Rq.fc ?_ | refine Rq.comes (by decide) ‹_› ‹_› (fun hc => ?_) fun hc => ?_ | refine Rq.take ‹_› ‹_› fun b q' hbt hb hq' hl => ?_ | refine Rq.expect (by decide) ‹_› ‹_› (fun b q' hb hq' hl => ?_) fun b q' hb hq' hl => ?_ | refine Rq.fail ‹_› ‹_› fun b q' hb hq' hd => ?_ | refine Rq.none_ ‹_› ‹_› fun b q' hb hq' hl => ?_ | refine Rq.up ‹_› ‹_› fun b q' hb hq' hl => ?_ | refine Rq.dead ‹_› (fun hd => ?_) fun hd => ?_) | ((with_reducible refine Rq.close ?_ ‹_› ‹_› fun b q' hb hq' hl => ?_); (focus ((intro hal; first | (refine (hm ?_).trans rfl; solve_by_elim (maxDepth := 20)) | (refine (hm2 ?_).trans rfl; solve_by_elim (maxDepth := 20))); done))) | ((with_reducible refine Rq.callU0 ‹_› (ih _ _ _ ?_ _ _ ‹_› ‹_›) fun r b q' hb hq' hl => ?_); (focus (rfl; done))) | exact Rq.stop ‹_› (by repeat (first | exact SF.some | exact SF.Fc | exact SF.Fk | refine SF.bind ?_)) ‹_› fun _ => by first | trivial | rfl)
   ·repeat' ((try simp only [go, taken, done, List.map_nil, qn, reduceIte, Int.reduceEq, if_true, if_false, ne_eq, qm]); first | ((with_reducible refine Rq.fin ‹_› ?_); first | trivial | rfl) | with_reducible (first | refine Rq.ret ?_ | refine Rq.fk ?_ | refine Rq.fc ?_ | refine Rq.comes (by decide) ‹_› ‹_› (fun hc => ?_) fun hc => ?_ | refine Rq.take ‹_› ‹_› fun b q' hbt hb hq' hl => ?_ | refine Rq.expect (by decide) ‹_› ‹_› (fun b q' hb hq' hl => ?_) fun b q' hb hq' hl => ?_ | refine Rq.fail ‹_› ‹_› fun b q' hb hq' hd => ?_ | refine Rq.none_ ‹_› ‹_› fun b q' hb hq' hl => ?_ | refine Rq.up ‹_› ‹_› fun b q' hb hq' hl => ?_ | refine Rq.dead ‹_› (fun hd => ?_) fun hd => ?_) | ((with_reducible refine Rq.close ?_ ‹_› ‹_› fun b q' hb hq' hl => ?_); (focus ((intro hal; first | (refine (hm ?_).trans rfl; solve_by_elim (maxDepth := 20)) | (refine (hm2 ?_).trans rfl; solve_by_elim (maxDepth := 20))); done))) | ((with_reducible refine Rq.callU0 ‹_› (ih _ _ _ ?_ _ _ ‹_› ‹_›) fun r b q' hb hq' hl => ?_); (focus (rfl; done))) | exact Rq.stop ‹_› (by repeat (first | exact SF.some | exact SF.Fc | exact SF.Fk | refine SF.bind ?_)) ‹_› fun _ => by first | trivial | rfl)
theorem q_index (ih : IHQ n) (ms : List Int) (m : Int) (hm : a.dead = false → m = ms.getD 0 0) (hg : a.good) (hq : RelQ q a) : Rq (runM (callN n) (.take (.call .index [] fun kd => .close 0 kd done)) a ms) (W .ref qindex.n [.rdr 0, .int m] q) P0 := by
 refine Rq.fix qindex.fd (n + 1) (Rq.start ?_)
 rw [qindex_eq]
 refine Rq.take hq hg fun b q' hbt hb hq' hl => ?_
 refine Rq.inl ?_; simp only [body]
 show Rq ((runM (callN n) _ b _).bind (Fk n ms)) _ _
 have hj : ∀ (c : A) (q2 : QS), c.good → RelQ q2 c → (c.dead = false → m = ms.getD 0 0) → Rq ((runM (callN n) (taken [65] fun t =>
   if t then .call (.unless [65, 63]) [] fun n => comes [65] fun c =>
    if c then (if n ≠ 0 then .fail 201 (.take (go (.X false) (expect 63 (.ret 209)))) else .take (go (.X false) (expect 63 (.ret 209))))
    else expect 63 (.ret 209)
   else .call .indexL [] .ret) c []).bind (Fk n ms)) (qindex.j0 W (n + 1) m q2) P0 := by
  intro c q2 hc hq2 hm2
  simp only [qindex.j0]
  refine Rq.comes (by decide) hq2 hc (fun hc' => ?_) (fun hc' => ?_) <;> (try simp only [go, taken, done, List.map_nil, qn, reduceIte, Int.reduceEq, if_true, if_false, ne_eq, qm])
  ·exact Rq.tend (q_cut ih ms m hm2 hc hq2)
  ·exact Rq.tailF (q_indexL n ih c q2 ms m n _ _ hc hq2 hm2 (by omega))
 simp only [go]
 refine Rq.inl ?_; simp only [body, go]
 refine Rq.comes (by decide) hq' hb (fun hc => ?_) (fun hc => ?_) <;> (try simp only [go, taken, done, List.map_nil, qn, reduceIte, Int.reduceEq, if_true, if_false, ne_eq, qm])
 ·refine Rq.none_ hq' hb fun c q2 hc2 hq2 hl2 => ?_
  refine Rq.ret ?_
  exact hj c q2 hc2 hq2 (fun hal => hm (hl (hl2 hal)))
 ·refine Rq.callU hb (ih _ _ _ (by rfl) _ _ hb hq') fun r c q2 hc2 hq2 hl2 => ?_
  (try simp only [done])
  refine Rq.ret ?_
  exact hj c q2 hc2 hq2 (fun hal => hm (hl (hl2 hal)))
end
end Go.AI.Rd
