/- DERIVED. THE EVALUATOR, THE READER, THE SCANNER: lemmas for Lossless. -/
import Derived.Test.YtoppjmglhddleaaBg
import Derived.Test.YtoppjmglhddleaaBd
import Derived.Test.YtoppjmglhddleaaBf
import Derived.Laws.Cover3
import Derived.Test.YtoppjmglhddleaaBa
set_option linter.unusedVariables false
set_option linter.unusedSimpArgs false
section
namespace Go.AI.Rd
def rank : Proc → Nat
 | .deeper _ => 1 | .node _ pr => rank pr + 1 | .takeP => 0 | .items _ => 0 | .itemsL pr => rank pr + 1
 | .X _ => 2 | .X1 _ => 7 | .binary _ _ => 6 | .binaryL _ _ => 0 | .unary _ => 5 | .unary1 _ => 6 | .primary _ => 4 | .primaryL _ => 1
 | .period => 3 | .index => 4 | .unless _ => 3 | .indexL => 0 | .arguments => 4 | .argsL => 3 | .value => 3 | .value1 => 2 | .values => 0 | .valuesL => 4 | .operand => 3 | .flat => 1 | .flatL _ => 0
 | .Name => 2 | .List _ => 5 | .List1 _ => 3 | .ListL _ => 0 | .Type => 2 | .form => 4 | .formL => 0 | .elements => 3 | .qualified => 3 | .field => 4 | .fieldL => 3 | .element => 5 | .union => 4 | .unionL _ => 3
 | .Sig => 5 | .Sig1 => 3 | .Params => 2 | .Params1 => 0 | .ParamsL _ => 4 | .entry => 3 | .entry1 => 0 | .TParams => 2 | .TParams1 => 0 | .TParamsL _ => 5 | .TParams11 => 3 | .TParams11L => 5
def gain : Proc → Nat
 | .deeper pr => gain pr | .node _ pr => gain pr - 1 | .takeP => 7 | .items _ => 7
 | .X _ => 6 | .X1 _ => 6 | .binary _ _ => 6 | .unary _ => 6 | .unary1 _ => 6 | .primary _ => 6 | .period => 6 | .value => 6 | .value1 => 6 | .values => 7 | .operand => 6 | .flat => 7 | .flatL _ => 7
 | .Name => 6 | .List _ => 5 | .List1 _ => 6 | .Type => 6 | .form => 6 | .elements => 6 | .qualified => 6 | .field => 5 | .element => 4 | .union => 5 | .unionL _ => 5
 | .Sig => 11 | .Sig1 => 12 | .Params => 13 | .Params1 => 14 | .ParamsL _ => 7 | .entry => 6 | .entry1 => 13 | .TParams => 6 | .TParams1 => 7 | .TParams11 => 6
 | _ => 0
def loss : Proc → Nat
 | .index => 1 | .unless _ => 1 | .ParamsL ns => ns.length | _ => 0
def slack : Proc → Nat
 | .index => 6 | .ParamsL ns => ns.length + 3 | _ => 3
def dr : Proc → Nat
 | .deeper pr => dr pr | .node _ pr => dr pr
 | .itemsL _ | .binaryL _ _ | .primaryL _ | .index | .unless _ | .indexL | .arguments | .argsL | .valuesL | .ListL _ | .formL | .fieldL | .ParamsL _ | .TParamsL _ | .TParams11L => 0
 | _ => 1
def mu (pr : Proc) (a : A) : Nat := a.rest.length * 6464 + (100 - a.opn).toNat * 64 + rank pr
def dIn : Proc → Prop
 | .X1 _ | .unary1 _ | .value1 | .form => True
 | _ => False
def nIn : Proc → Prop
 | .takeP | .values | .flat | .Sig1 | .Params1 | .entry1 | .List1 _ | .TParams1 | .TParams11 => True
 | _ => False
def iIn : Proc → Prop
 | .field | .element => True
 | _ => False
def Pre' : Proc → A → List Int → Prop
 | .takeP, a, _ => a.kinds.getD 0 0 ≠ 0
 | .node k pr, a, ms => 200 ≤ k ∧ k ≠ 207 ∧ k ≠ 208 ∧ nIn pr ∧ ms = [] ∧ (pr = .takeP ∨ pr = .entry1 → a.kinds.getD 0 0 ≠ 0)
 | .entry1, a, ms => a.kinds.getD 0 0 ≠ 0
 | .deeper pr, a, ms => dIn pr ∧ ms = []
 | .items pr, a, ms => iIn pr ∧ ms = []
 | .itemsL pr, a, ms => iIn pr ∧ ms = []
 | .primaryL _, a, ms => ∃ R : List Made, ms = [(R.length : Int)] ∧ N1 R a.row
 | .binaryL _ _, a, ms => ∃ R : List Made, ms = [(R.length : Int)] ∧ N1 R a.row
 | .formL, a, ms => ∃ R : List Made, ms = [(R.length : Int)] ∧ Op R a.row
 | .fieldL, a, ms => ∃ R : List Made, ms = [(R.length : Int)] ∧ R <+: a.row
 | .ParamsL ns, a, ms => ms.length = 2 * ns.length ∧ entsOK a.row 0 (entsOf ms ns) = true ∧ 2 * ns.length + 2 * a.rest.length + 4 ≤ 4294967264
 | _, _, ms => ms = []
def Shape : Proc → A → List Int → Int → A → Prop
 | .takeP, a, _, _, b => a.row <+: b.row
 | .items _, a, _, _, b => a.row <+: b.row
 | .itemsL _, a, _, _, b => a.row <+: b.row
 | .period, a, _, r, b => a.row <+: b.row ∧ 200 ≤ r
 | .index, a, _, r, b => a.row <+: b.row ∧ 200 ≤ r
 | .indexL, a, _, r, b => a.row <+: b.row ∧ 200 ≤ r
 | .elements, a, _, r, b => a.row <+: b.row ∧ (r = 220 ∨ r = 221)
 | .unless _, a, _, _, b => a.row <+: b.row
 | .arguments, a, _, _, b => a.row <+: b.row
 | .argsL, a, _, _, b => a.row <+: b.row
 | .values, a, _, _, b => a.row <+: b.row
 | .valuesL, a, _, _, b => a.row <+: b.row
 | .flat, a, _, _, b => a.row <+: b.row
 | .flatL _, a, _, _, b => a.row <+: b.row
 | .List1 _, a, _, _, b => a.row <+: b.row
 | .ListL _, a, _, _, b => a.row <+: b.row
 | .union, a, _, _, b => a.row <+: b.row
 | .unionL _, a, _, _, b => a.row <+: b.row
 | .Sig1, a, _, _, b => a.row <+: b.row
 | .Params1, a, _, _, b => a.row <+: b.row
 | .entry1, a, _, _, b => a.row <+: b.row
 | .TParams1, a, _, _, b => a.row <+: b.row
 | .TParamsL _, a, _, _, b => a.row <+: b.row
 | .TParams11, a, _, _, b => a.row <+: b.row
 | .TParams11L, a, _, _, b => a.row <+: b.row
 | .binaryL _ _, a, ms, _, b => ∀ R : List Made, ms = [(R.length : Int)] → R <+: a.row → N1 R b.row
 | .primaryL _, a, ms, _, b => ∀ R : List Made, ms = [(R.length : Int)] → R <+: a.row → N1 R b.row
 | .formL, a, ms, _, b => ∀ R : List Made, ms = [(R.length : Int)] → R <+: a.row → N1 R b.row
 | .fieldL, a, ms, _, b => ∀ R : List Made, ms = [(R.length : Int)] → R <+: a.row → N1 R b.row
 | .entry, a, _, _, b => Nt a.row b.row
 | .ParamsL ns, a, ms, _, b => ∀ R : List Made, R <+: a.row → entsOK a.row R.length (entsOf ms ns) = true → R <+: b.row
 | _, a, _, _, b => N1 a.row b.row
structure Po (d g l : Nat) (S : Prop) (a b : A) : Prop where
 opn : b.opn = a.opn
 rest : b.rest.length + d ≤ a.rest.length
 phi : b.row.length + 8 * b.rest.length + g ≤ a.row.length + 8 * a.rest.length + l
 shape : S
structure PreT (B : Nat) (pr : Proc) (a : A) (ms : List Int) : Prop where
 live : a.dead = false
 opn0 : 0 ≤ a.opn
 opn1 : a.opn ≤ 100
 phi : a.row.length + 8 * a.rest.length + slack pr ≤ B
 pre : Pre' pr a ms
abbrev PostT (pr : Proc) (a : A) (ms : List Int) (r : Int) (b : A) : Prop := Po (dr pr) (gain pr) (loss pr) (Shape pr a ms r b) a b
def IHT (B N : Nat) : Prop := ∀ pr a ms, mu pr a < N → PreT B pr a ms → Wl B (body pr) a ms (PostT pr a ms)
theorem pre_eq {R R' l : List Made} (h : R <+: l) (h' : R' <+: l) (hl : R.length = R'.length) : R = R' := by
 obtain ⟨x, rfl⟩ := h
 obtain ⟨y, hy⟩ := h'
 exact (List.append_inj_left hy hl.symm).symm
theorem shapeR {R : List Made} {a b : A} (hp : R <+: a.row) (h : N1 R b.row) : ∀ R' : List Made, [(R.length : Int)] = [(R'.length : Int)] → R' <+: a.row → N1 R' b.row := by
 intro R' hl hp'
 have : R.length = R'.length := by have := (List.cons.inj hl).1; omega
 rw [← pre_eq hp hp' this]; exact h
section
variable {B : Nat} {a : A} {ms : List Int}
theorem t_takeP (hB : B ≤ 4294967000) (hpre : PreT B .takeP a ms) : Wl B (body .takeP) a ms (PostT .takeP a ms) := by
 obtain ⟨hd, h0, h1, hphi, hk⟩ := hpre
 simp only [slack] at hphi
 simp only [Pre'] at hk
 have hp := List.prefix_rfl (l := a.row)
 simp only [body, go, done, primM, itemsM, unaryM, valuesM, elemsM, entryM, List.map_nil]
 repeat' (first | with_reducible (first | refine Wl.tt ?_ | refine Wl.ff ?_ | refine Wl.kind fun x hx => ?_ | refine Wl.comes (fun hc hk => ?_) fun hc => ?_ | refine Wl.lookB (fun hc => ?_) fun hc => ?_ | refine Wl.deadq ‹_› ?_ | refine Wl.fail hB (by omega) | refine Wl.ite (fun hc => ?_) fun hc => ?_) | ((with_reducible refine Wl.ret (by omega) ⟨by omega, by (try simp only [dr]); omega, by (try simp only [gain, loss]); omega, ?_⟩); (try simp only [Shape]); first | assumption | exact List.prefix_rfl | exact hs.nt | exact hop.nt | (refine ⟨by assumption, ?_⟩; first | omega | (simp; done))) | ((with_reducible refine Wl.taken hB ‹_› (by omega) (fun b hd ho hq hr hn => ?_) (fun hc => ?_)) <;> ((try replace hop := hop.trans hq); (try replace hp := hp.trans hq))) | ((with_reducible refine Wl.expect (by decide) hB ‹_› (by omega) (fun b hd ho hq hr hn => ?_)); ((try replace hop := hop.trans hq); (try replace hp := hp.trans hq))) | ((with_reducible refine Wl.take hB ‹_› (by omega) (by first | assumption | omega) (fun b hd ho hq hr hn => ?_)); ((try replace hop := hop.trans hq); (try replace hp := hp.trans hq))) | ((with_reducible refine Wl.none_ hB ‹_› (by omega) (fun b hd ho hr hq hn => ?_)); (try replace hop := hop.trans hq.pre); (try replace hp := hp.trans hq.pre)) | ((refine Wl.close (by rfl) hB ‹_› (by omega) ‹_› ⟨by omega, by first | exact Or.inl ⟨by omega, by omega⟩ | exact Or.inr ‹_›⟩ (fun b hd ho hr hs hn => ?_)); (try replace hop := hs.op); (try replace hp := hs.pre)) | ((with_reducible refine Wl.mark (by decide) ?_); (try rw [List.nil_append])) | ((refine Wl.call (ih _ _ _ (by simp only [mu, rank]; omega) ⟨by assumption, by omega, by omega, by simp only [slack]; omega, by simp only [Pre']; first | rfl | trivial | assumption | omega | exact ⟨_, rfl, by assumption⟩ | (exact ⟨by omega, by omega, by omega, trivial, rfl, fun h => by first | omega | (rcases h with h | h <;> cases h)⟩) | exact ⟨trivial, rfl⟩⟩) hB (fun r b hd hq => ?_)); (obtain ⟨ho, hr, hn, hs⟩ := hq; simp only [dr, gain, loss, Shape, Nat.add_zero] at hr hn hs; (try replace hs := hs _ rfl ‹_›); (first | ((try replace hop := hop.trans hs); replace hp := hp.trans hs) | ((try replace hop := hop.trans hs.1); replace hp := hp.trans hs.1) | ((first | replace hop := hop.trans hs.pre | have hop := hs.op); (try replace hp := hp.trans hs.pre)) | skip))) | refine Wl.lit (by rfl) ‹_› (fun c => ?_))
set_option maxHeartbeats 4000000 in
theorem t_g0 (head : Bool) (q : Int) (ks : List Int) (n : Int) (more : Bool) (hB : B ≤ 4294967000) :
  (IHT B (mu (.X head) a) → PreT B (.X head) a ms → Wl B (body (.X head)) a ms (PostT (.X head) a ms)) ∧
  (IHT B (mu (.X1 head) a) → PreT B (.X1 head) a ms → Wl B (body (.X1 head)) a ms (PostT (.X1 head) a ms)) ∧
  (IHT B (mu (.binary q head) a) → PreT B (.binary q head) a ms → Wl B (body (.binary q head)) a ms (PostT (.binary q head) a ms)) ∧
  (IHT B (mu (.unary head) a) → PreT B (.unary head) a ms → Wl B (body (.unary head)) a ms (PostT (.unary head) a ms)) ∧
  (IHT B (mu (.unary1 head) a) → PreT B (.unary1 head) a ms → Wl B (body (.unary1 head)) a ms (PostT (.unary1 head) a ms)) ∧
  (IHT B (mu (.primary head) a) → PreT B (.primary head) a ms → Wl B (body (.primary head)) a ms (PostT (.primary head) a ms)) ∧
  (IHT B (mu .period a) → PreT B .period a ms → Wl B (body .period) a ms (PostT .period a ms)) ∧
  (IHT B (mu .index a) → PreT B .index a ms → Wl B (body .index) a ms (PostT .index a ms)) := by
 refine ⟨?_, ?_, ?_, ?_, ?_, ?_, ?_, ?_⟩ <;> (intro ih hpre; obtain ⟨hd, h0, h1, hphi, hk⟩ := hpre; simp only [slack] at hphi; simp only [Pre'] at hk; subst hk; have hp := List.prefix_rfl (l := a.row); (simp only [body, go, done, primM, itemsM, unaryM, valuesM, elemsM, entryM, List.map_nil]); repeat' (first | with_reducible (first | refine Wl.tt ?_ | refine Wl.ff ?_ | refine Wl.kind fun x hx => ?_ | refine Wl.comes (fun hc hk => ?_) fun hc => ?_ | refine Wl.lookB (fun hc => ?_) fun hc => ?_ | refine Wl.deadq ‹_› ?_ | refine Wl.fail hB (by omega) | refine Wl.ite (fun hc => ?_) fun hc => ?_) | ((with_reducible refine Wl.ret (by omega) ⟨by omega, by (try simp only [dr]); omega, by (try simp only [gain, loss]); omega, ?_⟩); (try simp only [Shape]); first | assumption | exact List.prefix_rfl | exact hs.nt | exact hop.nt | (refine ⟨by assumption, ?_⟩; first | omega | (simp; done))) | ((with_reducible refine Wl.taken hB ‹_› (by omega) (fun b hd ho hq hr hn => ?_) (fun hc => ?_)) <;> ((try replace hop := hop.trans hq); (try replace hp := hp.trans hq))) | ((with_reducible refine Wl.expect (by decide) hB ‹_› (by omega) (fun b hd ho hq hr hn => ?_)); ((try replace hop := hop.trans hq); (try replace hp := hp.trans hq))) | ((with_reducible refine Wl.take hB ‹_› (by omega) (by first | assumption | omega) (fun b hd ho hq hr hn => ?_)); ((try replace hop := hop.trans hq); (try replace hp := hp.trans hq))) | ((with_reducible refine Wl.none_ hB ‹_› (by omega) (fun b hd ho hr hq hn => ?_)); (try replace hop := hop.trans hq.pre); (try replace hp := hp.trans hq.pre)) | ((refine Wl.close (by rfl) hB ‹_› (by omega) ‹_› ⟨by omega, by first | exact Or.inl ⟨by omega, by omega⟩ | exact Or.inr ‹_›⟩ (fun b hd ho hr hs hn => ?_)); (try replace hop := hs.op); (try replace hp := hs.pre)) | ((with_reducible refine Wl.mark (by decide) ?_); (try rw [List.nil_append])) | ((refine Wl.call (ih _ _ _ (by simp only [mu, rank]; omega) ⟨by assumption, by omega, by omega, by simp only [slack]; omega, by simp only [Pre']; first | rfl | trivial | assumption | omega | exact ⟨_, rfl, by assumption⟩ | (exact ⟨by omega, by omega, by omega, trivial, rfl, fun h => by first | omega | (rcases h with h | h <;> cases h)⟩) | exact ⟨trivial, rfl⟩⟩) hB (fun r b hd hq => ?_)); (obtain ⟨ho, hr, hn, hs⟩ := hq; simp only [dr, gain, loss, Shape, Nat.add_zero] at hr hn hs; (try replace hs := hs _ rfl ‹_›); (first | ((try replace hop := hop.trans hs); replace hp := hp.trans hs) | ((try replace hop := hop.trans hs.1); replace hp := hp.trans hs.1) | ((first | replace hop := hop.trans hs.pre | have hop := hs.op); (try replace hp := hp.trans hs.pre)) | skip))) | refine Wl.lit (by rfl) ‹_› (fun c => ?_)))
theorem t_X (head : Bool) (hB : B ≤ 4294967000) (ih : IHT B (mu (.X head) a)) (hpre : PreT B (.X head) a ms) : Wl B (body (.X head)) a ms (PostT (.X head) a ms) := (t_g0 head 0 [] 0 false hB).1 ih hpre
theorem t_X1 (head : Bool) (hB : B ≤ 4294967000) (ih : IHT B (mu (.X1 head) a)) (hpre : PreT B (.X1 head) a ms) : Wl B (body (.X1 head)) a ms (PostT (.X1 head) a ms) := (t_g0 head 0 [] 0 false hB).2.1 ih hpre
theorem t_binary (q : Int) (head : Bool) (hB : B ≤ 4294967000) (ih : IHT B (mu (.binary q head) a)) (hpre : PreT B (.binary q head) a ms) : Wl B (body (.binary q head)) a ms (PostT (.binary q head) a ms) := (t_g0 head q [] 0 false hB).2.2.1 ih hpre
theorem t_unary (head : Bool) (hB : B ≤ 4294967000) (ih : IHT B (mu (.unary head) a)) (hpre : PreT B (.unary head) a ms) : Wl B (body (.unary head)) a ms (PostT (.unary head) a ms) := (t_g0 head 0 [] 0 false hB).2.2.2.1 ih hpre
theorem t_unary1 (head : Bool) (hB : B ≤ 4294967000) (ih : IHT B (mu (.unary1 head) a)) (hpre : PreT B (.unary1 head) a ms) : Wl B (body (.unary1 head)) a ms (PostT (.unary1 head) a ms) := (t_g0 head 0 [] 0 false hB).2.2.2.2.1 ih hpre
theorem t_primary (head : Bool) (hB : B ≤ 4294967000) (ih : IHT B (mu (.primary head) a)) (hpre : PreT B (.primary head) a ms) : Wl B (body (.primary head)) a ms (PostT (.primary head) a ms) := (t_g0 head 0 [] 0 false hB).2.2.2.2.2.1 ih hpre
theorem t_period (hB : B ≤ 4294967000) (ih : IHT B (mu .period a)) (hpre : PreT B .period a ms) : Wl B (body .period) a ms (PostT .period a ms) := (t_g0 false 0 [] 0 false hB).2.2.2.2.2.2.1 ih hpre
theorem t_index (hB : B ≤ 4294967000) (ih : IHT B (mu .index a)) (hpre : PreT B .index a ms) : Wl B (body .index) a ms (PostT .index a ms) := (t_g0 false 0 [] 0 false hB).2.2.2.2.2.2.2 ih hpre
set_option maxHeartbeats 4000000 in
theorem t_g1 (head : Bool) (q : Int) (ks : List Int) (n : Int) (more : Bool) (hB : B ≤ 4294967000) :
  (IHT B (mu (.unless ks) a) → PreT B (.unless ks) a ms → Wl B (body (.unless ks)) a ms (PostT (.unless ks) a ms)) ∧
  (IHT B (mu .indexL a) → PreT B .indexL a ms → Wl B (body .indexL) a ms (PostT .indexL a ms)) ∧
  (IHT B (mu .arguments a) → PreT B .arguments a ms → Wl B (body .arguments) a ms (PostT .arguments a ms)) ∧
  (IHT B (mu .argsL a) → PreT B .argsL a ms → Wl B (body .argsL) a ms (PostT .argsL a ms)) ∧
  (IHT B (mu .value a) → PreT B .value a ms → Wl B (body .value) a ms (PostT .value a ms)) ∧
  (IHT B (mu .value1 a) → PreT B .value1 a ms → Wl B (body .value1) a ms (PostT .value1 a ms)) ∧
  (IHT B (mu .values a) → PreT B .values a ms → Wl B (body .values) a ms (PostT .values a ms)) ∧
  (IHT B (mu .valuesL a) → PreT B .valuesL a ms → Wl B (body .valuesL) a ms (PostT .valuesL a ms)) := by
 refine ⟨?_, ?_, ?_, ?_, ?_, ?_, ?_, ?_⟩ <;> (intro ih hpre; obtain ⟨hd, h0, h1, hphi, hk⟩ := hpre; simp only [slack] at hphi; simp only [Pre'] at hk; subst hk; have hp := List.prefix_rfl (l := a.row); (simp only [body, go, done, primM, itemsM, unaryM, valuesM, elemsM, entryM, List.map_nil]); repeat' (first | with_reducible (first | refine Wl.tt ?_ | refine Wl.ff ?_ | refine Wl.kind fun x hx => ?_ | refine Wl.comes (fun hc hk => ?_) fun hc => ?_ | refine Wl.lookB (fun hc => ?_) fun hc => ?_ | refine Wl.deadq ‹_› ?_ | refine Wl.fail hB (by omega) | refine Wl.ite (fun hc => ?_) fun hc => ?_) | ((with_reducible refine Wl.ret (by omega) ⟨by omega, by (try simp only [dr]); omega, by (try simp only [gain, loss]); omega, ?_⟩); (try simp only [Shape]); first | assumption | exact List.prefix_rfl | exact hs.nt | exact hop.nt | (refine ⟨by assumption, ?_⟩; first | omega | (simp; done))) | ((with_reducible refine Wl.taken hB ‹_› (by omega) (fun b hd ho hq hr hn => ?_) (fun hc => ?_)) <;> ((try replace hop := hop.trans hq); (try replace hp := hp.trans hq))) | ((with_reducible refine Wl.expect (by decide) hB ‹_› (by omega) (fun b hd ho hq hr hn => ?_)); ((try replace hop := hop.trans hq); (try replace hp := hp.trans hq))) | ((with_reducible refine Wl.take hB ‹_› (by omega) (by first | assumption | omega) (fun b hd ho hq hr hn => ?_)); ((try replace hop := hop.trans hq); (try replace hp := hp.trans hq))) | ((with_reducible refine Wl.none_ hB ‹_› (by omega) (fun b hd ho hr hq hn => ?_)); (try replace hop := hop.trans hq.pre); (try replace hp := hp.trans hq.pre)) | ((refine Wl.close (by rfl) hB ‹_› (by omega) ‹_› ⟨by omega, by first | exact Or.inl ⟨by omega, by omega⟩ | exact Or.inr ‹_›⟩ (fun b hd ho hr hs hn => ?_)); (try replace hop := hs.op); (try replace hp := hs.pre)) | ((with_reducible refine Wl.mark (by decide) ?_); (try rw [List.nil_append])) | ((refine Wl.call (ih _ _ _ (by simp only [mu, rank]; omega) ⟨by assumption, by omega, by omega, by simp only [slack]; omega, by simp only [Pre']; first | rfl | trivial | assumption | omega | exact ⟨_, rfl, by assumption⟩ | (exact ⟨by omega, by omega, by omega, trivial, rfl, fun h => by first | omega | (rcases h with h | h <;> cases h)⟩) | exact ⟨trivial, rfl⟩⟩) hB (fun r b hd hq => ?_)); (obtain ⟨ho, hr, hn, hs⟩ := hq; simp only [dr, gain, loss, Shape, Nat.add_zero] at hr hn hs; (try replace hs := hs _ rfl ‹_›); (first | ((try replace hop := hop.trans hs); replace hp := hp.trans hs) | ((try replace hop := hop.trans hs.1); replace hp := hp.trans hs.1) | ((first | replace hop := hop.trans hs.pre | have hop := hs.op); (try replace hp := hp.trans hs.pre)) | skip))) | refine Wl.lit (by rfl) ‹_› (fun c => ?_)))
theorem t_unless (ks : List Int) (hB : B ≤ 4294967000) (ih : IHT B (mu (.unless ks) a)) (hpre : PreT B (.unless ks) a ms) : Wl B (body (.unless ks)) a ms (PostT (.unless ks) a ms) := (t_g1 false 0 ks 0 false hB).1 ih hpre
theorem t_indexL (hB : B ≤ 4294967000) (ih : IHT B (mu .indexL a)) (hpre : PreT B .indexL a ms) : Wl B (body .indexL) a ms (PostT .indexL a ms) := (t_g1 false 0 [] 0 false hB).2.1 ih hpre
theorem t_arguments (hB : B ≤ 4294967000) (ih : IHT B (mu .arguments a)) (hpre : PreT B .arguments a ms) : Wl B (body .arguments) a ms (PostT .arguments a ms) := (t_g1 false 0 [] 0 false hB).2.2.1 ih hpre
theorem t_argsL (hB : B ≤ 4294967000) (ih : IHT B (mu .argsL a)) (hpre : PreT B .argsL a ms) : Wl B (body .argsL) a ms (PostT .argsL a ms) := (t_g1 false 0 [] 0 false hB).2.2.2.1 ih hpre
theorem t_value (hB : B ≤ 4294967000) (ih : IHT B (mu .value a)) (hpre : PreT B .value a ms) : Wl B (body .value) a ms (PostT .value a ms) := (t_g1 false 0 [] 0 false hB).2.2.2.2.1 ih hpre
theorem t_value1 (hB : B ≤ 4294967000) (ih : IHT B (mu .value1 a)) (hpre : PreT B .value1 a ms) : Wl B (body .value1) a ms (PostT .value1 a ms) := (t_g1 false 0 [] 0 false hB).2.2.2.2.2.1 ih hpre
theorem t_values (hB : B ≤ 4294967000) (ih : IHT B (mu .values a)) (hpre : PreT B .values a ms) : Wl B (body .values) a ms (PostT .values a ms) := (t_g1 false 0 [] 0 false hB).2.2.2.2.2.2.1 ih hpre
theorem t_valuesL (hB : B ≤ 4294967000) (ih : IHT B (mu .valuesL a)) (hpre : PreT B .valuesL a ms) : Wl B (body .valuesL) a ms (PostT .valuesL a ms) := (t_g1 false 0 [] 0 false hB).2.2.2.2.2.2.2 ih hpre
set_option maxHeartbeats 4000000 in
theorem t_g2 (head : Bool) (q : Int) (ks : List Int) (n : Int) (more : Bool) (hB : B ≤ 4294967000) :
  (IHT B (mu .operand a) → PreT B .operand a ms → Wl B (body .operand) a ms (PostT .operand a ms)) ∧
  (IHT B (mu .flat a) → PreT B .flat a ms → Wl B (body .flat) a ms (PostT .flat a ms)) ∧
  (IHT B (mu (.flatL n) a) → PreT B (.flatL n) a ms → Wl B (body (.flatL n)) a ms (PostT (.flatL n) a ms)) ∧
  (IHT B (mu .Name a) → PreT B .Name a ms → Wl B (body .Name) a ms (PostT .Name a ms)) ∧
  (IHT B (mu (.List head) a) → PreT B (.List head) a ms → Wl B (body (.List head)) a ms (PostT (.List head) a ms)) ∧
  (IHT B (mu (.List1 head) a) → PreT B (.List1 head) a ms → Wl B (body (.List1 head)) a ms (PostT (.List1 head) a ms)) ∧
  (IHT B (mu (.ListL head) a) → PreT B (.ListL head) a ms → Wl B (body (.ListL head)) a ms (PostT (.ListL head) a ms)) ∧
  (IHT B (mu .Type a) → PreT B .Type a ms → Wl B (body .Type) a ms (PostT .Type a ms)) := by
 refine ⟨?_, ?_, ?_, ?_, ?_, ?_, ?_, ?_⟩ <;> (intro ih hpre; obtain ⟨hd, h0, h1, hphi, hk⟩ := hpre; simp only [slack] at hphi; simp only [Pre'] at hk; subst hk; have hp := List.prefix_rfl (l := a.row); (simp only [body, go, done, primM, itemsM, unaryM, valuesM, elemsM, entryM, List.map_nil]); repeat' (first | with_reducible (first | refine Wl.tt ?_ | refine Wl.ff ?_ | refine Wl.kind fun x hx => ?_ | refine Wl.comes (fun hc hk => ?_) fun hc => ?_ | refine Wl.lookB (fun hc => ?_) fun hc => ?_ | refine Wl.deadq ‹_› ?_ | refine Wl.fail hB (by omega) | refine Wl.ite (fun hc => ?_) fun hc => ?_) | ((with_reducible refine Wl.ret (by omega) ⟨by omega, by (try simp only [dr]); omega, by (try simp only [gain, loss]); omega, ?_⟩); (try simp only [Shape]); first | assumption | exact List.prefix_rfl | exact hs.nt | exact hop.nt | (refine ⟨by assumption, ?_⟩; first | omega | (simp; done))) | ((with_reducible refine Wl.taken hB ‹_› (by omega) (fun b hd ho hq hr hn => ?_) (fun hc => ?_)) <;> ((try replace hop := hop.trans hq); (try replace hp := hp.trans hq))) | ((with_reducible refine Wl.expect (by decide) hB ‹_› (by omega) (fun b hd ho hq hr hn => ?_)); ((try replace hop := hop.trans hq); (try replace hp := hp.trans hq))) | ((with_reducible refine Wl.take hB ‹_› (by omega) (by first | assumption | omega) (fun b hd ho hq hr hn => ?_)); ((try replace hop := hop.trans hq); (try replace hp := hp.trans hq))) | ((with_reducible refine Wl.none_ hB ‹_› (by omega) (fun b hd ho hr hq hn => ?_)); (try replace hop := hop.trans hq.pre); (try replace hp := hp.trans hq.pre)) | ((refine Wl.close (by rfl) hB ‹_› (by omega) ‹_› ⟨by omega, by first | exact Or.inl ⟨by omega, by omega⟩ | exact Or.inr ‹_›⟩ (fun b hd ho hr hs hn => ?_)); (try replace hop := hs.op); (try replace hp := hs.pre)) | ((with_reducible refine Wl.mark (by decide) ?_); (try rw [List.nil_append])) | ((refine Wl.call (ih _ _ _ (by simp only [mu, rank]; omega) ⟨by assumption, by omega, by omega, by simp only [slack]; omega, by simp only [Pre']; first | rfl | trivial | assumption | omega | exact ⟨_, rfl, by assumption⟩ | (exact ⟨by omega, by omega, by omega, trivial, rfl, fun h => by first | omega | (rcases h with h | h <;> cases h)⟩) | exact ⟨trivial, rfl⟩⟩) hB (fun r b hd hq => ?_)); (obtain ⟨ho, hr, hn, hs⟩ := hq; simp only [dr, gain, loss, Shape, Nat.add_zero] at hr hn hs; (try replace hs := hs _ rfl ‹_›); (first | ((try replace hop := hop.trans hs); replace hp := hp.trans hs) | ((try replace hop := hop.trans hs.1); replace hp := hp.trans hs.1) | ((first | replace hop := hop.trans hs.pre | have hop := hs.op); (try replace hp := hp.trans hs.pre)) | skip))) | refine Wl.lit (by rfl) ‹_› (fun c => ?_)))
theorem t_operand (hB : B ≤ 4294967000) (ih : IHT B (mu .operand a)) (hpre : PreT B .operand a ms) : Wl B (body .operand) a ms (PostT .operand a ms) := (t_g2 false 0 [] 0 false hB).1 ih hpre
theorem t_flat (hB : B ≤ 4294967000) (ih : IHT B (mu .flat a)) (hpre : PreT B .flat a ms) : Wl B (body .flat) a ms (PostT .flat a ms) := (t_g2 false 0 [] 0 false hB).2.1 ih hpre
theorem t_flatL (n : Int) (hB : B ≤ 4294967000) (ih : IHT B (mu (.flatL n) a)) (hpre : PreT B (.flatL n) a ms) : Wl B (body (.flatL n)) a ms (PostT (.flatL n) a ms) := (t_g2 false 0 [] n false hB).2.2.1 ih hpre
theorem t_Name (hB : B ≤ 4294967000) (ih : IHT B (mu .Name a)) (hpre : PreT B .Name a ms) : Wl B (body .Name) a ms (PostT .Name a ms) := (t_g2 false 0 [] 0 false hB).2.2.2.1 ih hpre
theorem t_List (head : Bool) (hB : B ≤ 4294967000) (ih : IHT B (mu (.List head) a)) (hpre : PreT B (.List head) a ms) : Wl B (body (.List head)) a ms (PostT (.List head) a ms) := (t_g2 head 0 [] 0 false hB).2.2.2.2.1 ih hpre
theorem t_List1 (head : Bool) (hB : B ≤ 4294967000) (ih : IHT B (mu (.List1 head) a)) (hpre : PreT B (.List1 head) a ms) : Wl B (body (.List1 head)) a ms (PostT (.List1 head) a ms) := (t_g2 head 0 [] 0 false hB).2.2.2.2.2.1 ih hpre
theorem t_ListL (head : Bool) (hB : B ≤ 4294967000) (ih : IHT B (mu (.ListL head) a)) (hpre : PreT B (.ListL head) a ms) : Wl B (body (.ListL head)) a ms (PostT (.ListL head) a ms) := (t_g2 head 0 [] 0 false hB).2.2.2.2.2.2.1 ih hpre
theorem t_Type (hB : B ≤ 4294967000) (ih : IHT B (mu .Type a)) (hpre : PreT B .Type a ms) : Wl B (body .Type) a ms (PostT .Type a ms) := (t_g2 false 0 [] 0 false hB).2.2.2.2.2.2.2 ih hpre
set_option maxHeartbeats 4000000 in
theorem t_g3 (head : Bool) (q : Int) (ks : List Int) (n : Int) (more : Bool) (hB : B ≤ 4294967000) :
  (IHT B (mu .form a) → PreT B .form a ms → Wl B (body .form) a ms (PostT .form a ms)) ∧
  (IHT B (mu .elements a) → PreT B .elements a ms → Wl B (body .elements) a ms (PostT .elements a ms)) ∧
  (IHT B (mu .qualified a) → PreT B .qualified a ms → Wl B (body .qualified) a ms (PostT .qualified a ms)) ∧
  (IHT B (mu .field a) → PreT B .field a ms → Wl B (body .field) a ms (PostT .field a ms)) ∧
  (IHT B (mu .element a) → PreT B .element a ms → Wl B (body .element) a ms (PostT .element a ms)) ∧
  (IHT B (mu .union a) → PreT B .union a ms → Wl B (body .union) a ms (PostT .union a ms)) ∧
  (IHT B (mu (.unionL more) a) → PreT B (.unionL more) a ms → Wl B (body (.unionL more)) a ms (PostT (.unionL more) a ms)) ∧
  (IHT B (mu .Sig a) → PreT B .Sig a ms → Wl B (body .Sig) a ms (PostT .Sig a ms)) := by
 refine ⟨?_, ?_, ?_, ?_, ?_, ?_, ?_, ?_⟩ <;> (intro ih hpre; obtain ⟨hd, h0, h1, hphi, hk⟩ := hpre; simp only [slack] at hphi; simp only [Pre'] at hk; subst hk; have hp := List.prefix_rfl (l := a.row); (simp only [body, go, done, primM, itemsM, unaryM, valuesM, elemsM, entryM, List.map_nil]); repeat' (first | with_reducible (first | refine Wl.tt ?_ | refine Wl.ff ?_ | refine Wl.kind fun x hx => ?_ | refine Wl.comes (fun hc hk => ?_) fun hc => ?_ | refine Wl.lookB (fun hc => ?_) fun hc => ?_ | refine Wl.deadq ‹_› ?_ | refine Wl.fail hB (by omega) | refine Wl.ite (fun hc => ?_) fun hc => ?_) | ((with_reducible refine Wl.ret (by omega) ⟨by omega, by (try simp only [dr]); omega, by (try simp only [gain, loss]); omega, ?_⟩); (try simp only [Shape]); first | assumption | exact List.prefix_rfl | exact hs.nt | exact hop.nt | (refine ⟨by assumption, ?_⟩; first | omega | (simp; done))) | ((with_reducible refine Wl.taken hB ‹_› (by omega) (fun b hd ho hq hr hn => ?_) (fun hc => ?_)) <;> ((try replace hop := hop.trans hq); (try replace hp := hp.trans hq))) | ((with_reducible refine Wl.expect (by decide) hB ‹_› (by omega) (fun b hd ho hq hr hn => ?_)); ((try replace hop := hop.trans hq); (try replace hp := hp.trans hq))) | ((with_reducible refine Wl.take hB ‹_› (by omega) (by first | assumption | omega) (fun b hd ho hq hr hn => ?_)); ((try replace hop := hop.trans hq); (try replace hp := hp.trans hq))) | ((with_reducible refine Wl.none_ hB ‹_› (by omega) (fun b hd ho hr hq hn => ?_)); (try replace hop := hop.trans hq.pre); (try replace hp := hp.trans hq.pre)) | ((refine Wl.close (by rfl) hB ‹_› (by omega) ‹_› ⟨by omega, by first | exact Or.inl ⟨by omega, by omega⟩ | exact Or.inr ‹_›⟩ (fun b hd ho hr hs hn => ?_)); (try replace hop := hs.op); (try replace hp := hs.pre)) | ((with_reducible refine Wl.mark (by decide) ?_); (try rw [List.nil_append])) | ((refine Wl.call (ih _ _ _ (by simp only [mu, rank]; omega) ⟨by assumption, by omega, by omega, by simp only [slack]; omega, by simp only [Pre']; first | rfl | trivial | assumption | omega | exact ⟨_, rfl, by assumption⟩ | (exact ⟨by omega, by omega, by omega, trivial, rfl, fun h => by first | omega | (rcases h with h | h <;> cases h)⟩) | exact ⟨trivial, rfl⟩⟩) hB (fun r b hd hq => ?_)); (obtain ⟨ho, hr, hn, hs⟩ := hq; simp only [dr, gain, loss, Shape, Nat.add_zero] at hr hn hs; (try replace hs := hs _ rfl ‹_›); (first | ((try replace hop := hop.trans hs); replace hp := hp.trans hs) | ((try replace hop := hop.trans hs.1); replace hp := hp.trans hs.1) | ((first | replace hop := hop.trans hs.pre | have hop := hs.op); (try replace hp := hp.trans hs.pre)) | skip))) | refine Wl.lit (by rfl) ‹_› (fun c => ?_)))
theorem t_form (hB : B ≤ 4294967000) (ih : IHT B (mu .form a)) (hpre : PreT B .form a ms) : Wl B (body .form) a ms (PostT .form a ms) := (t_g3 false 0 [] 0 false hB).1 ih hpre
theorem t_elements (hB : B ≤ 4294967000) (ih : IHT B (mu .elements a)) (hpre : PreT B .elements a ms) : Wl B (body .elements) a ms (PostT .elements a ms) := (t_g3 false 0 [] 0 false hB).2.1 ih hpre
theorem t_qualified (hB : B ≤ 4294967000) (ih : IHT B (mu .qualified a)) (hpre : PreT B .qualified a ms) : Wl B (body .qualified) a ms (PostT .qualified a ms) := (t_g3 false 0 [] 0 false hB).2.2.1 ih hpre
theorem t_field (hB : B ≤ 4294967000) (ih : IHT B (mu .field a)) (hpre : PreT B .field a ms) : Wl B (body .field) a ms (PostT .field a ms) := (t_g3 false 0 [] 0 false hB).2.2.2.1 ih hpre
theorem t_element (hB : B ≤ 4294967000) (ih : IHT B (mu .element a)) (hpre : PreT B .element a ms) : Wl B (body .element) a ms (PostT .element a ms) := (t_g3 false 0 [] 0 false hB).2.2.2.2.1 ih hpre
theorem t_union (hB : B ≤ 4294967000) (ih : IHT B (mu .union a)) (hpre : PreT B .union a ms) : Wl B (body .union) a ms (PostT .union a ms) := (t_g3 false 0 [] 0 false hB).2.2.2.2.2.1 ih hpre
theorem t_unionL (more : Bool) (hB : B ≤ 4294967000) (ih : IHT B (mu (.unionL more) a)) (hpre : PreT B (.unionL more) a ms) : Wl B (body (.unionL more)) a ms (PostT (.unionL more) a ms) := (t_g3 false 0 [] 0 more hB).2.2.2.2.2.2.1 ih hpre
theorem t_Sig (hB : B ≤ 4294967000) (ih : IHT B (mu .Sig a)) (hpre : PreT B .Sig a ms) : Wl B (body .Sig) a ms (PostT .Sig a ms) := (t_g3 false 0 [] 0 false hB).2.2.2.2.2.2.2 ih hpre
set_option maxHeartbeats 4000000 in
theorem t_g4 (head : Bool) (q : Int) (ks : List Int) (n : Int) (more : Bool) (hB : B ≤ 4294967000) :
  (IHT B (mu .Sig1 a) → PreT B .Sig1 a ms → Wl B (body .Sig1) a ms (PostT .Sig1 a ms)) ∧
  (IHT B (mu .Params a) → PreT B .Params a ms → Wl B (body .Params) a ms (PostT .Params a ms)) ∧
  (IHT B (mu .entry a) → PreT B .entry a ms → Wl B (body .entry) a ms (PostT .entry a ms)) ∧
  (IHT B (mu .TParams a) → PreT B .TParams a ms → Wl B (body .TParams) a ms (PostT .TParams a ms)) ∧
  (IHT B (mu .TParams1 a) → PreT B .TParams1 a ms → Wl B (body .TParams1) a ms (PostT .TParams1 a ms)) ∧
  (IHT B (mu .TParams11 a) → PreT B .TParams11 a ms → Wl B (body .TParams11) a ms (PostT .TParams11 a ms)) := by
 refine ⟨?_, ?_, ?_, ?_, ?_, ?_⟩ <;> (intro ih hpre; obtain ⟨hd, h0, h1, hphi, hk⟩ := hpre; simp only [slack] at hphi; simp only [Pre'] at hk; subst hk; have hp := List.prefix_rfl (l := a.row); (simp only [body, go, done, primM, itemsM, unaryM, valuesM, elemsM, entryM, List.map_nil]); repeat' (first | with_reducible (first | refine Wl.tt ?_ | refine Wl.ff ?_ | refine Wl.kind fun x hx => ?_ | refine Wl.comes (fun hc hk => ?_) fun hc => ?_ | refine Wl.lookB (fun hc => ?_) fun hc => ?_ | refine Wl.deadq ‹_› ?_ | refine Wl.fail hB (by omega) | refine Wl.ite (fun hc => ?_) fun hc => ?_) | ((with_reducible refine Wl.ret (by omega) ⟨by omega, by (try simp only [dr]); omega, by (try simp only [gain, loss]); omega, ?_⟩); (try simp only [Shape]); first | assumption | exact List.prefix_rfl | exact hs.nt | exact hop.nt | (refine ⟨by assumption, ?_⟩; first | omega | (simp; done))) | ((with_reducible refine Wl.taken hB ‹_› (by omega) (fun b hd ho hq hr hn => ?_) (fun hc => ?_)) <;> ((try replace hop := hop.trans hq); (try replace hp := hp.trans hq))) | ((with_reducible refine Wl.expect (by decide) hB ‹_› (by omega) (fun b hd ho hq hr hn => ?_)); ((try replace hop := hop.trans hq); (try replace hp := hp.trans hq))) | ((with_reducible refine Wl.take hB ‹_› (by omega) (by first | assumption | omega) (fun b hd ho hq hr hn => ?_)); ((try replace hop := hop.trans hq); (try replace hp := hp.trans hq))) | ((with_reducible refine Wl.none_ hB ‹_› (by omega) (fun b hd ho hr hq hn => ?_)); (try replace hop := hop.trans hq.pre); (try replace hp := hp.trans hq.pre)) | ((refine Wl.close (by rfl) hB ‹_› (by omega) ‹_› ⟨by omega, by first | exact Or.inl ⟨by omega, by omega⟩ | exact Or.inr ‹_›⟩ (fun b hd ho hr hs hn => ?_)); (try replace hop := hs.op); (try replace hp := hs.pre)) | ((with_reducible refine Wl.mark (by decide) ?_); (try rw [List.nil_append])) | ((refine Wl.call (ih _ _ _ (by simp only [mu, rank]; omega) ⟨by assumption, by omega, by omega, by simp only [slack]; omega, by simp only [Pre']; first | rfl | trivial | assumption | omega | exact ⟨_, rfl, by assumption⟩ | (exact ⟨by omega, by omega, by omega, trivial, rfl, fun h => by first | omega | (rcases h with h | h <;> cases h)⟩) | exact ⟨trivial, rfl⟩⟩) hB (fun r b hd hq => ?_)); (obtain ⟨ho, hr, hn, hs⟩ := hq; simp only [dr, gain, loss, Shape, Nat.add_zero] at hr hn hs; (try replace hs := hs _ rfl ‹_›); (first | ((try replace hop := hop.trans hs); replace hp := hp.trans hs) | ((try replace hop := hop.trans hs.1); replace hp := hp.trans hs.1) | ((first | replace hop := hop.trans hs.pre | have hop := hs.op); (try replace hp := hp.trans hs.pre)) | skip))) | refine Wl.lit (by rfl) ‹_› (fun c => ?_)))
theorem t_Sig1 (hB : B ≤ 4294967000) (ih : IHT B (mu .Sig1 a)) (hpre : PreT B .Sig1 a ms) : Wl B (body .Sig1) a ms (PostT .Sig1 a ms) := (t_g4 false 0 [] 0 false hB).1 ih hpre
theorem t_Params (hB : B ≤ 4294967000) (ih : IHT B (mu .Params a)) (hpre : PreT B .Params a ms) : Wl B (body .Params) a ms (PostT .Params a ms) := (t_g4 false 0 [] 0 false hB).2.1 ih hpre
theorem t_entry (hB : B ≤ 4294967000) (ih : IHT B (mu .entry a)) (hpre : PreT B .entry a ms) : Wl B (body .entry) a ms (PostT .entry a ms) := (t_g4 false 0 [] 0 false hB).2.2.1 ih hpre
theorem t_TParams (hB : B ≤ 4294967000) (ih : IHT B (mu .TParams a)) (hpre : PreT B .TParams a ms) : Wl B (body .TParams) a ms (PostT .TParams a ms) := (t_g4 false 0 [] 0 false hB).2.2.2.1 ih hpre
theorem t_TParams1 (hB : B ≤ 4294967000) (ih : IHT B (mu .TParams1 a)) (hpre : PreT B .TParams1 a ms) : Wl B (body .TParams1) a ms (PostT .TParams1 a ms) := (t_g4 false 0 [] 0 false hB).2.2.2.2.1 ih hpre
theorem t_TParams11 (hB : B ≤ 4294967000) (ih : IHT B (mu .TParams11 a)) (hpre : PreT B .TParams11 a ms) : Wl B (body .TParams11) a ms (PostT .TParams11 a ms) := (t_g4 false 0 [] 0 false hB).2.2.2.2.2 ih hpre
end
end Go.AI.Rd
end
section
namespace Go.AI.Rd
theorem dIn_facts {pr : Proc} (h : dIn pr) : rank pr ≤ 10 ∧ slack pr = 3 ∧ dr pr = 1 ∧ loss pr = 0 ∧ (∀ a, Pre' pr a []) ∧ (∀ a ms r b, Shape pr a ms r b → N1 a.row b.row) := by
 cases pr <;> first | exact False.elim h | exact ⟨by simp only [rank]; omega, rfl, rfl, rfl, fun a => rfl, fun a ms r b h => h⟩
theorem nIn_facts {pr : Proc} (h : nIn pr) : slack pr = 3 ∧ dr pr = 1 ∧ loss pr = 0 ∧ 1 ≤ gain pr ∧ (∀ a, (pr = .takeP ∨ pr = .entry1 → a.kinds.getD 0 0 ≠ 0) → Pre' pr a []) ∧ (∀ a ms r b, Shape pr a ms r b → a.row <+: b.row) := by
 cases pr <;> first | exact False.elim h | exact ⟨rfl, rfl, rfl, by simp only [gain]; omega, fun a _ => rfl, fun a ms r b h => h⟩ | exact ⟨rfl, rfl, rfl, by simp only [gain]; omega, fun a h => h (by simp), fun a ms r b h => h⟩
theorem iIn_facts {pr : Proc} (h : iIn pr) : rank pr ≤ 10 ∧ slack pr = 3 ∧ dr pr = 1 ∧ loss pr = 0 ∧ (∀ a, Pre' pr a []) ∧ (∀ a ms r b, Shape pr a ms r b → a.row <+: b.row) := by
 cases pr <;> first | exact False.elim h | exact ⟨by simp only [rank]; omega, rfl, rfl, rfl, fun a => rfl, fun a ms r b h => N1.pre h⟩
section
variable {B : Nat} {a : A} {ms : List Int}
theorem t_deeper {pr : Proc} (hB : B ≤ 4294967000) (ih : IHT B (mu (.deeper pr) a)) (hpre : PreT B (.deeper pr) a ms) : Wl B (body (.deeper pr)) a ms (PostT (.deeper pr) a ms) := by
 obtain ⟨hd, h0, h1, hphi, hk⟩ := hpre
 simp only [slack] at hphi
 simp only [Pre'] at hk
 obtain ⟨hk, rfl⟩ := hk
 obtain ⟨f1, f2, f3, f4, f5, f6⟩ := dIn_facts hk
 simp only [body, go, done, primM, itemsM, unaryM, valuesM, elemsM, entryM, List.map_nil]
 refine Wl.down hB hd (by omega) fun hne => Wl.tt ?_
 refine Wl.call (ih pr _ [] (by simp only [mu, rank]; omega) ⟨hd, by simp only; omega, by simp only; omega, by rw [f2]; exact hphi, f5 _⟩) hB fun r b hd hq => ?_
 obtain ⟨ho, hr, hn, hs⟩ := hq
 simp only [f3, f4] at ho hr hn
 have hs' := f6 _ _ _ _ hs
 refine Wl.up (Wl.ret (show b.row.length + 8 * b.rest.length ≤ B by omega) ⟨?_, ?_, ?_, hs'⟩)
 ·show max (b.opn - 1) 0 = a.opn
  omega
 ·simp only [dr, f3]; exact hr
 ·simp only [gain, loss]; exact hn
theorem t_node {pr : Proc} (k : Int) (hB : B ≤ 4294967000) (ih : IHT B (mu (.node k pr) a)) (hpre : PreT B (.node k pr) a ms) : Wl B (body (.node k pr)) a ms (PostT (.node k pr) a ms) := by
 obtain ⟨hd, h0, h1, hphi, hk⟩ := hpre
 simp only [slack] at hphi
 simp only [Pre'] at hk
 obtain ⟨k1, k2, k3, hk, rfl, hkk⟩ := hk
 obtain ⟨f2, f3, f4, f5, f6, f7⟩ := nIn_facts hk
 simp only [body, go, done, primM, itemsM, unaryM, valuesM, elemsM, entryM, List.map_nil]
 refine Wl.mark (by decide) ?_
 rw [List.nil_append]
 refine Wl.call (ih pr _ [] (by simp only [mu, rank]; omega) ⟨hd, h0, h1, by rw [f2]; exact hphi, f6 _ hkk⟩) hB fun r b hd hq => ?_
 obtain ⟨ho, hr, hn, hs⟩ := hq
 simp only [f3, f4] at ho hr hn
 have hp := f7 _ _ _ _ hs
 refine Wl.close rfl hB hd (by omega) hp ⟨k1, .inl ⟨k2, k3⟩⟩ fun c hd ho hr hs hn => ?_
 refine Wl.ret (by omega) ⟨by omega, ?_, ?_, hs⟩
 ·simp only [dr, f3]; omega
 ·simp only [gain, loss]; omega
theorem t_items {pr : Proc} (hB : B ≤ 4294967000) (ih : IHT B (mu (.items pr) a)) (hpre : PreT B (.items pr) a ms) : Wl B (body (.items pr)) a ms (PostT (.items pr) a ms) := by
 obtain ⟨hd, h0, h1, hphi, hk⟩ := hpre
 simp only [slack] at hphi
 simp only [Pre'] at hk
 obtain ⟨hk, rfl⟩ := hk
 obtain ⟨f1, f2, f3, f4, f5, f6⟩ := iIn_facts hk
 have hp := List.prefix_rfl (l := a.row)
 simp only [body, go, done, primM, itemsM, unaryM, valuesM, elemsM, entryM, List.map_nil]
 refine Wl.expect (by decide) hB hd (by omega) fun b hd ho hq hr hn => ?_
 (try replace hop := hop.trans hq); (try replace hp := hp.trans hq)
 refine Wl.call (ih (.itemsL pr) _ [] (by simp only [mu, rank]; omega) ⟨by assumption, by omega, by omega, by simp only [slack]; omega, hk, rfl⟩) hB (fun r b hd hq => ?_)
 (obtain ⟨ho, hr, hn, hs⟩ := hq; simp only [dr, gain, loss, Shape, Nat.add_zero] at hr hn hs; (try replace hs := hs _ rfl ‹_›); (first | ((try replace hop := hop.trans hs); replace hp := hp.trans hs) | ((try replace hop := hop.trans hs.1); replace hp := hp.trans hs.1) | ((first | replace hop := hop.trans hs.pre | have hop := hs.op); (try replace hp := hp.trans hs.pre)) | skip))
 repeat' (first | with_reducible (first | refine Wl.tt ?_ | refine Wl.ff ?_ | refine Wl.kind fun x hx => ?_ | refine Wl.comes (fun hc hk => ?_) fun hc => ?_ | refine Wl.lookB (fun hc => ?_) fun hc => ?_ | refine Wl.deadq ‹_› ?_ | refine Wl.fail hB (by omega) | refine Wl.ite (fun hc => ?_) fun hc => ?_) | ((with_reducible refine Wl.ret (by omega) ⟨by omega, by (try simp only [dr]); omega, by (try simp only [gain, loss]); omega, ?_⟩); (try simp only [Shape]); first | assumption | exact List.prefix_rfl | exact hs.nt | exact hop.nt | (refine ⟨by assumption, ?_⟩; first | omega | (simp; done))) | ((with_reducible refine Wl.taken hB ‹_› (by omega) (fun b hd ho hq hr hn => ?_) (fun hc => ?_)) <;> ((try replace hop := hop.trans hq); (try replace hp := hp.trans hq))) | ((with_reducible refine Wl.expect (by decide) hB ‹_› (by omega) (fun b hd ho hq hr hn => ?_)); ((try replace hop := hop.trans hq); (try replace hp := hp.trans hq))) | ((with_reducible refine Wl.take hB ‹_› (by omega) (by first | assumption | omega) (fun b hd ho hq hr hn => ?_)); ((try replace hop := hop.trans hq); (try replace hp := hp.trans hq))) | ((with_reducible refine Wl.none_ hB ‹_› (by omega) (fun b hd ho hr hq hn => ?_)); (try replace hop := hop.trans hq.pre); (try replace hp := hp.trans hq.pre)) | ((refine Wl.close (by rfl) hB ‹_› (by omega) ‹_› ⟨by omega, by first | exact Or.inl ⟨by omega, by omega⟩ | exact Or.inr ‹_›⟩ (fun b hd ho hr hs hn => ?_)); (try replace hop := hs.op); (try replace hp := hs.pre)) | ((with_reducible refine Wl.mark (by decide) ?_); (try rw [List.nil_append])) | ((refine Wl.call (ih _ _ _ (by simp only [mu, rank]; omega) ⟨by assumption, by omega, by omega, by simp only [slack]; omega, by simp only [Pre']; first | rfl | trivial | assumption | omega | exact ⟨_, rfl, by assumption⟩ | (exact ⟨by omega, by omega, by omega, trivial, rfl, fun h => by first | omega | (rcases h with h | h <;> cases h)⟩) | exact ⟨trivial, rfl⟩⟩) hB (fun r b hd hq => ?_)); (obtain ⟨ho, hr, hn, hs⟩ := hq; simp only [dr, gain, loss, Shape, Nat.add_zero] at hr hn hs; (try replace hs := hs _ rfl ‹_›); (first | ((try replace hop := hop.trans hs); replace hp := hp.trans hs) | ((try replace hop := hop.trans hs.1); replace hp := hp.trans hs.1) | ((first | replace hop := hop.trans hs.pre | have hop := hs.op); (try replace hp := hp.trans hs.pre)) | skip))) | refine Wl.lit (by rfl) ‹_› (fun c => ?_))
theorem t_itemsL {pr : Proc} (hB : B ≤ 4294967000) (ih : IHT B (mu (.itemsL pr) a)) (hpre : PreT B (.itemsL pr) a ms) : Wl B (body (.itemsL pr)) a ms (PostT (.itemsL pr) a ms) := by
 obtain ⟨hd, h0, h1, hphi, hk⟩ := hpre
 simp only [slack] at hphi
 simp only [Pre'] at hk
 obtain ⟨hk, rfl⟩ := hk
 obtain ⟨f1, f2, f3, f4, f5, f6⟩ := iIn_facts hk
 have hp := List.prefix_rfl (l := a.row)
 simp only [body, go, done, primM, itemsM, unaryM, valuesM, elemsM, entryM, List.map_nil]
 refine Wl.deadq hd (Wl.ff (Wl.comes (fun hc hkk => Wl.tt ?_) fun hc => Wl.ff ?_))
 ·repeat' (first | with_reducible (first | refine Wl.tt ?_ | refine Wl.ff ?_ | refine Wl.kind fun x hx => ?_ | refine Wl.comes (fun hc hk => ?_) fun hc => ?_ | refine Wl.lookB (fun hc => ?_) fun hc => ?_ | refine Wl.deadq ‹_› ?_ | refine Wl.fail hB (by omega) | refine Wl.ite (fun hc => ?_) fun hc => ?_) | ((with_reducible refine Wl.ret (by omega) ⟨by omega, by (try simp only [dr]); omega, by (try simp only [gain, loss]); omega, ?_⟩); (try simp only [Shape]); first | assumption | exact List.prefix_rfl | exact hs.nt | exact hop.nt | (refine ⟨by assumption, ?_⟩; first | omega | (simp; done))) | ((with_reducible refine Wl.taken hB ‹_› (by omega) (fun b hd ho hq hr hn => ?_) (fun hc => ?_)) <;> ((try replace hop := hop.trans hq); (try replace hp := hp.trans hq))) | ((with_reducible refine Wl.expect (by decide) hB ‹_› (by omega) (fun b hd ho hq hr hn => ?_)); ((try replace hop := hop.trans hq); (try replace hp := hp.trans hq))) | ((with_reducible refine Wl.take hB ‹_› (by omega) (by first | assumption | omega) (fun b hd ho hq hr hn => ?_)); ((try replace hop := hop.trans hq); (try replace hp := hp.trans hq))) | ((with_reducible refine Wl.none_ hB ‹_› (by omega) (fun b hd ho hr hq hn => ?_)); (try replace hop := hop.trans hq.pre); (try replace hp := hp.trans hq.pre)) | ((refine Wl.close (by rfl) hB ‹_› (by omega) ‹_› ⟨by omega, by first | exact Or.inl ⟨by omega, by omega⟩ | exact Or.inr ‹_›⟩ (fun b hd ho hr hs hn => ?_)); (try replace hop := hs.op); (try replace hp := hs.pre)) | ((with_reducible refine Wl.mark (by decide) ?_); (try rw [List.nil_append])) | ((refine Wl.call (ih _ _ _ (by simp only [mu, rank]; omega) ⟨by assumption, by omega, by omega, by simp only [slack]; omega, by simp only [Pre']; first | rfl | trivial | assumption | omega | exact ⟨_, rfl, by assumption⟩ | (exact ⟨by omega, by omega, by omega, trivial, rfl, fun h => by first | omega | (rcases h with h | h <;> cases h)⟩) | exact ⟨trivial, rfl⟩⟩) hB (fun r b hd hq => ?_)); (obtain ⟨ho, hr, hn, hs⟩ := hq; simp only [dr, gain, loss, Shape, Nat.add_zero] at hr hn hs; (try replace hs := hs _ rfl ‹_›); (first | ((try replace hop := hop.trans hs); replace hp := hp.trans hs) | ((try replace hop := hop.trans hs.1); replace hp := hp.trans hs.1) | ((first | replace hop := hop.trans hs.pre | have hop := hs.op); (try replace hp := hp.trans hs.pre)) | skip))) | refine Wl.lit (by rfl) ‹_› (fun c => ?_))
 ·refine Wl.call (ih pr _ [] (by simp only [mu, rank]; omega) ⟨hd, h0, h1, by rw [f2]; exact hphi, f5 _⟩) hB fun r b hd hq => ?_
  obtain ⟨ho, hr, hn, hs⟩ := hq
  simp only [f3, f4] at ho hr hn
  have hp := f6 _ _ _ _ hs
  refine Wl.taken hB hd (by omega) (fun b hd ho hq hr hn => Wl.tt ?_) fun hc => Wl.ff ?_
  ·(try replace hop := hop.trans hq); (try replace hp := hp.trans hq)
   refine Wl.call (ih (.itemsL pr) _ [] (by simp only [mu, rank]; omega) ⟨by assumption, by omega, by omega, by simp only [slack]; omega, hk, rfl⟩) hB (fun r b hd hq => ?_)
   (obtain ⟨ho, hr, hn, hs⟩ := hq; simp only [dr, gain, loss, Shape, Nat.add_zero] at hr hn hs; (try replace hs := hs _ rfl ‹_›); (first | ((try replace hop := hop.trans hs); replace hp := hp.trans hs) | ((try replace hop := hop.trans hs.1); replace hp := hp.trans hs.1) | ((first | replace hop := hop.trans hs.pre | have hop := hs.op); (try replace hp := hp.trans hs.pre)) | skip))
   repeat' (first | with_reducible (first | refine Wl.tt ?_ | refine Wl.ff ?_ | refine Wl.kind fun x hx => ?_ | refine Wl.comes (fun hc hk => ?_) fun hc => ?_ | refine Wl.lookB (fun hc => ?_) fun hc => ?_ | refine Wl.deadq ‹_› ?_ | refine Wl.fail hB (by omega) | refine Wl.ite (fun hc => ?_) fun hc => ?_) | ((with_reducible refine Wl.ret (by omega) ⟨by omega, by (try simp only [dr]); omega, by (try simp only [gain, loss]); omega, ?_⟩); (try simp only [Shape]); first | assumption | exact List.prefix_rfl | exact hs.nt | exact hop.nt | (refine ⟨by assumption, ?_⟩; first | omega | (simp; done))) | ((with_reducible refine Wl.taken hB ‹_› (by omega) (fun b hd ho hq hr hn => ?_) (fun hc => ?_)) <;> ((try replace hop := hop.trans hq); (try replace hp := hp.trans hq))) | ((with_reducible refine Wl.expect (by decide) hB ‹_› (by omega) (fun b hd ho hq hr hn => ?_)); ((try replace hop := hop.trans hq); (try replace hp := hp.trans hq))) | ((with_reducible refine Wl.take hB ‹_› (by omega) (by first | assumption | omega) (fun b hd ho hq hr hn => ?_)); ((try replace hop := hop.trans hq); (try replace hp := hp.trans hq))) | ((with_reducible refine Wl.none_ hB ‹_› (by omega) (fun b hd ho hr hq hn => ?_)); (try replace hop := hop.trans hq.pre); (try replace hp := hp.trans hq.pre)) | ((refine Wl.close (by rfl) hB ‹_› (by omega) ‹_› ⟨by omega, by first | exact Or.inl ⟨by omega, by omega⟩ | exact Or.inr ‹_›⟩ (fun b hd ho hr hs hn => ?_)); (try replace hop := hs.op); (try replace hp := hs.pre)) | ((with_reducible refine Wl.mark (by decide) ?_); (try rw [List.nil_append])) | ((refine Wl.call (ih _ _ _ (by simp only [mu, rank]; omega) ⟨by assumption, by omega, by omega, by simp only [slack]; omega, by simp only [Pre']; first | rfl | trivial | assumption | omega | exact ⟨_, rfl, by assumption⟩ | (exact ⟨by omega, by omega, by omega, trivial, rfl, fun h => by first | omega | (rcases h with h | h <;> cases h)⟩) | exact ⟨trivial, rfl⟩⟩) hB (fun r b hd hq => ?_)); (obtain ⟨ho, hr, hn, hs⟩ := hq; simp only [dr, gain, loss, Shape, Nat.add_zero] at hr hn hs; (try replace hs := hs _ rfl ‹_›); (first | ((try replace hop := hop.trans hs); replace hp := hp.trans hs) | ((try replace hop := hop.trans hs.1); replace hp := hp.trans hs.1) | ((first | replace hop := hop.trans hs.pre | have hop := hs.op); (try replace hp := hp.trans hs.pre)) | skip))) | refine Wl.lit (by rfl) ‹_› (fun c => ?_))
  ·repeat' (first | with_reducible (first | refine Wl.tt ?_ | refine Wl.ff ?_ | refine Wl.kind fun x hx => ?_ | refine Wl.comes (fun hc hk => ?_) fun hc => ?_ | refine Wl.lookB (fun hc => ?_) fun hc => ?_ | refine Wl.deadq ‹_› ?_ | refine Wl.fail hB (by omega) | refine Wl.ite (fun hc => ?_) fun hc => ?_) | ((with_reducible refine Wl.ret (by omega) ⟨by omega, by (try simp only [dr]); omega, by (try simp only [gain, loss]); omega, ?_⟩); (try simp only [Shape]); first | assumption | exact List.prefix_rfl | exact hs.nt | exact hop.nt | (refine ⟨by assumption, ?_⟩; first | omega | (simp; done))) | ((with_reducible refine Wl.taken hB ‹_› (by omega) (fun b hd ho hq hr hn => ?_) (fun hc => ?_)) <;> ((try replace hop := hop.trans hq); (try replace hp := hp.trans hq))) | ((with_reducible refine Wl.expect (by decide) hB ‹_› (by omega) (fun b hd ho hq hr hn => ?_)); ((try replace hop := hop.trans hq); (try replace hp := hp.trans hq))) | ((with_reducible refine Wl.take hB ‹_› (by omega) (by first | assumption | omega) (fun b hd ho hq hr hn => ?_)); ((try replace hop := hop.trans hq); (try replace hp := hp.trans hq))) | ((with_reducible refine Wl.none_ hB ‹_› (by omega) (fun b hd ho hr hq hn => ?_)); (try replace hop := hop.trans hq.pre); (try replace hp := hp.trans hq.pre)) | ((refine Wl.close (by rfl) hB ‹_› (by omega) ‹_› ⟨by omega, by first | exact Or.inl ⟨by omega, by omega⟩ | exact Or.inr ‹_›⟩ (fun b hd ho hr hs hn => ?_)); (try replace hop := hs.op); (try replace hp := hs.pre)) | ((with_reducible refine Wl.mark (by decide) ?_); (try rw [List.nil_append])) | ((refine Wl.call (ih _ _ _ (by simp only [mu, rank]; omega) ⟨by assumption, by omega, by omega, by simp only [slack]; omega, by simp only [Pre']; first | rfl | trivial | assumption | omega | exact ⟨_, rfl, by assumption⟩ | (exact ⟨by omega, by omega, by omega, trivial, rfl, fun h => by first | omega | (rcases h with h | h <;> cases h)⟩) | exact ⟨trivial, rfl⟩⟩) hB (fun r b hd hq => ?_)); (obtain ⟨ho, hr, hn, hs⟩ := hq; simp only [dr, gain, loss, Shape, Nat.add_zero] at hr hn hs; (try replace hs := hs _ rfl ‹_›); (first | ((try replace hop := hop.trans hs); replace hp := hp.trans hs) | ((try replace hop := hop.trans hs.1); replace hp := hp.trans hs.1) | ((first | replace hop := hop.trans hs.pre | have hop := hs.op); (try replace hp := hp.trans hs.pre)) | skip))) | refine Wl.lit (by rfl) ‹_› (fun c => ?_))
theorem t_binaryL (q : Int) (head : Bool) (hB : B ≤ 4294967000) (ih : IHT B (mu (.binaryL q head) a)) (hpre : PreT B (.binaryL q head) a ms) : Wl B (body (.binaryL q head)) a ms (PostT (.binaryL q head) a ms) := by
 obtain ⟨hd, h0, h1, hphi, hk⟩ := hpre
 simp only [slack] at hphi
 simp only [Pre'] at hk
 obtain ⟨R, rfl, hN⟩ := hk
 have hp : R <+: a.row := hN.pre
 have hop : Op R a.row := hN.op
 refine Wl.mono (Q := fun r b => Po 0 0 0 (N1 R b.row) a b) ?_ (fun r b hd h => ⟨h.opn, h.rest, h.phi, shapeR hN.pre h.shape⟩)
 simp only [body, go, done, primM, itemsM, unaryM, valuesM, elemsM, entryM, List.map_nil]
 refine Wl.look fun x hx => Wl.ite (fun hc => Wl.ite (fun hc2 => ?_) (fun hc2 => ?_)) (fun hc => ?_)
 ·have hk : a.kinds.getD 0 0 ≠ 0 := by
   intro h; rw [h] at hx; rw [← hx] at hc; exact absurd hc (by decide)
  refine Wl.take hB hd (by omega) hk fun b hd ho hq hr hn => ?_
  (try replace hop := hop.trans hq); (try replace hp := hp.trans hq)
  repeat' (first | with_reducible (first | refine Wl.tt ?_ | refine Wl.ff ?_ | refine Wl.kind fun x hx => ?_ | refine Wl.comes (fun hc hk => ?_) fun hc => ?_ | refine Wl.lookB (fun hc => ?_) fun hc => ?_ | refine Wl.deadq ‹_› ?_ | refine Wl.fail hB (by omega) | refine Wl.ite (fun hc => ?_) fun hc => ?_) | ((with_reducible refine Wl.ret (by omega) ⟨by omega, by (try simp only [dr]); omega, by (try simp only [gain, loss]); omega, ?_⟩); (try simp only [Shape]); first | assumption | exact List.prefix_rfl | exact hs.nt | exact hop.nt | (refine ⟨by assumption, ?_⟩; first | omega | (simp; done))) | ((with_reducible refine Wl.taken hB ‹_› (by omega) (fun b hd ho hq hr hn => ?_) (fun hc => ?_)) <;> ((try replace hop := hop.trans hq); (try replace hp := hp.trans hq))) | ((with_reducible refine Wl.expect (by decide) hB ‹_› (by omega) (fun b hd ho hq hr hn => ?_)); ((try replace hop := hop.trans hq); (try replace hp := hp.trans hq))) | ((with_reducible refine Wl.take hB ‹_› (by omega) (by first | assumption | omega) (fun b hd ho hq hr hn => ?_)); ((try replace hop := hop.trans hq); (try replace hp := hp.trans hq))) | ((with_reducible refine Wl.none_ hB ‹_› (by omega) (fun b hd ho hr hq hn => ?_)); (try replace hop := hop.trans hq.pre); (try replace hp := hp.trans hq.pre)) | ((refine Wl.close (by rfl) hB ‹_› (by omega) ‹_› ⟨by omega, by first | exact Or.inl ⟨by omega, by omega⟩ | exact Or.inr ‹_›⟩ (fun b hd ho hr hs hn => ?_)); (try replace hop := hs.op); (try replace hp := hs.pre)) | ((with_reducible refine Wl.mark (by decide) ?_); (try rw [List.nil_append])) | ((refine Wl.call (ih _ _ _ (by simp only [mu, rank]; omega) ⟨by assumption, by omega, by omega, by simp only [slack]; omega, by simp only [Pre']; first | rfl | trivial | assumption | omega | exact ⟨_, rfl, by assumption⟩ | (exact ⟨by omega, by omega, by omega, trivial, rfl, fun h => by first | omega | (rcases h with h | h <;> cases h)⟩) | exact ⟨trivial, rfl⟩⟩) hB (fun r b hd hq => ?_)); (obtain ⟨ho, hr, hn, hs⟩ := hq; simp only [dr, gain, loss, Shape, Nat.add_zero] at hr hn hs; (try replace hs := hs _ rfl ‹_›); (first | ((try replace hop := hop.trans hs); replace hp := hp.trans hs) | ((try replace hop := hop.trans hs.1); replace hp := hp.trans hs.1) | ((first | replace hop := hop.trans hs.pre | have hop := hs.op); (try replace hp := hp.trans hs.pre)) | skip))) | refine Wl.lit (by rfl) ‹_› (fun c => ?_))
 repeat' (first | with_reducible (first | refine Wl.tt ?_ | refine Wl.ff ?_ | refine Wl.kind fun x hx => ?_ | refine Wl.comes (fun hc hk => ?_) fun hc => ?_ | refine Wl.lookB (fun hc => ?_) fun hc => ?_ | refine Wl.deadq ‹_› ?_ | refine Wl.fail hB (by omega) | refine Wl.ite (fun hc => ?_) fun hc => ?_) | ((with_reducible refine Wl.ret (by omega) ⟨by omega, by (try simp only [dr]); omega, by (try simp only [gain, loss]); omega, ?_⟩); (try simp only [Shape]); first | assumption | exact List.prefix_rfl | exact hs.nt | exact hop.nt | (refine ⟨by assumption, ?_⟩; first | omega | (simp; done))) | ((with_reducible refine Wl.taken hB ‹_› (by omega) (fun b hd ho hq hr hn => ?_) (fun hc => ?_)) <;> ((try replace hop := hop.trans hq); (try replace hp := hp.trans hq))) | ((with_reducible refine Wl.expect (by decide) hB ‹_› (by omega) (fun b hd ho hq hr hn => ?_)); ((try replace hop := hop.trans hq); (try replace hp := hp.trans hq))) | ((with_reducible refine Wl.take hB ‹_› (by omega) (by first | assumption | omega) (fun b hd ho hq hr hn => ?_)); ((try replace hop := hop.trans hq); (try replace hp := hp.trans hq))) | ((with_reducible refine Wl.none_ hB ‹_› (by omega) (fun b hd ho hr hq hn => ?_)); (try replace hop := hop.trans hq.pre); (try replace hp := hp.trans hq.pre)) | ((refine Wl.close (by rfl) hB ‹_› (by omega) ‹_› ⟨by omega, by first | exact Or.inl ⟨by omega, by omega⟩ | exact Or.inr ‹_›⟩ (fun b hd ho hr hs hn => ?_)); (try replace hop := hs.op); (try replace hp := hs.pre)) | ((with_reducible refine Wl.mark (by decide) ?_); (try rw [List.nil_append])) | ((refine Wl.call (ih _ _ _ (by simp only [mu, rank]; omega) ⟨by assumption, by omega, by omega, by simp only [slack]; omega, by simp only [Pre']; first | rfl | trivial | assumption | omega | exact ⟨_, rfl, by assumption⟩ | (exact ⟨by omega, by omega, by omega, trivial, rfl, fun h => by first | omega | (rcases h with h | h <;> cases h)⟩) | exact ⟨trivial, rfl⟩⟩) hB (fun r b hd hq => ?_)); (obtain ⟨ho, hr, hn, hs⟩ := hq; simp only [dr, gain, loss, Shape, Nat.add_zero] at hr hn hs; (try replace hs := hs _ rfl ‹_›); (first | ((try replace hop := hop.trans hs); replace hp := hp.trans hs) | ((try replace hop := hop.trans hs.1); replace hp := hp.trans hs.1) | ((first | replace hop := hop.trans hs.pre | have hop := hs.op); (try replace hp := hp.trans hs.pre)) | skip))) | refine Wl.lit (by rfl) ‹_› (fun c => ?_))
set_option maxHeartbeats 4000000 in
theorem t_loops (head : Bool) (hB : B ≤ 4294967000) : (IHT B (mu (.primaryL head) a) → PreT B (.primaryL head) a ms → Wl B (body (.primaryL head)) a ms (PostT (.primaryL head) a ms)) ∧ (IHT B (mu .formL a) → PreT B .formL a ms → Wl B (body .formL) a ms (PostT .formL a ms)) ∧ (IHT B (mu .fieldL a) → PreT B .fieldL a ms → Wl B (body .fieldL) a ms (PostT .fieldL a ms)) := by
 refine ⟨?_, ?_, ?_⟩ <;> (intro ih hpre; obtain ⟨hd, h0, h1, hphi, hk⟩ := hpre; simp only [slack] at hphi; simp only [Pre'] at hk; obtain ⟨R, rfl, hN⟩ := hk; have hp : R <+: a.row := (by first | exact N1.pre hN | exact Op.pre hN | exact hN); have hp0 := hp; (try have hop : Op R a.row := (by first | exact N1.op hN | exact hN)); refine Wl.mono (Q := fun r b => Po 0 0 0 (N1 R b.row) a b) ?_ (fun r b hd h => ⟨h.opn, h.rest, h.phi, shapeR hp0 h.shape⟩); (simp only [body, go, done, primM, itemsM, unaryM, valuesM, elemsM, entryM, List.map_nil]); repeat' (first | with_reducible (first | refine Wl.tt ?_ | refine Wl.ff ?_ | refine Wl.kind fun x hx => ?_ | refine Wl.comes (fun hc hk => ?_) fun hc => ?_ | refine Wl.lookB (fun hc => ?_) fun hc => ?_ | refine Wl.deadq ‹_› ?_ | refine Wl.fail hB (by omega) | refine Wl.ite (fun hc => ?_) fun hc => ?_) | ((with_reducible refine Wl.ret (by omega) ⟨by omega, by (try simp only [dr]); omega, by (try simp only [gain, loss]); omega, ?_⟩); (try simp only [Shape]); first | assumption | exact List.prefix_rfl | exact hs.nt | exact hop.nt | (refine ⟨by assumption, ?_⟩; first | omega | (simp; done))) | ((with_reducible refine Wl.taken hB ‹_› (by omega) (fun b hd ho hq hr hn => ?_) (fun hc => ?_)) <;> ((try replace hop := hop.trans hq); (try replace hp := hp.trans hq))) | ((with_reducible refine Wl.expect (by decide) hB ‹_› (by omega) (fun b hd ho hq hr hn => ?_)); ((try replace hop := hop.trans hq); (try replace hp := hp.trans hq))) | ((with_reducible refine Wl.take hB ‹_› (by omega) (by first | assumption | omega) (fun b hd ho hq hr hn => ?_)); ((try replace hop := hop.trans hq); (try replace hp := hp.trans hq))) | ((with_reducible refine Wl.none_ hB ‹_› (by omega) (fun b hd ho hr hq hn => ?_)); (try replace hop := hop.trans hq.pre); (try replace hp := hp.trans hq.pre)) | ((refine Wl.close (by rfl) hB ‹_› (by omega) ‹_› ⟨by omega, by first | exact Or.inl ⟨by omega, by omega⟩ | exact Or.inr ‹_›⟩ (fun b hd ho hr hs hn => ?_)); (try replace hop := hs.op); (try replace hp := hs.pre)) | ((with_reducible refine Wl.mark (by decide) ?_); (try rw [List.nil_append])) | ((refine Wl.call (ih _ _ _ (by simp only [mu, rank]; omega) ⟨by assumption, by omega, by omega, by simp only [slack]; omega, by simp only [Pre']; first | rfl | trivial | assumption | omega | exact ⟨_, rfl, by assumption⟩ | (exact ⟨by omega, by omega, by omega, trivial, rfl, fun h => by first | omega | (rcases h with h | h <;> cases h)⟩) | exact ⟨trivial, rfl⟩⟩) hB (fun r b hd hq => ?_)); (obtain ⟨ho, hr, hn, hs⟩ := hq; simp only [dr, gain, loss, Shape, Nat.add_zero] at hr hn hs; (try replace hs := hs _ rfl ‹_›); (first | ((try replace hop := hop.trans hs); replace hp := hp.trans hs) | ((try replace hop := hop.trans hs.1); replace hp := hp.trans hs.1) | ((first | replace hop := hop.trans hs.pre | have hop := hs.op); (try replace hp := hp.trans hs.pre)) | skip))) | refine Wl.lit (by rfl) ‹_› (fun c => ?_)))
theorem t_primaryL (head : Bool) (hB : B ≤ 4294967000) (ih : IHT B (mu (.primaryL head) a)) (hpre : PreT B (.primaryL head) a ms) : Wl B (body (.primaryL head)) a ms (PostT (.primaryL head) a ms) := (t_loops head hB).1 ih hpre
theorem t_formL (hB : B ≤ 4294967000) (ih : IHT B (mu .formL a)) (hpre : PreT B .formL a ms) : Wl B (body .formL) a ms (PostT .formL a ms) := (t_loops false hB).2.1 ih hpre
theorem t_fieldL (hB : B ≤ 4294967000) (ih : IHT B (mu .fieldL a)) (hpre : PreT B .fieldL a ms) : Wl B (body .fieldL) a ms (PostT .fieldL a ms) := (t_loops false hB).2.2 ih hpre
set_option maxHeartbeats 4000000 in
theorem t_two (hB : B ≤ 4294967000) : (IHT B (mu .entry1 a) → PreT B .entry1 a ms → Wl B (body .entry1) a ms (PostT .entry1 a ms)) ∧ (IHT B (mu .TParams11L a) → PreT B .TParams11L a ms → Wl B (body .TParams11L) a ms (PostT .TParams11L a ms)) := by
 refine ⟨?_, ?_⟩ <;> (intro ih hpre; obtain ⟨hd, h0, h1, hphi, hk⟩ := hpre; simp only [slack] at hphi; simp only [Pre'] at hk; (try subst hk); have hp := List.prefix_rfl (l := a.row); (simp only [body, go, done, primM, itemsM, unaryM, valuesM, elemsM, entryM, List.map_nil]); repeat' (first | with_reducible (first | refine Wl.tt ?_ | refine Wl.ff ?_ | refine Wl.kind fun x hx => ?_ | refine Wl.comes (fun hc hk => ?_) fun hc => ?_ | refine Wl.lookB (fun hc => ?_) fun hc => ?_ | refine Wl.deadq ‹_› ?_ | refine Wl.fail hB (by omega) | refine Wl.ite (fun hc => ?_) fun hc => ?_) | ((with_reducible refine Wl.ret (by omega) ⟨by omega, by (try simp only [dr]); omega, by (try simp only [gain, loss]); omega, ?_⟩); (try simp only [Shape]); first | assumption | exact List.prefix_rfl | exact hs.nt | exact hop.nt | (refine ⟨by assumption, ?_⟩; first | omega | (simp; done))) | ((with_reducible refine Wl.taken hB ‹_› (by omega) (fun b hd ho hq hr hn => ?_) (fun hc => ?_)) <;> ((try replace hop := hop.trans hq); (try replace hp := hp.trans hq))) | ((with_reducible refine Wl.expect (by decide) hB ‹_› (by omega) (fun b hd ho hq hr hn => ?_)); ((try replace hop := hop.trans hq); (try replace hp := hp.trans hq))) | ((with_reducible refine Wl.take hB ‹_› (by omega) (by first | assumption | omega) (fun b hd ho hq hr hn => ?_)); ((try replace hop := hop.trans hq); (try replace hp := hp.trans hq))) | ((with_reducible refine Wl.none_ hB ‹_› (by omega) (fun b hd ho hr hq hn => ?_)); (try replace hop := hop.trans hq.pre); (try replace hp := hp.trans hq.pre)) | ((refine Wl.close (by rfl) hB ‹_› (by omega) ‹_› ⟨by omega, by first | exact Or.inl ⟨by omega, by omega⟩ | exact Or.inr ‹_›⟩ (fun b hd ho hr hs hn => ?_)); (try replace hop := hs.op); (try replace hp := hs.pre)) | ((with_reducible refine Wl.mark (by decide) ?_); (try rw [List.nil_append])) | ((refine Wl.call (ih _ _ _ (by simp only [mu, rank]; omega) ⟨by assumption, by omega, by omega, by simp only [slack]; omega, by simp only [Pre']; first | rfl | trivial | assumption | omega | exact ⟨_, rfl, by assumption⟩ | (exact ⟨by omega, by omega, by omega, trivial, rfl, fun h => by first | omega | (rcases h with h | h <;> cases h)⟩) | exact ⟨trivial, rfl⟩⟩) hB (fun r b hd hq => ?_)); (obtain ⟨ho, hr, hn, hs⟩ := hq; simp only [dr, gain, loss, Shape, Nat.add_zero] at hr hn hs; (try replace hs := hs _ rfl ‹_›); (first | ((try replace hop := hop.trans hs); replace hp := hp.trans hs) | ((try replace hop := hop.trans hs.1); replace hp := hp.trans hs.1) | ((first | replace hop := hop.trans hs.pre | have hop := hs.op); (try replace hp := hp.trans hs.pre)) | skip))) | refine Wl.lit (by rfl) ‹_› (fun c => ?_)))
theorem t_entry1 (hB : B ≤ 4294967000) (ih : IHT B (mu .entry1 a)) (hpre : PreT B .entry1 a ms) : Wl B (body .entry1) a ms (PostT .entry1 a ms) := (t_two hB).1 ih hpre
theorem t_TParams11L (hB : B ≤ 4294967000) (ih : IHT B (mu .TParams11L a)) (hpre : PreT B .TParams11L a ms) : Wl B (body .TParams11L) a ms (PostT .TParams11L a ms) := (t_two hB).2 ih hpre
theorem t_TParamsL (more : Bool) (hB : B ≤ 4294967000) (ih : IHT B (mu (.TParamsL more) a)) (hpre : PreT B (.TParamsL more) a ms) : Wl B (body (.TParamsL more)) a ms (PostT (.TParamsL more) a ms) := by
 obtain ⟨hd, h0, h1, hphi, hk⟩ := hpre
 simp only [slack] at hphi
 simp only [Pre'] at hk
 subst hk
 have hp := List.prefix_rfl (l := a.row)
 simp only [body, go, done, primM, itemsM, unaryM, valuesM, elemsM, entryM, List.map_nil]
 refine Wl.ite (fun hm => Wl.deadq hd (Wl.ff ?_)) (fun hm => ?_)
 repeat' (first | with_reducible (first | refine Wl.tt ?_ | refine Wl.ff ?_ | refine Wl.kind fun x hx => ?_ | refine Wl.comes (fun hc hk => ?_) fun hc => ?_ | refine Wl.lookB (fun hc => ?_) fun hc => ?_ | refine Wl.deadq ‹_› ?_ | refine Wl.fail hB (by omega) | refine Wl.ite (fun hc => ?_) fun hc => ?_) | ((with_reducible refine Wl.ret (by omega) ⟨by omega, by (try simp only [dr]); omega, by (try simp only [gain, loss]); omega, ?_⟩); (try simp only [Shape]); first | assumption | exact List.prefix_rfl | exact hs.nt | exact hop.nt | (refine ⟨by assumption, ?_⟩; first | omega | (simp; done))) | ((with_reducible refine Wl.taken hB ‹_› (by omega) (fun b hd ho hq hr hn => ?_) (fun hc => ?_)) <;> ((try replace hop := hop.trans hq); (try replace hp := hp.trans hq))) | ((with_reducible refine Wl.expect (by decide) hB ‹_› (by omega) (fun b hd ho hq hr hn => ?_)); ((try replace hop := hop.trans hq); (try replace hp := hp.trans hq))) | ((with_reducible refine Wl.take hB ‹_› (by omega) (by first | assumption | omega) (fun b hd ho hq hr hn => ?_)); ((try replace hop := hop.trans hq); (try replace hp := hp.trans hq))) | ((with_reducible refine Wl.none_ hB ‹_› (by omega) (fun b hd ho hr hq hn => ?_)); (try replace hop := hop.trans hq.pre); (try replace hp := hp.trans hq.pre)) | ((refine Wl.close (by rfl) hB ‹_› (by omega) ‹_› ⟨by omega, by first | exact Or.inl ⟨by omega, by omega⟩ | exact Or.inr ‹_›⟩ (fun b hd ho hr hs hn => ?_)); (try replace hop := hs.op); (try replace hp := hs.pre)) | ((with_reducible refine Wl.mark (by decide) ?_); (try rw [List.nil_append])) | ((refine Wl.call (ih _ _ _ (by simp only [mu, rank]; omega) ⟨by assumption, by omega, by omega, by simp only [slack]; omega, by simp only [Pre']; first | rfl | trivial | assumption | omega | exact ⟨_, rfl, by assumption⟩ | (exact ⟨by omega, by omega, by omega, trivial, rfl, fun h => by first | omega | (rcases h with h | h <;> cases h)⟩) | exact ⟨trivial, rfl⟩⟩) hB (fun r b hd hq => ?_)); (obtain ⟨ho, hr, hn, hs⟩ := hq; simp only [dr, gain, loss, Shape, Nat.add_zero] at hr hn hs; (try replace hs := hs _ rfl ‹_›); (first | ((try replace hop := hop.trans hs); replace hp := hp.trans hs) | ((try replace hop := hop.trans hs.1); replace hp := hp.trans hs.1) | ((first | replace hop := hop.trans hs.pre | have hop := hs.op); (try replace hp := hp.trans hs.pre)) | skip))) | refine Wl.lit (by rfl) ‹_› (fun c => ?_))
theorem t_Params1 (hB : B ≤ 4294967000) (ih : IHT B (mu .Params1 a)) (hpre : PreT B .Params1 a ms) : Wl B (body .Params1) a ms (PostT .Params1 a ms) := by
 obtain ⟨hd, h0, h1, hphi, hk⟩ := hpre
 simp only [slack] at hphi
 simp only [Pre'] at hk
 subst hk
 have hp := List.prefix_rfl (l := a.row)
 simp only [body, go, done, primM, itemsM, unaryM, valuesM, elemsM, entryM, List.map_nil]
 refine Wl.expect (by decide) hB hd (by omega) fun b hd ho hq hr hn => ?_
 (try replace hop := hop.trans hq); (try replace hp := hp.trans hq)
 refine Wl.call (ih (.ParamsL []) _ [] (by simp only [mu, rank]; omega) ⟨by assumption, by omega, by omega, by simp only [slack, List.length_nil]; omega, rfl, by simp [entsOf, entsOK], by simp only [List.length_nil]; omega⟩) hB (fun r c hd hq => ?_)
 obtain ⟨ho, hr, hn, hs⟩ := hq
 simp only [dr, gain, loss, Shape, Nat.add_zero, List.length_nil] at hr hn hs
 replace hp := hp.trans (hs b.row List.prefix_rfl (by simp [entsOf, entsOK]))
 repeat' (first | with_reducible (first | refine Wl.tt ?_ | refine Wl.ff ?_ | refine Wl.kind fun x hx => ?_ | refine Wl.comes (fun hc hk => ?_) fun hc => ?_ | refine Wl.lookB (fun hc => ?_) fun hc => ?_ | refine Wl.deadq ‹_› ?_ | refine Wl.fail hB (by omega) | refine Wl.ite (fun hc => ?_) fun hc => ?_) | ((with_reducible refine Wl.ret (by omega) ⟨by omega, by (try simp only [dr]); omega, by (try simp only [gain, loss]); omega, ?_⟩); (try simp only [Shape]); first | assumption | exact List.prefix_rfl | exact hs.nt | exact hop.nt | (refine ⟨by assumption, ?_⟩; first | omega | (simp; done))) | ((with_reducible refine Wl.taken hB ‹_› (by omega) (fun b hd ho hq hr hn => ?_) (fun hc => ?_)) <;> ((try replace hop := hop.trans hq); (try replace hp := hp.trans hq))) | ((with_reducible refine Wl.expect (by decide) hB ‹_› (by omega) (fun b hd ho hq hr hn => ?_)); ((try replace hop := hop.trans hq); (try replace hp := hp.trans hq))) | ((with_reducible refine Wl.take hB ‹_› (by omega) (by first | assumption | omega) (fun b hd ho hq hr hn => ?_)); ((try replace hop := hop.trans hq); (try replace hp := hp.trans hq))) | ((with_reducible refine Wl.none_ hB ‹_› (by omega) (fun b hd ho hr hq hn => ?_)); (try replace hop := hop.trans hq.pre); (try replace hp := hp.trans hq.pre)) | ((refine Wl.close (by rfl) hB ‹_› (by omega) ‹_› ⟨by omega, by first | exact Or.inl ⟨by omega, by omega⟩ | exact Or.inr ‹_›⟩ (fun b hd ho hr hs hn => ?_)); (try replace hop := hs.op); (try replace hp := hs.pre)) | ((with_reducible refine Wl.mark (by decide) ?_); (try rw [List.nil_append])) | ((refine Wl.call (ih _ _ _ (by simp only [mu, rank]; omega) ⟨by assumption, by omega, by omega, by simp only [slack]; omega, by simp only [Pre']; first | rfl | trivial | assumption | omega | exact ⟨_, rfl, by assumption⟩ | (exact ⟨by omega, by omega, by omega, trivial, rfl, fun h => by first | omega | (rcases h with h | h <;> cases h)⟩) | exact ⟨trivial, rfl⟩⟩) hB (fun r b hd hq => ?_)); (obtain ⟨ho, hr, hn, hs⟩ := hq; simp only [dr, gain, loss, Shape, Nat.add_zero] at hr hn hs; (try replace hs := hs _ rfl ‹_›); (first | ((try replace hop := hop.trans hs); replace hp := hp.trans hs) | ((try replace hop := hop.trans hs.1); replace hp := hp.trans hs.1) | ((first | replace hop := hop.trans hs.pre | have hop := hs.op); (try replace hp := hp.trans hs.pre)) | skip))) | refine Wl.lit (by rfl) ‹_› (fun c => ?_))
theorem t_groupM {a0 : A} {ms0 : List Int} (ns0 ns : List Bool) (hB : B ≤ 4294967000) (hd : a.dead = false) (ho : a.opn = a0.opn) (hr : a.rest.length ≤ a0.rest.length) (hphi : a.row.length + 8 * a.rest.length + ns.length ≤ a0.row.length + 8 * a0.rest.length + ns0.length) (hb : a0.row.length + 8 * a0.rest.length + (ns0.length + 3) ≤ B)
  (he : entsOK a.row 0 (entsOf ms ns) = true) (hs : ∀ R : List Made, R <+: a0.row → entsOK a0.row R.length (entsOf ms0 ns0) = true → R <+: a.row ∧ entsOK a.row R.length (entsOf ms ns) = true) : Wl B (groupM ns) a ms (PostT (.ParamsL ns0) a0 ms0) := by
 have fin : ∀ any, Wl B (.group ns any (expect 62 done)) a ms (PostT (.ParamsL ns0) a0 ms0) := by
  intro any
  refine Wl.group hB hd (by omega) he fun b hd ho hr hn hg => ?_
  refine Wl.expect (by decide) hB hd (by omega) fun c hd ho hq hr hn => ?_
  refine Wl.ret (by omega) ⟨by omega, by simp only [dr]; omega, by simp only [gain, loss]; omega, fun R h1 h2 => ?_⟩
  obtain ⟨h3, h4⟩ := hs R h1 h2
  exact (hg R h3 h4).trans hq
 unfold groupM
 split
 ·exact Wl.names hB hd (by omega) he (fin true)
 ·exact fin false
theorem t_ParamsL (ns : List Bool) (hB : B ≤ 4294967000) (ih : IHT B (mu (.ParamsL ns) a)) (hpre : PreT B (.ParamsL ns) a ms) : Wl B (body (.ParamsL ns)) a ms (PostT (.ParamsL ns) a ms) := by
 obtain ⟨hd, h0, h1, hphi, hk⟩ := hpre
 simp only [slack] at hphi
 simp only [Pre'] at hk
 obtain ⟨hl, he, hb⟩ := hk
 simp only [body]
 have stop : Wl B (groupM ns) a ms (PostT (.ParamsL ns) a ms) := t_groupM ns ns hB hd rfl (Nat.le_refl _) (Nat.le_refl _) hphi he fun R h1 h2 => ⟨h1, h2⟩
 refine Wl.deadq hd (Wl.ff (Wl.comes (fun hc hk => Wl.tt stop) fun hc => Wl.ff ?_))
 refine Wl.mark (by omega) ?_
 refine Wl.call (ih .entry _ [] (by simp only [mu, rank]; omega) ⟨by assumption, by omega, by omega, by simp only [slack]; omega, rfl⟩) hB (fun r b hd hq => ?_)
 obtain ⟨ho, hr, hn, hs⟩ := hq
 simp only [dr, gain, loss, Shape, Nat.add_zero] at hr hn hs
 refine Wl.mark (by simp only [List.length_append, List.length_singleton]; omega) ?_
 rw [List.append_assoc, List.singleton_append]
 obtain ⟨new, hrow, hnt⟩ := hs
 have hsn : entsOf (ms ++ [(a.row.length : Int), (b.row.length : Int)]) (ns ++ [decide (r ≠ 0)]) = entsOf ms ns ++ [⟨(a.row.length : Int), (b.row.length : Int), decide (r ≠ 0)⟩] := entsOf_snocT _ _ _ hl
 have hse : ∀ m : Int, 0 ≤ m → entsOK a.row m (entsOf ms ns) = true → entsOK b.row m (entsOf (ms ++ [(a.row.length : Int), (b.row.length : Int)]) (ns ++ [decide (r ≠ 0)])) = true := by
  intro m hm h
  rw [hsn, hrow]
  exact entsOK_snoc hnt _ hm h
 refine Wl.taken hB hd (by omega) (fun c hd ho hq hr hn => Wl.tt ?_) fun hc => Wl.ff ?_
 ·have hms : (List.range (2 * ns.length + 2)).map (fun h => (ms ++ [(a.row.length : Int), (b.row.length : Int)]).getD h 0) = ms ++ [(a.row.length : Int), (b.row.length : Int)] := by
   rw [show 2 * ns.length + 2 = (ms ++ [(a.row.length : Int), (b.row.length : Int)]).length by simp [hl]]
   exact range_mapT _
  obtain ⟨more, hmore⟩ := hq
  have hse2 : ∀ m : Int, 0 ≤ m → entsOK a.row m (entsOf ms ns) = true → entsOK c.row m (entsOf (ms ++ [(a.row.length : Int), (b.row.length : Int)]) (ns ++ [decide (r ≠ 0)])) = true := by
   intro m hm h
   rw [← hmore]
   exact entsOK_ext more hm (hse m hm h)
  refine Wl.call (Q1 := PostT (.ParamsL (ns ++ [decide (r ≠ 0)])) c (ms ++ [(a.row.length : Int), (b.row.length : Int)])) ?_ hB (fun r2 d hd hq => ?_)
  ·rw [hms]
   exact ih (.ParamsL (ns ++ [decide (r ≠ 0)])) c _ (by simp only [mu, rank]; omega) ⟨by assumption, by omega, by omega, by simp only [slack, List.length_append, List.length_singleton]; omega, by simp [hl]; omega, hse2 0 (by omega) he, by simp only [List.length_append, List.length_singleton]; omega⟩
  ·obtain ⟨ho, hr, hn, hs⟩ := hq
   simp only [dr, gain, loss, Shape, Nat.add_zero, List.length_append, List.length_singleton] at hr hn hs
   refine Wl.ret (by omega) ⟨by omega, by simp only [dr]; omega, by simp only [gain, loss]; omega, fun R h1 h2 => ?_⟩
   refine hs R ?_ (hse2 _ (by omega) h2)
   rw [← hmore, hrow, List.append_assoc]
   exact h1.trans (List.prefix_append _ _)
 ·refine t_groupM ns (ns ++ [decide (r ≠ 0)]) hB hd (by omega) (by omega) (by simp only [List.length_append, List.length_singleton]; omega) hphi (hse 0 (by omega) he) fun R h1 h2 => ⟨?_, hse _ (by omega) h2⟩
  rw [hrow]
  exact h1.trans (List.prefix_append _ _)
theorem t_step (hB : B ≤ 4294967000) (pr : Proc) (ih : IHT B (mu pr a)) (hpre : PreT B pr a ms) : Wl B (body pr) a ms (PostT pr a ms) := by
 cases pr
 ·exact t_deeper hB ih hpre
 ·exact t_node _ hB ih hpre
 ·exact t_takeP hB hpre
 ·exact t_items hB ih hpre
 ·exact t_itemsL hB ih hpre
 ·exact t_X _ hB ih hpre
 ·exact t_X1 _ hB ih hpre
 ·exact t_binary _ _ hB ih hpre
 ·exact t_binaryL _ _ hB ih hpre
 ·exact t_unary _ hB ih hpre
 ·exact t_unary1 _ hB ih hpre
 ·exact t_primary _ hB ih hpre
 ·exact t_primaryL _ hB ih hpre
 ·exact t_period hB ih hpre
 ·exact t_index hB ih hpre
 ·exact t_unless _ hB ih hpre
 ·exact t_indexL hB ih hpre
 ·exact t_arguments hB ih hpre
 ·exact t_argsL hB ih hpre
 ·exact t_value hB ih hpre
 ·exact t_value1 hB ih hpre
 ·exact t_values hB ih hpre
 ·exact t_valuesL hB ih hpre
 ·exact t_operand hB ih hpre
 ·exact t_flat hB ih hpre
 ·exact t_flatL _ hB ih hpre
 ·exact t_Name hB ih hpre
 ·exact t_List _ hB ih hpre
 ·exact t_List1 _ hB ih hpre
 ·exact t_ListL _ hB ih hpre
 ·exact t_Type hB ih hpre
 ·exact t_form hB ih hpre
 ·exact t_formL hB ih hpre
 ·exact t_elements hB ih hpre
 ·exact t_qualified hB ih hpre
 ·exact t_field hB ih hpre
 ·exact t_fieldL hB ih hpre
 ·exact t_element hB ih hpre
 ·exact t_union hB ih hpre
 ·exact t_unionL _ hB ih hpre
 ·exact t_Sig hB ih hpre
 ·exact t_Sig1 hB ih hpre
 ·exact t_Params hB ih hpre
 ·exact t_Params1 hB ih hpre
 ·exact t_ParamsL _ hB ih hpre
 ·exact t_entry hB ih hpre
 ·exact t_entry1 hB ih hpre
 ·exact t_TParams hB ih hpre
 ·exact t_TParams1 hB ih hpre
 ·exact t_TParamsL _ hB ih hpre
 ·exact t_TParams11 hB ih hpre
 ·exact t_TParams11L hB ih hpre
theorem t_all (hB : B ≤ 4294967000) : ∀ N, IHT B N
 | 0 => fun pr a ms h _ => absurd h (Nat.not_lt_zero _)
 | N + 1 => fun pr a ms h hpre => t_step hB pr (fun pr' a' ms' h' hp' => t_all hB N pr' a' ms' (by omega) hp') hpre
theorem ends (hB : B ≤ 4294967000) (pr : Proc) (hpre : PreT B pr a ms) : ∃ n r b, callN n pr a ms = some (r, b) ∧ b.row.length + 8 * b.rest.length ≤ B ∧ (b.dead = false → PostT pr a ms r b) := by
 obtain ⟨n, r, b, h1, h2⟩ := t_all hB (mu pr a + 1) pr a ms (Nat.lt_succ_self _) hpre
 exact ⟨n + 1, r, b, h1, h2⟩
end
end Go.AI.Rd
end
namespace Go.AI.Rd
inductive Small : Node → Prop
 | mk (k f t : Int) (kids : List Node) (h1 : kids.length < 1099511627776) (h2 : ∀ x ∈ kids, Small x) : Small (.mk k f t kids)
theorem Small.kids {n : Node} (h : Small n) : (Node.kids n).length < 1099511627776 ∧ ∀ x ∈ Node.kids n, Small x := by
 cases h with | mk k f t kids h1 h2 => exact ⟨h1, h2⟩
theorem Small.none_ (k f t : Int) : Small (.mk k f t []) := .mk k f t [] (by simp) (fun x hx => by cases hx)
def ndAV (n : Node) : AV := .agg [.int (Node.k n), .int (Node.f n), .int (Node.t n), .sl .node (Node.kids n)]
def SM (row : List Made) : Prop := ∀ x ∈ row, Small x.n
theorem SM.append {r s : List Made} (h : SM r) (k : SM s) : SM (r ++ s) := fun x hx => (List.mem_append.1 hx).elim (h x) (k x)
theorem SM.take {r : List Made} (h : SM r) (n : Nat) : SM (r.take n) := fun x hx => h x (List.mem_of_mem_take hx)
theorem SM.drop {r : List Made} (h : SM r) (n : Nat) : SM (r.drop n) := fun x hx => h x (List.mem_of_mem_drop hx)
section
variable {a : A}
theorem small_take (h : SM a.row) : SM a.take.row := by
 unfold A.take
 split
 ·exact h
 ·split
  ·exact h
  ·refine h.append fun x hx => ?_
   obtain ⟨t, _, rfl⟩ := List.mem_map.1 hx
   exact Small.none_ _ _ _
theorem small_fail (h : SM a.row) (c : Int) : SM (a.fail c).row := by rw [(fail_dg c).2.2.1]; exact h
theorem small_none (h : SM a.row) : SM a.none_.row := by
 unfold A.none_
 split
 ·exact h
 ·refine h.append fun x hx => ?_
  simp only [List.mem_singleton] at hx
  subst hx
  exact Small.none_ _ _ _
theorem mem_dropWhile {p : Made → Bool} : ∀ {l : List Made} {x : Made}, x ∈ l.dropWhile p → x ∈ l
 | [], x, h => by simp at h
 | y :: l, x, h => by
  rw [List.dropWhile_cons] at h
  split at h
  ·exact List.mem_cons_of_mem _ (mem_dropWhile h)
  ·exact h
theorem mem_takeWhile {p : Made → Bool} {l : List Made} {x : Made} (h : x ∈ l.takeWhile p) : x ∈ l := (List.takeWhile_prefix p).subset h
theorem small_nodeOf {l : List Made} (h : SM l) (hl : l.length < 1099511627776) (k hr : Int) : Small (nodeOf k hr l).n := by
 refine .mk _ _ _ _ (by simpa using hl) fun x hx => ?_
 obtain ⟨y, hy, rfl⟩ := List.mem_map.1 hx
 exact h y hy
theorem small_close (h : SM a.row) (hl : a.row.length < 1099511627776) (m k : Int) : SM (a.close m k).row := by
 cases hd : a.dg with
 | none =>
  rw [(close_row hd m k).1]
  refine (h.take _).append (SM.append (fun x hx => h x (List.mem_of_mem_drop (mem_takeWhile hx))) fun x hx => ?_)
  simp only [List.mem_singleton] at hx
  subst hx
  unfold A.closed
  refine small_nodeOf (fun x hx => h x (List.mem_of_mem_drop (mem_dropWhile hx))) ?_ _ _
  have := (List.dropWhile_suffix (l := a.row.drop (a.clamp m)) triv).length_le
  simp only [List.length_drop] at this
  omega
 | some d => rw [close_dead (by unfold A.dead; rw [hd]; rfl)]; exact h
theorem small_gap (h : SM a.row) (m : Int) : SM (a.gap m).row := by
 unfold A.gap
 split
 ·exact h
 ·refine (h.take _).append fun x hx => ?_
  rcases List.mem_cons.1 hx with rfl | hx
  ·exact Small.none_ _ _ _
  ·exact h x (List.mem_of_mem_drop hx)
theorem small_group1 (h : SM a.row) (hl : a.row.length < 1099511627776) (g : Int × Int) : SM (A.group1 g a).row := by
 unfold A.group1
 exact (small_close (a := { a with row := a.row.take g.2.toNat }) (h.take _) (by simp only [List.length_take]; omega) g.1 233).append (h.drop _)
theorem small_groups : ∀ (gs : List (Int × Int)) (a : A), SM a.row → a.row.length + gs.length < 1099511627776 → SM (gs.foldl (fun b g => A.group1 g b) a).row
 | [], a, h, _ => h
 | g :: gs, a, h, hl => by
  simp only [List.length_cons] at hl
  rw [List.foldl_cons]
  have := (group1_facts (a := a) g).2.2.1
  exact small_groups gs _ (small_group1 h (by omega) g) (by omega)
theorem small_group (h : SM a.row) (any : Bool) (l : List Ent) (hl : a.row.length + l.length < 1099511627776) : SM (a.group any l).row := by
 unfold A.group
 split
 ·exact h
 ·refine small_groups _ a h ?_
  have := backGroups_len any l.reverse
  rw [List.length_reverse] at this
  omega
theorem small_names (h : SM a.row) (l : List Ent) : SM (a.names l).row := by
 unfold A.names; split
 ·exact small_fail h _
 ·exact h
theorem small_down (h : SM a.row) : SM a.down.2.row := by
 unfold A.down; split
 ·exact h
 ·split
  ·exact small_fail h _
  ·exact h
end
theorem runM_small {cf : Proc → A → List Int → Option (Int × A)} (hcf : ∀ pr a ms r b, SM a.row → cf pr a ms = some (r, b) → SM b.row) : ∀ (m : M) (a : A) (ms : List Int) (r : Int) (b : A), SM a.row → runM cf m a ms = some (r, b) → SM b.row := by
 intro m
 induction m with
 | ret v => intro a ms r b h hr; simp only [runM, Option.some.injEq, Prod.mk.injEq] at hr; obtain ⟨_, rfl⟩ := hr; exact h
 | look f k ih => intro a ms r b h hr; exact ih _ a ms r b h hr
 | lookB f k ih => intro a ms r b h hr; exact ih _ a ms r b h hr
 | dead k ih => intro a ms r b h hr; exact ih _ a ms r b h hr
 | take k ih =>
  intro a ms r b h hr
  simp only [runM] at hr
  split at hr
  ·exact ih _ ms r b (small_take h) hr
  ·cases hr
 | none_ k ih =>
  intro a ms r b h hr
  simp only [runM] at hr
  split at hr
  ·exact ih _ ms r b (small_none h) hr
  ·cases hr
 | mark k ih =>
  intro a ms r b h hr
  simp only [runM] at hr
  split at hr
  ·exact ih a _ r b h hr
  ·cases hr
 | close hh kd k ih =>
  intro a ms r b h hr
  simp only [runM] at hr
  split at hr
  ·rename_i hroom
   rw [room_iff] at hroom
   exact ih _ ms r b (small_close h (by omega) _ _) hr
  ·cases hr
 | gap hh k ih =>
  intro a ms r b h hr
  simp only [runM] at hr
  split at hr
  ·exact ih _ ms r b (small_gap h _) hr
  ·cases hr
 | last k ih => intro a ms r b h hr; exact ih _ a ms r b h hr
 | down k ih => intro a ms r b h hr; exact ih _ _ ms r b (small_down h) hr
 | up k ih => intro a ms r b h hr; exact ih a.up ms r b h hr
 | fail c k ih => intro a ms r b h hr; exact ih _ ms r b (small_fail h c) hr
 | lit hh head k ih =>
  intro a ms r b h hr
  simp only [runM] at hr
  split at hr
  ·exact ih _ a ms r b h hr
  ·cases hr
 | names ns k ih =>
  intro a ms r b h hr
  simp only [runM] at hr
  split at hr
  ·exact ih _ ms r b (small_names h _) hr
  ·cases hr
 | group ns any k ih =>
  intro a ms r b h hr
  simp only [runM] at hr
  split at hr
  ·rename_i hc
   simp only [Bool.and_eq_true, Bool.or_eq_true, decide_eq_true_eq] at hc
   rcases hc with hc | hc
   ·rw [group_dead hc] at hr; exact ih a ms r b h hr
   ·have hroom := hc.2.1
    rw [room_iff] at hroom
    have := entsOf_length ms ns
    exact ih _ ms r b (small_group h any _ (by omega)) hr
  ·cases hr
 | call pr hs k ih =>
  intro a ms r b h hr
  simp only [runM] at hr
  split at hr
  ·rename_i r1 b1 hc
   exact ih _ b1 ms r b (hcf _ _ _ _ _ h hc) hr
  ·cases hr
theorem callN_small : ∀ (n : Nat) (pr : Proc) (a : A) (ms : List Int) (r : Int) (b : A), SM a.row → callN n pr a ms = some (r, b) → SM b.row
 | 0, pr, a, ms, r, b, _, h => by simp [callN] at h
 | n + 1, pr, a, ms, r, b, hg, h => runM_small (fun pr a ms r b => callN_small n pr a ms r b) (body pr) a ms r b hg h
end Go.AI.Rd
namespace Go.AI.Rd
def finA (a : A) : A := if a.kinds.getD 0 0 ≠ 0 then a.fail 201 else a
structure Out where
 row : List Node
 d : Diag
 ok : Bool
def outA (a : A) : Out := match (finA a).dg with | some d => ⟨[], d, false⟩ | none => ⟨(finA a).row.map (·.n) ++ a.rest.map (fun t => (leaf t).n), ⟨0, 0, 0⟩, true⟩
def rowAV (o : Out) : AV := if o.ok then .sl .node o.row else .nil
def outAV (o : Out) : AV := .tup [rowAV o, .agg [.int o.d.c, .int o.d.f, .int o.d.t], .bool o.ok]
theorem finA_rest (a : A) : (finA a).rest = a.rest := by unfold finA; split; exact fail_rest _; rfl
theorem finA_pre (a : A) : (finA a).pre = a.pre := by unfold finA; split; exact (fail_dg 201).1; rfl
theorem finA_row (a : A) : (finA a).row = a.row := by unfold finA; split; exact (fail_dg 201).2.2.1; rfl
theorem finA_good {a : A} (h : a.good) : (finA a).good := by unfold finA; split; exact good_fail h _; exact h
theorem W_leavesAll {a : A} (hd : a.dg = none) (hl : a.pre.length + a.rest.length < 1099511627776) (hr : a.row.length + a.rest.length + 8 < 4294967264) :
  W .prog leaves.n [.rdr 0, .int ((toP a).l.length : Int)] (toP a) = some (.undef, { toP a with row := a.row ++ a.rest.map leaf, read := ((toP a).l.length : Int) }) := by
 refine fx leaves.fd (a.rest.length + 1) ?_
 have e0 : (toP a).l = a.pre ++ a.rest := rfl
 have e1 : (toP a).read = a.pre.length := rfl
 have e2 : ((toP a).l.length : Int) = a.pre.length + a.rest.length := by rw [e0]; simp
 rw [leaves_eq, if_pos (by omega), if_pos (by omega), if_pos (by rw [e1]; omega), if_pos (by rw [e1]; omega)]
 have e3 : List.drop (Int.toNat (toP a).read) (List.take (Int.toNat ((toP a).l.length : Int)) (toP a).l) = a.rest := by
  rw [Int.toNat_natCast, List.take_length, e0, e1, Int.toNat_natCast, List.drop_left']; rfl
 rw [e3]
 have := leaves_l0 (a.rest.length + 1) ((toP a).l.length : Int) a.rest (toP a) a.rest.length 0 (a.rest.length + 1) a.row (by omega) (by omega) (by omega) (by omega)
 exact this
theorem Done_l0 (lim : Nat) (l8 : List Made) (x y z : Int) (p : PS) (hl : l8.length < 4294967290) : ∀ (d i n0 : Nat) (l7 : List Node), i + d = l8.length → d < n0 → l7.length + d < 4294967290 →
  Done.l0 W lim n0 l7 l8 l8.length i x y z p = some (.tup [.sl .node (l7 ++ (l8.drop i).map (·.n)), .agg [.int 0, .int 0, .int 0], .bool true], p)
 | _, i, 0, l7, hi, hn, h7 => by omega
 | 0, i, n0 + 1, l7, hi, hn, h7 => by
  rw [Done.l0_succ, if_neg (by simp; omega), List.drop_of_length_le (by omega)]; simp
 | d + 1, i, n0 + 1, l7, hi, hn, h7 => by
  rw [Done.l0_succ, if_pos (by simp; omega), if_pos (by omega), if_pos (by omega), if_pos (by simp only [List.length_singleton]; unfold maxRow; omega), wi _ (by omega) (by omega), Node.eta]
  have := Done_l0 lim l8 x y z p hl d (i + 1) n0 (l7 ++ [(List.getD l8 i (El.dflt .made)).n]) (by omega) (by omega) (by simp; omega)
  rw [Int.natCast_add, Int.natCast_one] at this
  rw [Int.toNat_natCast]
  refine Eq.trans this ?_
  have hx : l8.drop i = l8.getD i (El.dflt .made) :: l8.drop (i + 1) := by
   rw [List.drop_eq_getElem_cons (by omega), List.getD_eq_getElem?_getD, List.getElem?_eq_getElem (by omega)]; rfl
  rw [hx]
  simp
theorem W_Done {a : A} (h : a.good) (hr : a.row.length + a.rest.length + 8 < 4294967264) : ∃ p, W .prog Done.n [.rdr 0] (toP a) = some (outAV (outA a), p) := by
 have key : ∀ (b : A), b.good → b.rest = a.rest → b.row = a.row → outA a = (match b.dg with | some d => ⟨[], d, false⟩ | none => ⟨b.row.map (·.n) ++ b.rest.map (fun t => (leaf t).n), ⟨0, 0, 0⟩, true⟩) → ∀ lim, a.row.length + a.rest.length < lim →
   ∃ p, (if (toP b).failed then some (AV.tup [.nil, .agg [.int (toP b).dc, .int (toP b).df, .int (toP b).dt], .bool false], toP b)
    else cX W .u .prog leaves.n [.rdr 0, .int ((toP b).l.length : Int)] (toP b) fun _ (p6 : PS) => Done.l0 W lim lim [] p6.row ((p6.row).length : Int) 0 0 0 0 p6) = some (outAV (outA a), p) := by
  intro b hb h1 h2 h3 lim hlim
  rw [h3]
  cases hd : b.dg with
  | some d =>
   rw [if_pos (toP_dead d hd)]
   refine ⟨toP b, ?_⟩
   simp [outAV, rowAV, toP, hd]
  | none =>
   have hf : (toP b).failed = false := live_of hd
   rw [if_neg (by rw [hf]; decide), cX_u (W_leavesAll hd hb.len (by rw [h1, h2]; omega))]
   refine ⟨{ toP b with row := b.row ++ b.rest.map leaf, read := ((toP b).l.length : Int) }, ?_⟩
   have := Done_l0 lim (b.row ++ b.rest.map leaf) 0 0 0 { toP b with row := b.row ++ b.rest.map leaf, read := ((toP b).l.length : Int) } (by simp [h1, h2]; omega) (b.row ++ b.rest.map leaf).length 0 lim [] (by omega) (by simp [h1, h2]; omega) (by simp [h1, h2]; omega)
   refine Eq.trans this ?_
   simp [outAV, rowAV]
 have hrun : ∀ lim, a.row.length + a.rest.length < lim → ∃ p, evalBody T0 W .prog lim Done.I [.rdr 0] (toP a) = some (outAV (outA a), p) := by
  intro lim hlim
  rw [Done_eq, cX_i (W_Kind h.took)]
  by_cases hk : a.kinds.getD 0 0 ≠ 0
  ·rw [if_pos (by simpa using hk), cX_u (W_Fail h.took 201)]
   have e : finA a = a.fail 201 := if_pos hk
   exact key (a.fail 201) (good_fail h _) (fail_rest _) (fail_dg 201).2.2.1 (by unfold outA; rw [e, fail_rest]) lim hlim
  ·rw [if_neg (by simpa using hk)]
   have e : finA a = a := if_neg hk
   exact key a h rfl rfl (by unfold outA; rw [e]) lim hlim
 obtain ⟨p, hp⟩ := hrun (a.row.length + a.rest.length + 1) (by omega)
 exact ⟨p, fx Done.fd _ hp⟩
def a0 (l : List Tok) : A := ⟨[], l, [], 0, none⟩
theorem a0_good {l : List Tok} (hl : l.length ≤ 500000000) : (a0 l).good := by
 refine ⟨⟨fun t ht => by simp [a0] at ht, by simp [a0]; omega, by simp [a0], fun x hx => by simp [a0] at hx, by simp [a0]⟩, fun _ x hx => by simp [a0] at hx⟩
theorem cX_done {c : Call1} {τ : STy} {f : Nat} {args : List AV} {p q : τ.T} {R : Type} {o : Out} {K : (List Node × Diag × Bool) → τ.T → Option R} (h : c τ f args p = some (outAV o, q)) (ho : o.ok = false → o.row = []) : cX c (.t3 (.s .node) (.e .diag) .b) τ f args p K = K (o.row, o.d, o.ok) q := by
 unfold cX; rw [h]
 obtain ⟨row, d, ok⟩ := o
 cases ok with
 | true => rfl
 | false => have := ho rfl; simp only at this; subst this; rfl
theorem outA_row (a : A) : (outA a).ok = false → (outA a).row = [] := by
 unfold outA; split
 ·intro _; rfl
 ·intro h; cases h
end Go.AI.Rd
namespace Go.AI
section
variable {tab : Tab} {call : (τ : STy) → Nat → List AV → τ.T → Option (AV × τ.T)} {τ : STy} {P : Program}
theorem fin_ok (hTab : TabOK P tab) {fi : FnI} {r : AV × τ.T} {w : World} {S : Nat → Nat → Prop} {g : Nat} {κ : Nat → Option Nat} {N : Nat} {ex : Ex} {σ : St} {c : Cx} {a : Act} {w' : World}
  (h : Rel tab.tid ⟨w, Foot τ g κ, S, g⟩ N c σ a w') (hfin : fin tab τ fi ex σ = some r) : bodyPost P fi.fn (RetOK tab.tid τ w S g κ r) (exOf ex) a w' := by
 have main : ∀ {l : List AV} {y : AV} {σ' : St} {q : τ.T}, resAll tab σ fi.fn.results.toList = some l → outs σ l = some (y, σ') → τ.dec σ'.v σ'.fr σ'.s = some q → r = (y, q) →
   a.defers = [] ∧ ∃ v, (results fi.fn a.tmps).run P w' = .ok v w' ∧ RetOK tab.tid τ w S g κ r (.returned v) w' := by
  intro l y σ' q h1 h2 h3 hr
  subst hr
  obtain ⟨us, g1, g2, g3⟩ := resAll_ok hTab h h1
  obtain ⟨c', R, hv⟩ := outs_ok h g2 g3 h2
  have hw := R.hw
  have hg : c'.g = g := R.ds.2
  refine ⟨h.ds.1, (if h : us.toArray.size = 1 then us.toArray[0] else .tuple us.toArray), ?_, ?_⟩
  ·unfold results
   rw [Array.mapM_eq_mapM_toList]
   simp only [Sem.run_bind, Sem.run_map, Sem.run_pure]
   exact congrArg (fun q : Result (List Value) => (q.andThen fun a w' => Result.ok a.toArray w').andThen fun a w' => Result.ok (if h : a.size = 1 then a[0] else Value.tuple a) w') g1
  ·have hold : ∀ b o, c'.S b o → S b o ∨ Foot τ g κ b ∨ w.heap.size ≤ b := fun b o hs' => R.old b o hs'
   by_cases hsn : σ'.s = []
   ·have hτ : τ = .unit := (dec_unit h3).1 hsn
    refine ⟨c'.S, fun _ => none, ⟨fun hne => absurd hτ ((enc_ne τ 0 q).1 hne), R.stsz, fun hne => absurd hτ ((enc_ne τ 0 q).1 hne), fun k b hk => (by cases hk), fun k k' b hk => (by cases hk)⟩, R.keep, R.grow, hold, fun k b hk => (by cases hk), ?_⟩
    have := hv (fun _ => none) (fun k b hk => by cases hk)
    rw [hg] at this
    exact this
   ·obtain ⟨vs', T, r1, r2, r3⟩ := R.s hsn
    obtain ⟨κ0, k1, k2, k3, k4, _⟩ := decRow (gb := c'.g) R.inj r2 r3 h3
    obtain ⟨hm, hgS⟩ := R.gg hsn
    rw [hw, hg] at r1
    rw [hw, hg] at k2
    rw [hg] at hgS
    refine ⟨c'.S, κ0, ⟨fun _ => ⟨vs', T, r1, k1, k2⟩, R.stsz, fun _ => hgS, fun k b hk => ?_, k4⟩, R.keep, R.grow, hold, fun k b hk => ?_, ?_⟩
    ·obtain ⟨q1, k', q2, q3, q4⟩ := k3 k b hk
     have o := R.own k' b q3 q4
     exact ⟨q1, o.2.1, o.2.2.1, by rw [← hg]; exact o.2.2.2.1 hsn⟩
    ·obtain ⟨q1, k', q2, q3, q4⟩ := k3 k b hk
     exact (R.own k' b q3 q4).1
    ·have := hv κ0 (fun k b hk => by
      obtain ⟨q1, k', q2, q3, q4⟩ := k3 k b hk
      exact ⟨k', q3, q4⟩)
     rw [hg] at this
     exact this
 have split : (match resAll tab σ fi.fn.results.toList with
   | some l => match outs σ l with | some (a, σ') => (match τ.dec σ'.v σ'.fr σ'.s with | some p => some (a, p) | none => none) | none => none
   | none => none) = some r → a.defers = [] ∧ ∃ v, (results fi.fn a.tmps).run P w' = .ok v w' ∧ RetOK tab.tid τ w S g κ r (.returned v) w' := by
  intro hq
  split at hq
  rotate_left
  ·cases hq
  rename_i l h1
  split at hq
  rotate_left
  ·cases hq
  rename_i y σ' h2
  split at hq
  rotate_left
  ·cases hq
  rename_i q h3
  simp only [Option.some.injEq] at hq
  exact main h1 h2 h3 hq.symm
 cases ex with
 | exit i => simp [fin] at hfin
 | normal => exact split hfin
 | ret => exact split hfin
theorem runOps_okN {B : Base} {N : Nat} {ops : Array Oper} (hTab : TabOK P tab) (hcall : CallsOK tab.tid P call) {σ2 : St} {Q : Exit → Act → World → Prop} {l2 : List Nat} (hQ : ∀ c' a' w', Rel tab.tid B N c' σ2 a' w' → wpOps P ops Q l2 a' w') :
  ∀ (rest : List Oper) (i : Nat) (σ : St) (c : Cx) (a : Act) (w : World), (∀ j, j < rest.length → rest[j]? = ops[i + j]?) → (∀ o, o ∈ rest → opFine N o = true) → (∀ o, o ∈ rest → o.guard = none) → Rel tab.tid B N c σ a w → runOps tab call τ ops.toList rest σ some = some σ2 →
   wpOps P ops Q (List.range' i rest.length ++ l2) a w
 | [], i, σ, c, a, w, _, _, _, h, hs => by
  simp only [runOps, Option.some.injEq] at hs
  subst hs
  exact hQ _ _ _ h
 | o :: rest, i, σ, c, a, w, hsub, hf, hgs, h, hs => by
  have hi : ops[i]? = some o := by have := hsub 0 (by simp); simp at this; exact this.symm
  have hsub' : ∀ j, j < rest.length → rest[j]? = ops[(i + 1) + j]? := fun j hj => by have := hsub (j + 1) (by simp; omega); simp at this; rw [this]; congr 1; omega
  have hgd := hgs o (by simp)
  rw [List.length_cons, List.range'_succ, List.cons_append, wpOps_cons]
  simp only [runOps, hgd] at hs
  rw [stepOp_bind] at hs
  cases hst : stepOp tab call τ o σ some with
  | none => rw [hst] at hs; cases hs
  | some σ1 =>
   rw [hst] at hs
   exact wpOp_ok hTab hcall hi (hf o (by simp)) h (by unfold gstep gd; rw [hgd]; exact hst) (fun c'' a'' w'' h'' => runOps_okN hTab hcall hQ rest (i + 1) σ1 c'' a'' w'' hsub' (fun o ho => hf o (by simp [ho])) (fun o ho => hgs o (by simp [ho])) h'' hs)
theorem region_hand {B : Base} {N id : Nat} {ops : Array Oper} (hTab : TabOK P tab) (hcall : CallsOK tab.tid P call) {l1 l2 : List Oper} {o : Oper} (hl : ops.toList = l1 ++ o :: l2) (hf : regOK N ops.toList 0 = true) (hgs : l1.all (fun x => x.guard.isNone) = true) (hog : o.guard = none)
  {σ σ1 : St} {c : Cx} {a : Act} {w : World} {Q : Exit → Act → World → Prop} (h : Rel tab.tid B N c σ a w) (h1 : runOps tab call τ ops.toList l1 σ some = some σ1)
  (hand : ∀ c' a' w', Rel tab.tid B N c' σ1 a' w' → o.wp P a' w' (wpOps P ops Q (List.range' (l1.length + 1) l2.length)) Q) : (Code.region id ops false).wp P Q a w := by
 have hget : ∀ j, ops[j]? = (l1 ++ o :: l2)[j]? := fun j => by rw [← hl, Array.getElem?_toList]
 have hlen : ops.size = l1.length + (1 + l2.length) := by have := congrArg List.length hl; simp at this; omega
 refine wp_region ?_
 have hrange : List.range ops.size = List.range' 0 l1.length ++ (l1.length :: List.range' (l1.length + 1) l2.length) := by
  rw [List.range_eq_range', hlen, ← List.range'_append_1, Nat.zero_add, Nat.add_comm 1, List.range'_succ]
 rw [hrange]
 refine runOps_okN hTab hcall (fun c' a' w' h' => ?_) l1 0 σ c a w (fun j hj => by rw [hget, Nat.zero_add, List.getElem?_append_left hj]) (fun x hx => ?_) (fun x hx => ?_) h h1
 ·rw [wpOps_cons]
  unfold wpOp
  rw [hget, List.getElem?_append_right (Nat.le_refl _), Nat.sub_self]
  simp only [List.getElem?_cons_zero]
  rw [wanted_ok h' (o := o) (q := true) (by unfold gd; rw [hog])]
  simp only [if_true]
  exact .inl (hand _ _ _ h')
 ·obtain ⟨i, hi⟩ := List.mem_iff_getElem?.1 (show x ∈ ops.toList by rw [hl]; simp [hx])
  exact (regOK_spec hf i x hi).1
 ·have := List.all_eq_true.1 hgs x hx
  simpa using this
theorem region_rest {B : Base} {N : Nat} {ops : Array Oper} (hTab : TabOK P tab) (hcall : CallsOK tab.tid P call) {l1 l2 : List Oper} {o : Oper} (hl : ops.toList = l1 ++ o :: l2) (hf : regOK N ops.toList 0 = true) {R : Type} {K : St → Option R} {r : R} {Q : Exit → Act → World → Prop}
  (hQ : ∀ σ' c' a' w', Rel tab.tid B N c' σ' a' w' → K σ' = some r → Q .normal a' w') {σ : St} {c : Cx} {a : Act} {w : World} (h : Rel tab.tid B N c σ a w) (hs : runOps tab call τ ops.toList l2 σ K = some r) : wpOps P ops Q (List.range' (l1.length + 1) l2.length) a w := by
 have hget : ∀ j, ops[j]? = (l1 ++ o :: l2)[j]? := fun j => by rw [← hl, Array.getElem?_toList]
 refine runOps_ok hTab hcall hQ l2 (l1.length + 1) σ c a w (fun j => ?_) (fun x hx => ?_) h hs
 ·rw [hget, List.getElem?_append_right (by omega), show l1.length + 1 + j - l1.length = j + 1 by omega, List.getElem?_cons_succ]
 ·obtain ⟨i, hi⟩ := List.mem_iff_getElem?.1 (show x ∈ ops.toList by rw [hl]; simp [hx])
  exact (regOK_spec hf i x hi).1
theorem region_hand_at {B : Base} {N id : Nat} {ops : Array Oper} (hTab : TabOK P tab) (hcall : CallsOK tab.tid P call) (j : Nat) {o : Oper} (hl : ops.toList[j]? = some o) (hf : regOK N ops.toList 0 = true) (hgs : (ops.toList.take j).all (fun x => x.guard.isNone) = true) (hog : o.guard = none)
  {σ σ1 : St} {c : Cx} {a : Act} {w : World} {Q : Exit → Act → World → Prop} (h : Rel tab.tid B N c σ a w) (h1 : runOps tab call τ ops.toList (ops.toList.take j) σ some = some σ1)
  (hand : ∀ c' a' w', Rel tab.tid B N c' σ1 a' w' → o.wp P a' w' (wpOps P ops Q (List.range' (j + 1) (ops.toList.drop (j + 1)).length)) Q) : (Code.region id ops false).wp P Q a w := by
 obtain ⟨hj, ho⟩ := List.getElem?_eq_some_iff.1 hl
 have hsp : ops.toList = ops.toList.take j ++ o :: ops.toList.drop (j + 1) := by
  rw [← ho, List.getElem_cons_drop, List.take_append_drop]
 refine region_hand hTab hcall hsp hf hgs hog h h1 (fun c' a' w' h' => ?_)
 rw [List.length_take, Nat.min_eq_left (Nat.le_of_lt hj)]
 exact hand c' a' w' h'
theorem region_rest_at {B : Base} {N : Nat} {ops : Array Oper} (hTab : TabOK P tab) (hcall : CallsOK tab.tid P call) (j : Nat) (hj : j < ops.toList.length) (hf : regOK N ops.toList 0 = true) {σ2 : St} {Q : Exit → Act → World → Prop}
  {σ : St} {c : Cx} {a : Act} {w : World} (h : Rel tab.tid B N c σ a w) (hs : runOps tab call τ ops.toList (ops.toList.drop (j + 1)) σ some = some σ2) (hQ : ∀ c' a' w', Rel tab.tid B N c' σ2 a' w' → Q .normal a' w') : wpOps P ops Q (List.range' (j + 1) (ops.toList.drop (j + 1)).length) a w := by
 have hsp : ops.toList = ops.toList.take j ++ ops.toList[j] :: ops.toList.drop (j + 1) := by
  rw [List.getElem_cons_drop, List.take_append_drop]
 have := region_rest (K := some) (r := σ2) (Q := Q) hTab hcall hsp hf (fun σ' c' a' w' h' hk => by cases hk; exact hQ _ _ _ h') h hs
 rwa [List.length_take, Nat.min_eq_left (Nat.le_of_lt hj)] at this
theorem segm {B : Base} {N : Nat} (hTab : TabOK P tab) (hcall : CallsOK tab.tid P call) (hmix : P.follows .mixedOrders = true) {masks : Nat → Mask} {lim : Nat} {co : Code} {bid : Nat} {σ σ1 : St} {ex1 : Ex} {c : Cx} {a : Act} {w : World} {Q : Exit → Act → World → Prop}
  (hc : codeOK N co = true) (h : Rel tab.tid B N c σ a w) (he : exec tab call τ masks lim co bid σ (fun ex σ => some (ex, σ)) = some (ex1, σ1)) (hQ : ∀ c' a' w', Rel tab.tid B N c' σ1 a' w' → Q (exOf ex1) a' w') : co.wp P Q a w :=
 exec_ok hTab hcall hmix masks lim co bid σ (fun ex σ => some (ex, σ)) c a w Q hc h he fun ex σ' c' a' w' h' hk => by cases hk; exact hQ _ _ _ h'
theorem bodyPost.mono {fn : Func} {R R' : Ending → World → Prop} (h : ∀ e w, R e w → R' e w) {ex : Exit} {a : Act} {w : World} (hb : bodyPost P fn R ex a w) : bodyPost P fn R' ex a w := by
 unfold bodyPost at hb ⊢
 cases ex <;> first
  | (obtain ⟨h1, v, h2, h3⟩ := hb; exact ⟨h1, v, h2, h _ _ h3⟩)
  | exact ⟨hb.1, h _ _ hb.2⟩
  | exact h _ _ hb
  | exact hb
theorem ret_nil {tid : El → Nat} {τ : STy} {w : World} {S : Nat → Nat → Prop} {g : Nat} {κ : Nat → Option Nat} (e : El) {q : τ.T} {en : Ending} {w' : World} (h : RetOK tid τ w S g κ (.nil, q) en w') : RetOK tid τ w S g κ (.sl e [], q) en w' := by
 cases en with
 | returned u =>
  obtain ⟨S', κ', h1, h2, h3, h4, h5, h6⟩ := h
  refine ⟨S', κ', h1, h2, h3, h4, h5, ?_⟩
  have h6 : FRel w' S' g .nil u := h6
  cases h6
  exact .sl0 _ _ _
 | _ => exact h
theorem eqnil_wp {o : Oper} {T T' i e : Nat} (hop : o.op = .binOp .eql T (.tmp i) (.const (.slice none 0 0)) T') (hu : P.underlying T = some (.slice e)) {p : Option Addr} {n m : Nat} {a : Act} {w : World} (hv : a.eval (.tmp i) = .slice p n m) {next : Act → World → Prop} {Q : Exit → Act → World → Prop}
  (hQ : next (a.put o.dst (.bool p.isNone)) w) : o.wp P a w next Q := by
 obtain ⟨dst, op, type, pos, after, guard⟩ := o
 simp only at hop hQ
 subst hop
 have hq : (binOp .eql T (.slice p n m) (.slice none 0 0)).run P w = .ok (.bool p.isNone) w := by
  simp only [binOp, Sem.run_bind, run_equal_slice_nil w T _ p n m hu, Result.andThen_ok, Sem.run_pure]
 have hg : (eqGuard .eql T (.tmp i) (.const (.slice none 0 0)) (.slice p n m) (.slice none 0 0)).run P w = .ok () w := by unfold eqGuard; split <;> rfl
 have he : a.eval (.const (.slice none 0 0)) = .slice none 0 0 := rfl
 unfold Oper.wp
 have : (execOp a.eval ⟨dst, .binOp .eql T (.tmp i) (.const (.slice none 0 0)) T', type, pos, after, guard⟩).run P w = .ok (.value (.bool p.isNone)) w := by
  simp only [execOp, Sem.run_bind, hv, he, hg, hq, Result.andThen_ok, Sem.run_pure]
 rw [this]
 exact hQ
end
end Go.AI
section
set_option maxRecDepth 100000
namespace Go.AI.Rd
noncomputable abbrev PG : Program := Go.Proofs.Try.prog
theorem tabT : TabOK PG T0 := tabOK_of tys_ok eqs_ok cvs_ok
theorem W_ok : CallsOK T0.tid PG W := Wc_ok tabT mix_ok (fnsOK_of fns_ok)
noncomputable def Clone.I : FnI := { fn := Go.Proofs.Try.f15, masks := [] }
theorem Clone.ok : FnOK PG 15 Clone.I := ⟨Go.Proofs.Try.func15, by kernel_rfl, ⟨_, rfl⟩, by kernel_rfl⟩
noncomputable abbrev cc : Code := Func.code Clone.I.fn
theorem sl_value {w : World} {S : Nat → Nat → Prop} {g : Nat} {e : El} {l : List e.T} {v : Value} (h : FRel w S g (.sl e l) v) : ∃ a n m, v = .slice a n m ∧ (a = none → l = []) := by
 cases h with
 | sl0 e a c => exact ⟨a, 0, c, rfl, fun _ => rfl⟩
 | sl e xs b off c V hc hn _ _ => exact ⟨_, _, _, rfl, fun h => by cases h⟩
theorem clone_ok {w : World} {S : Nat → Nat → Prop} {g : Nat} {κ : Nat → Option Nat} {l : List Tok} {v : Value} (hl : l.length < maxRow) (hs : SRep T0.tid .unit w S g κ ()) (hC : CR w S g [.sl .tok l] [v]) :
  Calls PG 15 [v].toArray w (RetOK T0.tid .unit w S g κ (.sl .tok l, ())) := by
 refine calls_of_wp Clone.ok.fn (c := cc) rfl ?_
 have h0 := start_ok (τ := .unit) (n := Clone.I.fn.ntmps) (p := ()) hs hC
 generalize hN : ([v].toArray ++ Array.replicate (Clone.I.fn.ntmps - [v].toArray.size) Go.undef).size = N at h0
 have hNle : Clone.I.fn.ntmps ≤ N := by rw [← hN]; simp; omega
 have hco : ∀ co, codeOK Clone.I.fn.ntmps co = true → codeOK N co = true := fun co h => codeOK_mono hNle co h
 refine wp_seq (segm tabT W_ok mix_ok (τ := .unit) (masks := FnI.mask Clone.I) (lim := 0) (bid := 0) (hco _ (by kernel_rfl)) h0 rfl fun c1 a1 w1 h1 => ?_)
 refine wp_seq (wp_seq ?_)
 refine region_hand_at tabT W_ok (τ := .unit) 1 rfl (hco (.region 0 _ false) (by kernel_rfl)) rfl rfl h1 rfl fun c2 a2 w2 h2 => ?_
 have hv : FRel c2.w c2.S c2.g (.sl .tok l) (a2.eval (.tmp 3)) := (h2.getO (.tmp 3)).to_F T0.tid rfl
 obtain ⟨p, n, m, hp, hpn⟩ := sl_value hv
 refine eqnil_wp rfl (show PG.underlying _ = some (.slice _) from rfl) hp ?_
 have h3 := h2.put (d := some 4) (x := .bool p.isNone) (v := .bool p.isNone) (fun x hx => by cases hx; exact Nat.lt_of_lt_of_le (by decide) hNle) (AR.of_F T0.tid (.bool _))
 refine region_rest_at tabT W_ok (τ := .unit) 1 (by decide) (hco (.region 0 _ false) (by kernel_rfl)) h3 rfl fun c4 a4 w4 h4 => ?_
 cases p with
 | none =>
  have := hpn rfl
  subst this
  refine segm tabT W_ok mix_ok (τ := .unit) (masks := FnI.mask Clone.I) (lim := 0) (bid := 0) (hco _ (by kernel_rfl)) h4 rfl fun c5 a5 w5 h5 => ?_
  exact bodyPost.mono (fun e w => ret_nil .tok) (fin_ok tabT (ex := .ret) (fi := Clone.I) (r := (.nil, ())) h5 rfl)
 | some ad =>
  refine segm tabT W_ok mix_ok (τ := .unit) (masks := FnI.mask Clone.I) (lim := 0) (bid := 0) (hco _ (by kernel_rfl)) h4 rfl fun c5 a5 w5 h5 => ?_
  exact exec_ok (τ := .unit) tabT W_ok mix_ok (FnI.mask Clone.I) 0 _ 0 _ (fin T0 .unit Clone.I) _ _ _ _ (hco _ (by kernel_rfl)) h5 (if_pos hl) fun ex σ' c' a' w'' h' hk => fin_ok tabT h' hk
def ov (c : Call1) (f0 : Nat) (g : Call1) : Call1 := fun τ f args p => if f = f0 then g τ f args p else c τ f args p
theorem ov_ok {c g : Call1} {f0 : Nat} (hc : CallsOK T0.tid PG c) (hg : ∀ τ args p r, g τ f0 args p = some r → Goes PG f0 ∧ ∀ w S gb κ vs, SRep T0.tid τ w S gb κ p → CR w S gb args vs → Calls PG f0 vs.toArray w (RetOK T0.tid τ w S gb κ r)) : CallsOK T0.tid PG (ov c f0 g) := by
 intro τ f args p r h
 unfold ov at h
 split at h
 ·rename_i hf; subst hf; exact hg τ args p r h
 ·exact hc τ f args p r h
theorem ov_ne {c g : Call1} {f0 f : Nat} {τ : STy} {args : List AV} {p : τ.T} (h : f ≠ f0) : ov c f0 g τ f args p = c τ f args p := if_neg h
theorem ov_eq {c g : Call1} {f0 : Nat} {τ : STy} {args : List AV} {p : τ.T} : ov c f0 g τ f0 args p = g τ f0 args p := if_pos rfl
noncomputable def byBody (c : Call1) (lim : Nat) (fi : FnI) : Call1 := fun τ f args p => evalBody T0 c τ lim fi args p
theorem byBody_ok {c : Call1} (hc : CallsOK T0.tid PG c) {lim f : Nat} {fi : FnI} (hf : FnOK PG f fi) : ∀ τ args p r, byBody c lim fi τ f args p = some r → Goes PG f ∧ ∀ w S gb κ vs, SRep T0.tid τ w S gb κ p → CR w S gb args vs → Calls PG f vs.toArray w (RetOK T0.tid τ w S gb κ r) :=
 fun τ args p r h => ⟨hf.goes, fun w S gb κ vs hs hC => evalBody_ok tabT hc mix_ok hf h hs hC⟩
def clG : Call1 := fun τ _ args p =>
 match τ, args, p with
 | .unit, [.sl .tok l], _ => if l.length < maxRow then some (.sl .tok l, ()) else none
 | _, _, _ => none
def Clone.n : Nat := 15
noncomputable def W1 : Call1 := ov W Clone.n clG
theorem W1_ok : CallsOK T0.tid PG W1 := by
 refine ov_ok W_ok fun τ args p r h => ?_
 unfold clG at h
 split at h
 ·rename_i l _
  split at h
  ·rename_i hl
   simp only [Option.some.injEq] at h
   subst h
   refine ⟨Clone.ok.goes, fun w S gb κ vs hs hC => ?_⟩
   obtain ⟨v, rfl⟩ : ∃ v, vs = [v] := by
    match vs, hC.1 with
    | [v], _ => exact ⟨v, rfl⟩
   exact clone_ok hl hs hC
  ·cases h
 ·cases h
def LIM : Nat := 4294967296
noncomputable def W2 : Call1 := ov W1 NewReader.n (byBody W1 LIM NewReader.I)
theorem W2_ok : CallsOK T0.tid PG W2 := ov_ok W1_ok (byBody_ok W1_ok NewReader.ok)
theorem NewReader_l0 (c : Call1) (lim : Nat) (l l5 : List Tok) (x7 x8 x9 x10 x11 x12 : Int) (x13 : Bool) (hl : l.length < 4294967290) : ∀ (d i n0 : Nat) (l6 : List Int), i + d = l.length → d < n0 → l6.length ≤ i →
  NewReader.l0 c lim n0 l l.length i l5 l6 x7 x8 x9 x10 x11 x12 x13 () = some (.new [.sl .tok l5, .sl .int (l6 ++ sigIx i (l.drop i)), .int x7, .int x8, .nil, .int x9, .int x10, .int x11, .int x12, .bool x13], ())
 | _, i, 0, l6, hi, hn, h6 => by omega
 | 0, i, n0 + 1, l6, hi, hn, h6 => by
  rw [NewReader.l0_succ, if_neg (by simp; omega), List.drop_of_length_le (by omega)]; simp [sigIx]
 | d + 1, i, n0 + 1, l6, hi, hn, h6 => by
  have hx : l.drop i = l.getD i ⟨0, 0, 0⟩ :: l.drop (i + 1) := by
   rw [List.drop_eq_getElem_cons (by omega), List.getD_eq_getElem?_getD, List.getElem?_eq_getElem (by omega)]; rfl
  rw [NewReader.l0_succ, if_pos (by simp; omega), if_pos (by omega), if_pos (by omega), Int.toNat_natCast, hx]
  have hw : IntKind.i64.wrap ((i : Int) + 1) = ((i + 1 : Nat) : Int) := by rw [wi _ (by omega) (by omega)]; omega
  rw [hw]
  clear hx
  generalize l.getD i ⟨0, 0, 0⟩ = t
  by_cases hk : 10 ≤ t.k
  ·have hsg : sg t = true := by unfold sg; exact decide_eq_true hk
   rw [if_pos (by simpa using hk), if_pos (by simp only [List.length_singleton]; unfold maxRow; omega), NewReader_l0 c lim l l5 x7 x8 x9 x10 x11 x12 x13 hl d (i + 1) n0 _ (by omega) (by omega) (by simp; omega)]
   simp [sigIx, hsg]
  ·have hsg : sg t = false := by unfold sg; exact decide_eq_false hk
   rw [if_neg (by simpa using hk), NewReader_l0 c lim l l5 x7 x8 x9 x10 x11 x12 x13 hl d (i + 1) n0 l6 (by omega) (by omega) (by omega)]
   simp [sigIx, hsg]
theorem W2_NewReader {l : List Tok} (hl : l.length < 4294967290) : W2 .unit NewReader.n [.sl .tok l] () = some (.new [.sl .tok l, .sl .int (sigIx 0 l), .int 0, .int 0, .nil, .int 0, .int 0, .int 0, .int 0, .bool false], ()) := by
 unfold W2
 rw [ov_eq]
 show evalBody T0 W1 .unit LIM NewReader.I [.sl .tok l] () = _
 rw [NewReader_eq]
 have h1 : W1 .unit Clone.n [.sl .tok l] () = some (.sl .tok l, ()) := by
  unfold W1; rw [ov_eq]; exact if_pos (by unfold maxRow; omega)
 have h2 : cX W1 (.s .tok) .unit Clone.n [.sl .tok l] () (fun (x1 : List Tok) _ => NewReader.l0 W1 LIM LIM l ((l).length : Int) 0 x1 [] 0 0 0 0 0 0 false ()) = NewReader.l0 W1 LIM LIM l ((l).length : Int) 0 l [] 0 0 0 0 0 0 false () := by
  unfold cX; rw [h1]; rfl
 refine h2.trans ?_
 have := NewReader_l0 W1 LIM l l 0 0 0 0 0 0 false hl l.length 0 LIM [] (by omega) (by unfold LIM; omega) (by simp)
 exact this
theorem cX_c {h : Sh} {c : Call1} {τ : STy} {f : Nat} {args : List AV} {p q : τ.T} {R : Type} {a : AV} {x : h.T} {K : h.T → τ.T → Option R} (hc : c τ f args p = some (a, q)) (hd : h.dec a = some x) : cX c h τ f args p K = K x q := by
 unfold cX; rw [hc]; unfold shaped; simp [hd]
theorem outA_small {b : A} (h : SM b.row) : ∀ n ∈ (outA b).row, Small n := by
 intro n hn
 unfold outA at hn
 split at hn
 ·cases hn
 ·rcases List.mem_append.1 hn with hn | hn
  ·obtain ⟨x, hx, rfl⟩ := List.mem_map.1 hn
   rw [finA_row] at hx
   exact h x hx
  ·obtain ⟨t, _, rfl⟩ := List.mem_map.1 hn
   exact Small.none_ _ _ _
end Go.AI.Rd
end
section
set_option maxRecDepth 100000
namespace Go.AI.Rd
def nodeD (o : Option Node) : Node := match o with | some n => n | none => .mk 0 0 0 []
abbrev True' (w : World) : Ending → World → Prop := fun e w' => match e with | .returned u => u = .bool true ∧ Keep w (fun _ => False) w' | _ => False
theorem true_of {w : World} {S : Nat → Nat → Prop} {e : Ending} {w' : World} (h : RetOK T0.tid .unit w S 0 (fun _ => none) (.bool true, ()) e w') : True' w e w' := by
 cases e with
 | returned u =>
  obtain ⟨S', κ', h1, h2, h3, h4, h5, h6⟩ := h
  have h6 : FRel w' S' 0 (.bool true) u := h6
  cases h6
  refine ⟨rfl, h2.os, h2.tape, h2.output, h2.size, fun b hb _ => h2.block b hb ?_⟩
  rintro (⟨hF, _⟩ | ⟨k, hF⟩)
  ·exact absurd rfl hF
  ·cases hF
 | _ => exact h
theorem outs_bool {σ σ' : St} {a : AV} {x : Bool} (h : outs σ [a] = some (.bool x, σ')) : a = .bool x := by
 have key : ∀ a : AV, freeze σ a = some (.bool x, σ') → a = .bool x := by
  intro a h
  cases a with
  | agg l => simp only [freeze] at h; split at h <;> simp at h
  | own k ver e l => simp only [freeze, freeze1] at h; split at h <;> simp at h
  | bool b => simp only [freeze, freeze1] at h; cases h; rfl
  | _ => simp only [freeze, freeze1] at h; split at h <;> simp at h
 unfold outs at h
 split at h
 ·simp at *
 ·split at h <;> simp at h
 ·rename_i b hne; simp only [List.cons.injEq, and_true] at *
  first | exact key _ h | (rename_i hb; subst hb; exact key _ h)
 ·rename_i hne; split at h <;> simp at h
theorem fin_some {tab : Tab} {τ : STy} {fi : FnI} {ex : Ex} {σ : St} {r : AV × τ.T} (h : fin tab τ fi ex σ = some r) : ∃ l y σ' q, resAll tab σ fi.fn.results.toList = some l ∧ outs σ l = some (y, σ') ∧ r = (y, q) ∧ (ex = .normal ∨ ex = .ret) := by
 have split : (match resAll tab σ fi.fn.results.toList with
   | some l => match outs σ l with | some (a, σ') => (match τ.dec σ'.v σ'.fr σ'.s with | some p => some (a, p) | none => none) | none => none
   | none => none) = some r → ∃ l y σ' q, resAll tab σ fi.fn.results.toList = some l ∧ outs σ l = some (y, σ') ∧ r = (y, q) := by
  intro hq
  split at hq
  rotate_left
  ·cases hq
  rename_i l h1
  split at hq
  rotate_left
  ·cases hq
  rename_i y σ' h2
  split at hq
  rotate_left
  ·cases hq
  simp only [Option.some.injEq] at hq
  exact ⟨l, y, σ', _, h1, h2, hq.symm⟩
 cases ex with
 | exit i => simp [fin] at h
 | normal => obtain ⟨l, y, σ', q, h1, h2, h3⟩ := split h; exact ⟨l, y, σ', q, h1, h2, h3, .inl rfl⟩
 | ret => obtain ⟨l, y, σ', q, h1, h2, h3⟩ := split h; exact ⟨l, y, σ', q, h1, h2, h3, .inr rfl⟩
theorem encTok_int {l : List Tok} {i : Nat} (hi : i < (encL .tok l).length) : ∃ n, (encL .tok l).getD i .undef = .int n := by
 have : ∀ a ∈ encL .tok l, ∃ n, a = AV.int n := by
  intro a ha
  unfold encL at ha
  obtain ⟨t, _, ht⟩ := List.mem_flatMap.1 ha
  simp only [El.enc, List.mem_cons, List.not_mem_nil, or_false] at ht
  rcases ht with rfl | rfl | rfl <;> exact ⟨_, rfl⟩
 refine this _ ?_
 rw [List.getD_eq_getElem?_getD, List.getElem?_eq_getElem hi]
 exact List.getElem_mem _
theorem CR_tok {l : List Tok} {w : World} {S : Nat → Nat → Prop} {g : Nat} {vs : List Value} (h : CR w S g (encL .tok l) vs) (w' : World) (S' : Nat → Nat → Prop) (g' : Nat) : CR w' S' g' (encL .tok l) vs := by
 refine ⟨h.1, fun i hi => ?_⟩
 have := h.2 i hi
 obtain ⟨n, hn⟩ := encTok_int hi
 rw [hn] at this ⊢
 generalize vs.getD i Go.undef = v at this ⊢
 cases this
 exact .int n
theorem start_own {w : World} {S : Nat → Nat → Prop} {g b : Nat} {e : El} {xs : List e.T} {y : AV} {xv lv : Value} {vs : List Value} (n : Nat) (hlv : FRel w S g y lv) (hob : xv.ownBlock = some b) (hown : w.ownsRow 0 (T0.tid e) e.sz xv xs.length vs)
  (hC : CR w S g (encL e xs) vs) (hb : b < w.heap.size) (hbS : ∀ o, ¬ S b o) (hst : ∀ b o, S b o → b < w.heap.size) :
  Rel T0.tid ⟨w, fun x => x = b, S, g⟩ (#[xv, lv] ++ Array.replicate (n - #[xv, lv].size) Go.undef).size ⟨w, S, g, fun k => if k = 0 then some b else none, fun _ => 0⟩ (start [.own 0 0 e xs, y] [])
   { tmps := #[xv, lv] ++ Array.replicate (n - #[xv, lv].size) Go.undef, defers := [] } w := by
 have hnb : ∀ k, getB (start [.own 0 0 e xs, y] []).b k = [] := fun _ => rfl
 have hns : (start [.own 0 0 e xs, y] []).s = [] := rfl
 refine { hw := rfl, ds := ⟨rfl, rfl⟩, n := rfl, t := fun i => ?_, b := fun k hk => absurd (hnb k) hk, s := fun hne => absurd hns hne, ver := fun k => Nat.le_refl _, fz := fun k b hk => (by simp [start] at hk), own := fun k b' _ hk => ?_, inj := fun k k' b' _ _ h1 h2 => ?_, box := fun k hk => absurd (hnb k) hk, gg := fun hne => absurd hns hne, old := fun b o h => .inl h, grow := fun b o h => h, stsz := hst, keep := Keep.refl w _ }
 ·match i with
  | 0 =>
   have : (#[xv, lv] ++ Array.replicate (n - #[xv, lv].size) Go.undef).getD 0 Go.undef = xv := by simp [Array.getD]
   show AR T0.tid _ _ (.own 0 0 e xs) ((#[xv, lv] ++ Array.replicate (n - #[xv, lv].size) Go.undef).getD 0 Go.undef)
   rw [this]
   refine ⟨?_, Nat.le_refl _, fun _ => .inr ⟨b, vs, rfl, hob, hown, hC⟩⟩
   cases xv <;> first | exact ⟨_, _, _, rfl⟩ | simp [Value.ownBlock] at hob
  | 1 =>
   have : (#[xv, lv] ++ Array.replicate (n - #[xv, lv].size) Go.undef).getD 1 Go.undef = lv := by simp [Array.getD]; intro h; omega
   show AR T0.tid _ _ y ((#[xv, lv] ++ Array.replicate (n - #[xv, lv].size) Go.undef).getD 1 Go.undef)
   rw [this]
   exact AR.of_F T0.tid hlv
  | n + 2 => exact FRel.undef _
 ·simp only at hk
  split at hk
  ·cases hk
   exact ⟨.inl rfl, hb, hbS, fun h => absurd hns h, fun j hj => absurd (hnb j) hj⟩
  ·cases hk
 ·simp only at h1 h2
  split at h1
  ·split at h2
   ·omega
   ·cases h2
  ·cases h1
theorem frel_of_cells {w : World} {S : Nat → Nat → Prop} {g b m : Nat} {e : El} {l : List e.T} {vs : List Value} (hlen : l.length ≤ m) (hcells : CellsAt w b 0 vs) (hC : CR w S g (encL e l) vs) (hS : ∀ o, o < l.length * e.sz → S b o) : FRel w S g (.sl e l) (.slice (some ⟨b, 0, none⟩) l.length m) := by
 by_cases h0 : l = []
 ·subst h0; exact .sl0 e _ _
 ·have hn : 0 < l.length := List.length_pos_iff.2 h0
  have hlt : ∀ i j, i < l.length → j < e.sz → i * e.sz + j < l.length * e.sz := by
   intro i j hi hj
   have : (i + 1) * e.sz ≤ l.length * e.sz := Nat.mul_le_mul_right _ hi
   rw [Nat.add_mul, Nat.one_mul] at this
   omega
  refine .sl e l b 0 m (fun i j => vs.getD (i * e.sz + j) Go.undef) hlen hn (fun i j hi hj => ?_) fun i j hi hj => ⟨hS _ (by have := hlt i j hi hj; omega), ?_⟩
  ·rw [← encL_getD e l i j hi hj]
   exact hC.2 _ (by rw [encL_length]; exact hlt i j hi hj)
  ·have hl2 : i * e.sz + j < vs.length := by rw [← hC.1, encL_length]; exact hlt i j hi hj
   have := hcells (i * e.sz + j) _ (get?_of_lt Go.undef hl2)
   rw [Nat.add_assoc]
   exact this
section
variable {tid : El → Nat} {B : Base} {N : Nat} {c : Cx} {σ : St} {a : Act} {w w' : World}
theorem box_lt (h : Rel tid B N c σ a w) {j : Nat} (hj : getB σ.b j ≠ []) : c.β j < w.heap.size := by
 obtain ⟨vs, T, hB, _⟩ := h.b j hj
 have := hB.lt
 rw [h.hw] at this
 exact this
theorem Rel_drop {σ' : St} (h : Rel tid B N c σ a w) (ht : ∀ i, getT σ'.t i = getT σ.t i ∨ getT σ'.t i = .undef) (hb : ∀ k, getB σ'.b k = getB σ.b k) (hs : σ'.s = σ.s) (hv : σ'.v = σ.v) (hc : σ'.c = σ.c) (hfr : σ'.fr = σ.fr) : Rel tid B N c σ' a w := by
 have h1 := Rel.eqv (σ := σ) (σ' := { σ' with t := σ.t }) ⟨fun _ => rfl, ⟨hb, hs, hv, hc, hfr⟩⟩ h
 have st : Step c σ c σ' := ⟨rfl, fun _ _ _ _ h => h, fun _ _ h => h, by rw [hc]; exact Nat.le_refl _, fun k hk => ⟨by rw [hb]; exact hk, rfl⟩, fun k => .inl ⟨by rw [hv], rfl, fun _ _ => rfl⟩⟩
 have st1 : Step c { σ' with t := σ.t } c σ' := ⟨rfl, fun _ _ _ _ h => h, fun _ _ h => h, Nat.le_refl _, fun k hk => ⟨hk, rfl⟩, fun k => .inl ⟨rfl, rfl, fun _ _ => rfl⟩⟩
 refine { hw := h1.hw, ds := h1.ds, n := h1.n, t := fun i => ?_, b := fun k hk => (h1.b k hk).step st1 rfl, s := fun hs => (h1.s hs).step st1 rfl, ver := h1.ver, fz := h1.fz, own := h1.own, inj := h1.inj, box := h1.box, gg := h1.gg, old := h1.old, grow := h1.grow, stsz := h1.stsz, keep := h1.keep }
 rcases ht i with e | e
 ·rw [e]; exact (h.t i).step st
 ·rw [e]; exact FRel.undef _
theorem Rel_gotOwn (h : Rel tid B N c σ a w) (hs : σ.s = []) (hK : Keep w (fun _ => False) w') (k : Nat) {b : Nat} (hb : w.heap.size ≤ b) (hb' : b < w'.heap.size) :
  ∃ c', Rel tid B N c' (σ.fresh k) a w' ∧ c'.κ k = some b ∧ c'.S = c.S ∧ c'.g = c.g ∧ c'.w = w' := by
 have hR := (h.called (w' := w') (S' := c.S) (F := fun _ => False) (κ' := fun k' => if k' = k then some b else none) (Ks := [k]) (σ' := σ.fresh k) hK (fun _ _ h => h) (fun _ _ h => .inl h) (fun b o hS => Nat.lt_of_lt_of_le (h.stsz b o hS) hK.size)
  (fun b hF => hF.elim) (fun b o hF => hF.elim) (fun k b _ _ hF => hF.elim)
  (fun k' b' hk' => by
   split at hk'
   ·cases hk'
    exact ⟨.inr hb, hb', fun o hS => by have := h.stsz _ _ hS; omega, fun hne => absurd hs hne, fun j hj => by have := box_lt h hj; omega⟩
   ·cases hk')
  (fun k1 k2 b' h1 h2 => by
   split at h1
   ·split at h2
    ·omega
    ·cases h2
   ·cases h1)
  rfl (Nat.le_succ _)
  (fun k' hk' => by
   simp only [List.mem_singleton] at hk'
   subst hk'
   simp [St.fresh, getV])
  (fun k' hk' => by
   simp only [List.mem_singleton] at hk'
   simp only [St.fresh, getV]
   have : Nat.beq k k' = false := by
    cases hb : Nat.beq k k' with
    | false => rfl
    | true => exact absurd (Nat.eq_of_beq_eq_true hb).symm hk'
   rw [this])
  (fun k' => by
   simp only [St.fresh, List.mem_filter, List.mem_singleton]
   constructor
   ·rintro ⟨h1, h2⟩; exact ⟨h1, fun e => by subst e; simp at h2⟩
   ·rintro ⟨h1, h2⟩
    refine ⟨h1, ?_⟩
    cases hb : Nat.beq k' k with
    | false => rfl
    | true => exact absurd (Nat.eq_of_beq_eq_true hb) h2)
  (fun j hj => (h.box j hj).2.1) (fun hne => absurd hs hne) (fun j => Iff.rfl) id (fun _ => ⟨fun j _ => .inl ⟨rfl, id⟩, fun _ => .inl ⟨rfl, id⟩⟩)).1
 exact ⟨_, hR, by simp, rfl, rfl, rfl⟩
theorem Rel_gotS (h : Rel tid B N c σ a w) (hs : σ.s = []) (hK : Keep w (fun _ => False) w') {S' : Nat → Nat → Prop} (hSS : ∀ b o, c.S b o → S' b o) (hSn : ∀ b o, S' b o → c.S b o ∨ w.heap.size ≤ b) (hSz : ∀ b o, S' b o → b < w'.heap.size) :
  ∃ c', Rel tid B N c' σ a w' ∧ c'.κ = c.κ ∧ c'.S = S' ∧ c'.g = c.g ∧ c'.w = w' := by
 have hR := (h.called (w' := w') (S' := S') (F := fun _ => False) (κ' := fun _ => none) (Ks := []) (σ' := σ) hK hSS (fun b o h => (hSn b o h).imp id .inr) hSz
  (fun b hF => hF.elim) (fun b o hF => hF.elim) (fun k b _ _ hF => hF.elim) (fun k' b' hk' => by cases hk') (fun k1 k2 b' h1 h2 => by cases h1) rfl (Nat.le_refl _) (fun k hk => by simp at hk) (fun k _ => rfl) (fun k => by simp)
  (fun j hj o hS => by
   rcases hSn _ _ hS with h1 | h1
   ·exact (h.box j hj).2.1 o h1
   ·have := box_lt h hj; omega) (fun hne => absurd hs hne) (fun j => Iff.rfl) id (fun _ => ⟨fun j _ => .inl ⟨rfl, id⟩, fun _ => .inl ⟨rfl, id⟩⟩)).1
 exact ⟨_, hR, by funext k; simp, rfl, rfl, rfl⟩
theorem Rel_wrote (h : Rel tid B N c σ a w) (hs : σ.s = []) {k b : Nat} (hk : k ∉ σ.fr) (hκ : c.κ k = some b) (hK : Keep w (fun x => x = b) w') : ∃ c', Rel tid B N c' (σ.bump k) a w' ∧ c'.S = c.S ∧ c'.g = c.g ∧ c'.w = w' := by
 have ho := h.own k b hk hκ
 have hR := (h.called (w' := w') (S' := c.S) (F := fun x => x = b) (κ' := fun _ => none) (Ks := [k]) (σ' := σ.bump k) hK (fun _ _ h => h) (fun _ _ h => .inl h) (fun b o hS => Nat.lt_of_lt_of_le (h.stsz b o hS) hK.size)
  (fun b' hF => by subst hF; exact ho.1) (fun b' o hF => by subst hF; exact ho.2.2.1 o) (fun k' b' hk' hκ' hF => by subst hF; rw [List.mem_singleton]; exact h.inj k' k _ hk' hk hκ' hκ)
  (fun k' b' hk' => by cases hk') (fun k1 k2 b' h1 h2 => by cases h1) rfl (Nat.le_succ _)
  (fun k' hk' => by
   simp only [List.mem_singleton] at hk'
   subst hk'
   simp [St.bump, getV])
  (fun k' hk' => by
   simp only [List.mem_singleton] at hk'
   simp only [St.bump, getV]
   have : Nat.beq k k' = false := by
    cases hb : Nat.beq k k' with
    | false => rfl
    | true => exact absurd (Nat.eq_of_beq_eq_true hb).symm hk'
   rw [this])
  (fun k' => by
   simp only [St.bump, List.mem_singleton]
   exact ⟨fun h1 => ⟨h1, fun e => by subst e; exact hk h1⟩, fun h1 => h1.1⟩)
  (fun j hj => (h.box j hj).2.1) (fun hne => absurd hs hne) (fun j => Iff.rfl) id (fun _ => ⟨fun j hj => .inl ⟨rfl, fun hF => ho.2.2.2.2 j hj hF.symm⟩, fun hne => absurd hs hne⟩)).1
 exact ⟨_, hR, rfl, rfl, rfl⟩
theorem Rel_own (h : Rel tid B N c σ a w) (hs : σ.s = []) {k : Nat} (hk : k ∉ σ.fr) {κ0 κ' : Option Nat} (hκ : ∀ b, κ0 = some b → c.κ k = some b) (hK : Keep w (fun x => κ0 = some x) w') (hκ' : ∀ b, κ' = some b → b < w'.heap.size ∧ (κ0 = some b ∨ w.heap.size ≤ b)) :
  ∃ c', Rel tid B N c' (σ.fresh k) a w' ∧ c'.κ k = κ' ∧ c'.S = c.S ∧ c'.g = c.g ∧ c'.w = w' := by
 have ho := fun b (hb : κ0 = some b) => h.own k b hk (hκ b hb)
 have hR := (h.called (w' := w') (S' := c.S) (F := fun x => κ0 = some x) (κ' := fun k' => if k' = k then κ' else none) (Ks := [k]) (σ' := σ.fresh k) hK (fun _ _ h => h) (fun _ _ h => .inl h) (fun b o hS => Nat.lt_of_lt_of_le (h.stsz b o hS) hK.size)
  (fun b hF => (ho b hF).1) (fun b o hF => (ho b hF).2.2.1 o) (fun k' b hk' hκ1 hF => by rw [List.mem_singleton]; exact h.inj k' k _ hk' hk hκ1 (hκ b hF))
  (fun k' b' hk' => by
   split at hk'
   ·obtain ⟨h1, h2⟩ := hκ' b' hk'
    rcases h2 with h2 | h2
    ·have := ho b' h2
     exact ⟨.inl h2, h1, this.2.2.1, this.2.2.2.1, this.2.2.2.2⟩
    ·exact ⟨.inr h2, h1, fun o hS => by have := h.stsz _ _ hS; omega, fun hne => absurd hs hne, fun j hj => by have := box_lt h hj; omega⟩
   ·cases hk')
  (fun k1 k2 b' h1 h2 => by
   split at h1
   ·split at h2
    ·omega
    ·cases h2
   ·cases h1)
  rfl (Nat.le_succ _)
  (fun k' hk' => by
   simp only [List.mem_singleton] at hk'
   subst hk'
   simp [St.fresh, getV])
  (fun k' hk' => by
   simp only [List.mem_singleton] at hk'
   simp only [St.fresh, getV]
   have : Nat.beq k k' = false := by
    cases hb : Nat.beq k k' with
    | false => rfl
    | true => exact absurd (Nat.eq_of_beq_eq_true hb).symm hk'
   rw [this])
  (fun k' => by
   simp only [St.fresh, List.mem_filter, List.mem_singleton]
   constructor
   ·rintro ⟨h1, h2⟩; exact ⟨h1, fun e => by subst e; simp at h2⟩
   ·rintro ⟨h1, h2⟩
    refine ⟨h1, ?_⟩
    cases hb : Nat.beq k' k with
    | false => rfl
    | true => exact absurd (Nat.eq_of_beq_eq_true hb) h2)
  (fun j hj => (h.box j hj).2.1) (fun hne => absurd hs hne) (fun j => Iff.rfl) id (fun _ => ⟨fun j hj => .inl ⟨rfl, fun hF => (ho _ hF).2.2.2.2 j hj rfl⟩, fun hne => absurd hs hne⟩)).1
 exact ⟨_, hR, by simp, rfl, rfl, rfl⟩
end
theorem call_wp {P : Program} {o : Oper} {f : Nat} {args : Array Operand} {ts : Array Nat} {a : Act} {w : World} {R' : Ending → World → Prop} {next : Act → World → Prop} {Q : Exit → Act → World → Prop} (hop : o.op = .call ⟨.value (.func f), args, ts⟩) (hg : Goes P f)
  (hc : Calls P f (args.toList.map a.eval).toArray w R') (hno : ∀ e w', R' e w' → ∃ v, e = .returned v) (hn : ∀ v w', R' (.returned v) w' → next (a.put o.dst v) w') : o.wp P a w next Q := by
 obtain ⟨dst, op, type, pos, after, guard⟩ := o
 simp only at hop hn
 subst hop
 unfold Oper.wp
 have e1 : (execOp a.eval ⟨dst, .call ⟨.value (.func f), args, ts⟩, type, pos, after, guard⟩).run P w = .ok (.enter f (args.toList.map a.eval).toArray) w := by
  have e2 : args.map a.eval = (args.toList.map a.eval).toArray := by rw [← Array.toList_map, Array.toArray_toList]
  simp [execOp, resolve, Act.eval, Deferred.ofValue, invoke, run_callFunc hg, e2]
 rw [e1]
 refine hc.mono fun e w'' he => ?_
 obtain ⟨v, rfl⟩ := hno e w'' he
 exact hn v w'' he
end Go.AI.Rd
end
section
set_option maxRecDepth 100000
namespace Go.AI.Rd
noncomputable def Lv.I : FnI := { fn := Go.Proofs.Try.f13, masks := [] }
theorem Lv.ok : FnOK PG leavesF.n Lv.I := ⟨Go.Proofs.Try.func13, by kernel_rfl, ⟨_, rfl⟩, by kernel_rfl⟩
def Owd (w : World) (κ : Option Nat) (xs : List Tok) (v : Value) : Prop :=
 (xs = [] ∧ ∃ a, v = .slice a 0 0) ∨ ∃ b vs, κ = some b ∧ v.ownBlock = some b ∧ w.ownsRow 0 (T0.tid .tok) 3 v xs.length vs ∧ ∀ w S g, CR w S g (encL .tok xs) vs
theorem Owd.sl {w : World} {κ : Option Nat} {xs : List Tok} {v : Value} (h : Owd w κ xs v) : ∃ a n m, v = .slice a n m := by
 rcases h with ⟨_, a, rfl⟩ | ⟨b, vs, _, h, _⟩
 ·exact ⟨_, _, _, rfl⟩
 ·cases v <;> first | exact ⟨_, _, _, rfl⟩ | simp [Value.ownBlock] at h
theorem Owd.of {c : Cx} {k : Nat} {xs : List Tok} {v : Value} (h : OwnR T0.tid c k .tok xs v) : ∃ κ, (∀ b, κ = some b → c.κ k = some b) ∧ Owd c.w κ xs v := by
 rcases h with h | ⟨b, vs, h1, h2, h3, h4⟩
 ·exact ⟨none, fun b h => (by cases h), .inl h⟩
 ·exact ⟨some b, fun b' h => (by cases h; exact h1), .inr ⟨b, vs, rfl, h2, h3, fun w S g => CR_tok h4 w S g⟩⟩
theorem Owd.to {c : Cx} {k : Nat} {xs : List Tok} {v : Value} {κ : Option Nat} {w : World} (h : Owd w κ xs v) (hw : c.w = w) (hκ : c.κ k = κ) : OwnR T0.tid c k .tok xs v := by
 subst hw
 rcases h with h | ⟨b, vs, h1, h2, h3, h4⟩
 ·exact .inl h
 ·exact .inr ⟨b, vs, hκ.trans h1, h2, h3, h4 _ _ _⟩
def LvR (w : World) (κ : Option Nat) (ys : List Tok) : Ending → World → Prop := fun e w' => match e with
 | .returned u => ∃ κ', Owd w' κ' ys u ∧ (∀ b, κ' = some b → b < w'.heap.size ∧ (κ = some b ∨ w.heap.size ≤ b)) ∧ Keep w (fun x => κ = some x) w'
 | _ => False
def LvOK (n : Node) : Prop := ∀ (w : World) (S : Nat → Nat → Prop) (g : Nat) (κ : Option Nat) (xs : List Tok) (nv v : Value), xs.length + (lvN n).length < maxRow → FRel w S g (ndAV n) nv → Owd w κ xs v → (∀ b, κ = some b → b < w.heap.size ∧ ∀ o, ¬ S b o) → (∀ b o, S b o → b < w.heap.size) →
 Calls PG leavesF.n #[nv, v] w (LvR w κ (xs ++ lvN n))
theorem start_own2 {w : World} {S : Nat → Nat → Prop} {g : Nat} {κ : Option Nat} {xs : List Tok} {y : AV} {nv v : Value} (n : Nat) (hy : FRel w S g y nv) (hO : Owd w κ xs v) (hκ : ∀ b, κ = some b → b < w.heap.size ∧ ∀ o, ¬ S b o) (hst : ∀ b o, S b o → b < w.heap.size) :
  Rel T0.tid ⟨w, fun x => κ = some x, S, g⟩ (#[nv, v] ++ Array.replicate (n - #[nv, v].size) Go.undef).size ⟨w, S, g, fun k => if k = 1 then κ else none, fun _ => 0⟩ (start [y, .own 1 0 .tok xs] [])
   { tmps := #[nv, v] ++ Array.replicate (n - #[nv, v].size) Go.undef, defers := [] } w := by
 have hnb : ∀ k, getB (start [y, .own 1 0 .tok xs] []).b k = [] := fun _ => rfl
 have hns : (start [y, .own 1 0 .tok xs] []).s = [] := rfl
 refine { hw := rfl, ds := ⟨rfl, rfl⟩, n := rfl, t := fun i => ?_, b := fun k hk => absurd (hnb k) hk, s := fun hne => absurd hns hne, ver := fun k => Nat.le_refl _, fz := fun k b hk => (by simp [start] at hk), own := fun k b' _ hk => ?_, inj := fun k k' b' _ _ h1 h2 => ?_, box := fun k hk => absurd (hnb k) hk, gg := fun hne => absurd hns hne, old := fun b o h => .inl h, grow := fun b o h => h, stsz := hst, keep := Keep.refl w _ }
 ·match i with
  | 0 =>
   have : (#[nv, v] ++ Array.replicate (n - #[nv, v].size) Go.undef).getD 0 Go.undef = nv := by simp [Array.getD]
   show AR T0.tid _ _ y ((#[nv, v] ++ Array.replicate (n - #[nv, v].size) Go.undef).getD 0 Go.undef)
   rw [this]
   exact AR.of_F T0.tid hy
  | 1 =>
   have : (#[nv, v] ++ Array.replicate (n - #[nv, v].size) Go.undef).getD 1 Go.undef = v := by simp [Array.getD]; intro h; omega
   show AR T0.tid _ _ (.own 1 0 .tok xs) ((#[nv, v] ++ Array.replicate (n - #[nv, v].size) Go.undef).getD 1 Go.undef)
   rw [this]
   exact ⟨hO.sl, Nat.le_refl _, fun _ => hO.to rfl (show (if (1 : Nat) = 1 then κ else none) = κ from if_pos rfl)⟩
  | n + 2 => exact FRel.undef _
 ·simp only at hk
  split at hk
  ·obtain ⟨h1, h2⟩ := hκ _ hk
   exact ⟨.inl hk, h1, h2, fun h => absurd hns h, fun j hj => absurd (hnb j) hj⟩
  ·cases hk
 ·simp only at h1 h2
  split at h1
  ·split at h2
   ·omega
   ·cases h2
  ·cases h1
abbrev ndC (n : Node) : List AV := [.int (Node.k n), .int (Node.f n), .int (Node.t n), .sl .node (Node.kids n)]
def lv0 (n : Node) (xs : List Tok) : St := ⟨[(1, .own 1 0 .tok xs), (2, .lbox 2 0)], [(2, ndC n)], [], [], 0, []⟩
def lv1 (n : Node) (ys : List Tok) (ver i : Nat) (v : List (Nat × Nat)) (c : Nat) : St := ⟨[(1, .own 1 ver .tok ys), (2, .lbox 2 0), (5, .int i)], [(2, ndC n)], [], v, c, []⟩
theorem lv_fin {w : World} {S : Nat → Nat → Prop} {g : Nat} {κ : Option Nat} {N ver : Nat} {σ : St} {c : Cx} {a : Act} {w' : World} {ys : List Tok} (h : Rel T0.tid ⟨w, fun x => κ = some x, S, g⟩ N c σ a w') (h4 : getT σ.t 4 = .own 1 ver .tok ys) (hv : ver = getV σ.v 1) (hfr : σ.fr = []) :
  bodyPost PG Lv.I.fn (LvR w κ ys) .ret a w' := by
 have ht := h.t 4
 rw [h4] at ht
 obtain ⟨hsl, _, hO⟩ := ht
 obtain ⟨us, g1, g2, g3⟩ := resAll_ok tabT h (xs := Lv.I.fn.results.toList) (l := [getT σ.t 4]) rfl
 obtain ⟨κ', k1, k2⟩ := Owd.of (hO hv)
 rw [h.hw] at k2
 refine ⟨h.ds.1, a.tmps.getD 4 Go.undef, ?_, κ', k2, fun b hb => ?_, h.keep⟩
 ·unfold results
  rw [Array.mapM_eq_mapM_toList]
  simp only [Sem.run_bind, Sem.run_map, Sem.run_pure]
  rfl
 ·have ho := h.own 1 b (by rw [hfr]; simp) (k1 b hb)
  exact ⟨ho.2.1, ho.1⟩
theorem leaf_exec (n : Node) (xs : List Tok) : exec T0 W .unit (FnI.mask Lv.I) 0 (Func.code Lv.I.fn).r1.l1.r1.l1 0 (lv0 n xs) (fun ex σ => some (ex, getT σ.t 4, getV σ.v 1, σ.fr)) =
  if xs.length + ([(⟨Node.k n, Node.f n, Node.t n⟩ : Tok)]).length < maxRow then some (.ret, .own 1 1 .tok (xs ++ [(⟨Node.k n, Node.f n, Node.t n⟩ : Tok)]), 1, []) else none := by kernel_rfl
theorem lvN_eq (n : Node) : lvN n = if Node.k n < 200 then [⟨Node.k n, Node.f n, Node.t n⟩] else lvL (Node.kids n) := by
 cases n; simp only [lvN]; rfl
theorem getD_kid (kids : List Node) (i : Nat) (h : i < kids.length) : kids.getD i (El.dflt .node) = kids[i] := by
 rw [List.getD_eq_getElem?_getD, List.getElem?_eq_getElem h]; rfl
theorem take_kid (kids : List Node) (i : Nat) (h : i < kids.length) : lvL (kids.take (i + 1)) = lvL (kids.take i) ++ lvN (kids.getD i (El.dflt .node)) := by
 rw [getD_kid _ _ h, ← List.take_append_getElem h, lvL_append]; simp [lvL]
theorem lvL_take_le (kids : List Node) (i : Nat) : (lvL (kids.take i)).length ≤ (lvL kids).length := by
 have : (lvL (kids.take i ++ kids.drop i)).length = (lvL kids).length := by rw [List.take_append_drop]
 rw [lvL_append, List.length_append] at this
 omega
theorem bool_of {tid : El → Nat} {B : Base} {N : Nat} {c : Cx} {σ : St} {a : Act} {w : World} (h : Rel tid B N c σ a w) {i : Nat} {x : Bool} (hx : getT σ.t i = .bool x) : a.eval (.tmp i) = .bool x := by
 have h1 : AR tid c σ (getT σ.t i) (a.eval (.tmp i)) := h.getO (.tmp i)
 rw [hx] at h1
 have h2 : FRel c.w c.S c.g (.bool x) (a.eval (.tmp i)) := h1.to_F tid rfl
 generalize a.eval (.tmp i) = v at h2 ⊢
 cases h2; rfl
theorem leaves_calls {n : Node} (hn : Small n) : LvOK n := by
 induction hn with
 | mk k f t kids hlen hsm ih =>
 intro w S g κ xs nv v hm hnv hO hκ hst
 have hn : Node.k (.mk k f t kids) = k := rfl
 generalize hnn : Node.mk k f t kids = n at *
 have hkids : Node.kids n = kids := by subst hnn; rfl
 refine calls_of_wp Lv.ok.fn (c := Func.code Lv.I.fn) rfl ?_
 have h0 := start_own2 Lv.I.fn.ntmps hnv hO hκ hst
 generalize hN : (#[nv, v] ++ Array.replicate (Lv.I.fn.ntmps - #[nv, v].size) Go.undef).size = N at h0
 have hNle : Lv.I.fn.ntmps ≤ N := by rw [← hN]; simp only [Array.size_append, Array.size_replicate]; omega
 have hco : ∀ co, codeOK Lv.I.fn.ntmps co = true → codeOK N co = true := fun co h => codeOK_mono hNle co h
 refine wp_seq (segm tabT W_ok mix_ok (τ := .unit) (masks := FnI.mask Lv.I) (lim := 0) (bid := 0) (hco _ (by kernel_rfl)) h0 rfl fun c1 a1 w1 h1 => ?_)
 refine wp_seq (wp_seq (segm tabT W_ok mix_ok (τ := .unit) (masks := FnI.mask Lv.I) (lim := 0) (bid := 0) (hco _ (by kernel_rfl)) h1 rfl fun c2 a2 w2 h2 => ?_))
 have hv : a2.eval (.tmp 8) = .bool (decide (Node.k n < 200)) := bool_of h2 (by with_unfolding_all rfl)
 have h3 : Rel T0.tid ⟨w, fun x => κ = some x, S, g⟩ N c2 (lv0 n xs) a2 w2 := by
  refine Rel_drop h2 (fun i => ?_) (fun _ => rfl) rfl rfl rfl rfl
  match i with
  | 1 => exact .inl rfl
  | 2 => exact .inl rfl
  | 0 => exact .inr rfl
  | n + 3 => exact .inr rfl
 by_cases hk : Node.k n < 200
 ·rw [decide_eq_true hk] at hv
  have hlv : lvN n = [⟨Node.k n, Node.f n, Node.t n⟩] := by rw [lvN_eq, if_pos hk]
  refine wp_cond_true hv (exec_ok (τ := .unit) tabT W_ok mix_ok (FnI.mask Lv.I) 0 _ 0 _ (fun ex σ => some (ex, getT σ.t 4, getV σ.v 1, σ.fr)) _ _ _ _ (hco _ (by kernel_rfl)) h3 ((leaf_exec n xs).trans (if_pos (by rw [hlv] at hm; exact hm))) fun ex σ c a w' h hk => ?_)
  simp only [Option.some.injEq, Prod.mk.injEq] at hk
  obtain ⟨rfl, k1, k2, k3⟩ := hk
  rw [hlv]
  exact lv_fin h k1 k2.symm k3
 rw [decide_eq_false hk] at hv
 have hlv : lvN n = lvL kids := by rw [lvN_eq, if_neg hk, hkids]
 refine wp_cond_false hv (wp_skip ?_)
 refine wp_seq (wp_seq (segm tabT W_ok mix_ok (τ := .unit) (masks := FnI.mask Lv.I) (lim := 0) (bid := 0) (hco _ (by kernel_rfl)) h3 rfl fun c4 a4 w4 h4 => ?_))
 refine wp_block (wp_loop_n (fun m a w' => ∃ (i : Nat) (ys : List Tok) (v : List (Nat × Nat)) (cc : Nat) (c : Cx), i + m = kids.length + 1 ∧ 0 < m ∧ ys = xs ++ lvL (kids.take i) ∧ Rel T0.tid ⟨w, fun x => κ = some x, S, g⟩ N c (lv1 n ys (getV v 1) i v cc) a w') (fun a w h => ?_) (fun m a w' hJ => ?_) (kids.length + 1) ?_)
 ·obtain ⟨_, _, _, _, _, _, h, _⟩ := h
  omega
 ·obtain ⟨i, ys, v1, cc, c5, e1, e2, e3, h5⟩ := hJ
  refine wp_seq (wp_seq (segm tabT W_ok mix_ok (τ := .unit) (masks := FnI.mask Lv.I) (lim := 0) (bid := 0) (hco _ (by kernel_rfl)) h5 rfl fun c6 a6 w6 h6 => ?_))
  have hv6 : a6.eval (.tmp 23) = .bool (decide ((i : Int) < ((Node.kids n).length : Int))) := bool_of h6 (by with_unfolding_all rfl)
  rw [hkids] at hv6
  by_cases hi : (i : Int) < (kids.length : Int)
  ·rw [decide_eq_true hi] at hv6
   have hi' : i < kids.length := by omega
   refine wp_cond_true hv6 (wp_skip ?_)
   refine wp_seq (wp_block (region_hand_at tabT W_ok (τ := .unit) 6 rfl (hco (.region 0 _ false) (by kernel_rfl)) rfl rfl h6 (Eq.trans (if_pos (c := 0 ≤ (i : Int)) (e := (none : Option St)) (by omega)) (if_pos (c := (i : Int) < ((Node.kids n).length : Int)) (e := (none : Option St)) (by rw [hkids]; exact hi))) fun c7 a7 w7 h7 => ?_))
   have hk7 : FRel c7.w c7.S c7.g (ndAV ((Node.kids n).getD (Int.toNat (i : Int)) (El.dflt .node))) (a7.eval (.tmp 30)) := (h7.getO (.tmp 30)).to_F T0.tid rfl
   obtain ⟨_, hle7, hO7⟩ : AR T0.tid c7 _ (.own 1 (getV v1 1) .tok ys) (a7.eval (.tmp 31)) := h7.getO (.tmp 31)
   obtain ⟨κ7, q1, q2⟩ := Owd.of (hO7 rfl)
   rw [Int.toNat_natCast, hkids, h7.hw] at hk7
   rw [h7.hw] at q2
   have hown := fun b hb => h7.own 1 b (fun hh => absurd (show (1 : Nat) ∈ ([] : List Nat) from hh) (by simp)) (q1 b hb)
   have hkid : kids.getD i (El.dflt .node) ∈ kids := by rw [getD_kid _ _ hi']; exact List.getElem_mem _
   have hlen7 : ys.length + (lvN (kids.getD i (El.dflt .node))).length < maxRow := by
    have e4 := lvL_take_le kids (i + 1)
    rw [take_kid _ _ hi', List.length_append] at e4
    rw [hlv] at hm
    rw [e3, List.length_append]
    omega
   refine call_wp rfl Lv.ok.goes (ih _ hkid w7 c7.S c7.g κ7 ys _ _ hlen7 hk7 q2 (fun b hb => ⟨(hown b hb).2.1, (hown b hb).2.2.1⟩) h7.stsz) (fun e w' he => ?_) fun u w8 he => ?_
   ·cases e <;> first | exact ⟨_, rfl⟩ | exact he.elim
   obtain ⟨κ8, r1, r2, r3⟩ := he
   obtain ⟨c8, h8, k1, k2, k3, k4⟩ := Rel_own h7 rfl (k := 1) (fun hh => absurd (show (1 : Nat) ∈ ([] : List Nat) from hh) (by simp)) q1 r3 r2
   have h8' := h8.put (d := some 32) (x := .own 1 (cc + 1) .tok (ys ++ lvN (kids.getD i (El.dflt .node)))) (v := u) (fun x hx => by cases hx; exact Nat.lt_of_lt_of_le (by decide) hNle) ⟨r1.sl, Nat.le_refl _, fun _ => r1.to k4 k1⟩
   refine region_rest_at tabT W_ok (τ := .unit) 6 (by decide) (hco (.region 0 _ false) (by kernel_rfl)) h8' rfl fun c9 a9 w9 h9 => ?_
   refine segm tabT W_ok mix_ok (τ := .unit) (masks := FnI.mask Lv.I) (lim := 0) (bid := 0) (hco _ (by kernel_rfl)) h9 rfl fun c10 a10 w10 h10 => ?_
   have hw : IntKind.i64.wrap ((i : Int) + 1) = ((i + 1 : Nat) : Int) := by rw [wi _ (by omega) (by omega)]; omega
   refine ⟨i + 1, ys ++ lvN (kids.getD i (El.dflt .node)), (1, cc + 1) :: v1, cc + 1, c10, by omega, by omega, ?_, Rel_drop h10 (fun j => ?_) (fun _ => rfl) rfl rfl rfl rfl⟩
   ·rw [take_kid _ _ hi', e3, List.append_assoc]
   ·match j with
    | 1 => exact .inl rfl
    | 2 => exact .inl rfl
    | 5 => exact .inl (congrArg AV.int hw.symm)
    | 0 => exact .inr rfl
    | 3 => exact .inr rfl
    | 4 => exact .inr rfl
    | n + 6 => exact .inr rfl
  ·rw [decide_eq_false hi] at hv6
   refine wp_cond_false hv6 (wp_exit ?_)
   have e4 : kids.take i = kids := List.take_of_length_le (by omega)
   rw [e4] at e3
   subst e3
   have h7 : Rel T0.tid ⟨w, fun x => κ = some x, S, g⟩ N c6 (lv1 n (xs ++ lvL kids) (getV v1 1) i v1 cc) a6 w6 := by
    refine Rel_drop h6 (fun j => ?_) (fun _ => rfl) rfl rfl rfl rfl
    match j with
    | 1 => exact .inl rfl
    | 2 => exact .inl rfl
    | 5 => exact .inl rfl
    | 0 => exact .inr rfl
    | 3 => exact .inr rfl
    | 4 => exact .inr rfl
    | n + 6 => exact .inr rfl
   refine segm tabT W_ok mix_ok (τ := .unit) (masks := FnI.mask Lv.I) (lim := 0) (bid := 0) (hco _ (by kernel_rfl)) h7 rfl fun c8 a8 w8 h8 => ?_
   rw [hlv]
   exact lv_fin h8 (ver := getV v1 1) (by with_unfolding_all rfl) (by with_unfolding_all rfl) (by with_unfolding_all rfl)
 ·refine ⟨0, xs, [], 0, c4, by omega, by omega, by simp [lvL], ?_⟩
  refine Rel_drop h4 (fun i => ?_) (fun _ => rfl) rfl rfl rfl rfl
  match i with
  | 1 => exact .inl rfl
  | 2 => exact .inl rfl
  | 5 => exact .inl rfl
  | 0 => exact .inr rfl
  | 3 => exact .inr rfl
  | 4 => exact .inr rfl
  | n + 6 => exact .inr rfl
end Go.AI.Rd
end
