/- DERIVED. THE EVALUATOR, THE READER, THE SCANNER: lemmas for Deep. -/
import Derived.Test.YtoppjmglhddleaaGreatBd
import Derived.Test.YtoppjmglhddleaaGreatBf
import Derived.Laws.Cover3
import Derived.Test.YtoppjmglhddleaaGreatBj
import Derived.Laws.Strings
set_option linter.unusedVariables false
set_option linter.unusedSimpArgs false
namespace Go.AI
section
variable {tab : Tab} {call : (τ : STy) → Nat → List AV → τ.T → Option (AV × τ.T)} {τ : STy} {P : Program}
theorem fin_ok (hTab : TabOK P tab) {fi : FnI} {r : AV × τ.T} {w : World} {S : Nat → Nat → Prop} {g : Nat} {κ : Nat → Option Nat} {N : Nat} {ex : Ex} {σ : St} {c : Cx} {a : Act} {w' : World}
  (h : Rel tab.tid ⟨w, Foot τ g κ, S, g⟩ N c σ a w') (hfin : fin tab τ fi ex σ = some r) : bodyPost P fi.fn (RetOK tab.tid τ w S g κ r) (exOf ex) a w' := by
 have main : ∀ {l : List AV} {y : AV} {σ' : St} {q : τ.T}, resAll tab σ fi.fn.results.toList = some l → outs σ l = some (y, σ') → τ.dec σ'.v σ'.fr σ'.s = some q → r = (y, q) →
   a.defers = [] ∧ ∃ v, (results fi.fn a.tmps).run P w' = .ok v w' ∧ RetOK tab.tid τ w S g κ r (.returned v) w' := by
  intro l y σ' q h1 h2 h3 hr
  subst hr
  obtain ⟨us, g1, g2, g3⟩ := resAll_ok hTab h h1
  obtain ⟨c', R, hv⟩ := outs_ok h g2 g3 h2
  have hw := R.hw
  have hg : c'.g = g := R.ds.2
  refine ⟨h.ds.1, (if h : us.toArray.size = 1 then us.toArray[0] else .tuple us.toArray), ?_, ?_⟩
  ·unfold results
   rw [Array.mapM_eq_mapM_toList]
   simp only [Sem.run_bind, Sem.run_map, Sem.run_pure]
   exact congrArg (fun q : Result (List Value) => (q.andThen fun a w' => Result.ok a.toArray w').andThen fun a w' => Result.ok (if h : a.size = 1 then a[0] else Value.tuple a) w') g1
  ·have hold : ∀ b o, c'.S b o → S b o ∨ Foot τ g κ b ∨ w.heap.size ≤ b := fun b o hs' => R.old b o hs'
   by_cases hsn : σ'.s = []
   ·have hτ : τ = .unit := (dec_unit h3).1 hsn
    refine ⟨c'.S, fun _ => none, ⟨fun hne => absurd hτ ((enc_ne τ 0 q).1 hne), R.stsz, fun hne => absurd hτ ((enc_ne τ 0 q).1 hne), fun k b hk => (by cases hk), fun k k' b hk => (by cases hk)⟩, R.keep, R.grow, hold, fun k b hk => (by cases hk), ?_⟩
    have := hv (fun _ => none) (fun k b hk => by cases hk)
    rw [hg] at this
    exact this
   ·obtain ⟨vs', T, r1, r2, r3⟩ := R.s hsn
    obtain ⟨κ0, k1, k2, k3, k4, _⟩ := decRow (gb := c'.g) R.inj r2 r3 h3
    obtain ⟨hm, hgS⟩ := R.gg hsn
    rw [hw, hg] at r1
    rw [hw, hg] at k2
    rw [hg] at hgS
    refine ⟨c'.S, κ0, ⟨fun _ => ⟨vs', T, r1, k1, k2⟩, R.stsz, fun _ => hgS, fun k b hk => ?_, k4⟩, R.keep, R.grow, hold, fun k b hk => ?_, ?_⟩
    ·obtain ⟨q1, k', q2, q3, q4⟩ := k3 k b hk
     have o := R.own k' b q3 q4
     exact ⟨q1, o.2.1, o.2.2.1, by rw [← hg]; exact o.2.2.2.1 hsn⟩
    ·obtain ⟨q1, k', q2, q3, q4⟩ := k3 k b hk
     exact (R.own k' b q3 q4).1
    ·have := hv κ0 (fun k b hk => by
      obtain ⟨q1, k', q2, q3, q4⟩ := k3 k b hk
      exact ⟨k', q3, q4⟩)
     rw [hg] at this
     exact this
 have split : (match resAll tab σ fi.fn.results.toList with
   | some l => match outs σ l with | some (a, σ') => (match τ.dec σ'.v σ'.fr σ'.s with | some p => some (a, p) | none => none) | none => none
   | none => none) = some r → a.defers = [] ∧ ∃ v, (results fi.fn a.tmps).run P w' = .ok v w' ∧ RetOK tab.tid τ w S g κ r (.returned v) w' := by
  intro hq
  split at hq
  rotate_left
  ·cases hq
  rename_i l h1
  split at hq
  rotate_left
  ·cases hq
  rename_i y σ' h2
  split at hq
  rotate_left
  ·cases hq
  rename_i q h3
  simp only [Option.some.injEq] at hq
  exact main h1 h2 h3 hq.symm
 cases ex with
 | exit i => simp [fin] at hfin
 | normal => exact split hfin
 | ret => exact split hfin
theorem runOps_okN {B : Base} {N : Nat} {ops : Array Oper} (hTab : TabOK P tab) (hcall : CallsOK tab.tid P call) {σ2 : St} {Q : Exit → Act → World → Prop} {l2 : List Nat} (hQ : ∀ c' a' w', Rel tab.tid B N c' σ2 a' w' → wpOps P ops Q l2 a' w') :
  ∀ (rest : List Oper) (i : Nat) (σ : St) (c : Cx) (a : Act) (w : World), (∀ j, j < rest.length → rest[j]? = ops[i + j]?) → (∀ o, o ∈ rest → opFine N o = true) → (∀ o, o ∈ rest → o.guard = none) → Rel tab.tid B N c σ a w → runOps tab call τ ops.toList rest σ some = some σ2 →
   wpOps P ops Q (List.range' i rest.length ++ l2) a w
 | [], i, σ, c, a, w, _, _, _, h, hs => by
  simp only [runOps, Option.some.injEq] at hs
  subst hs
  exact hQ _ _ _ h
 | o :: rest, i, σ, c, a, w, hsub, hf, hgs, h, hs => by
  have hi : ops[i]? = some o := by have := hsub 0 (by simp); simp at this; exact this.symm
  have hsub' : ∀ j, j < rest.length → rest[j]? = ops[(i + 1) + j]? := fun j hj => by have := hsub (j + 1) (by simp; omega); simp at this; rw [this]; congr 1; omega
  have hgd := hgs o (by simp)
  rw [List.length_cons, List.range'_succ, List.cons_append, wpOps_cons]
  simp only [runOps, hgd] at hs
  rw [stepOp_bind] at hs
  cases hst : stepOp tab call τ o σ some with
  | none => rw [hst] at hs; cases hs
  | some σ1 =>
   rw [hst] at hs
   exact wpOp_ok hTab hcall hi (hf o (by simp)) h (by unfold gstep gd; rw [hgd]; exact hst) (fun c'' a'' w'' h'' => runOps_okN hTab hcall hQ rest (i + 1) σ1 c'' a'' w'' hsub' (fun o ho => hf o (by simp [ho])) (fun o ho => hgs o (by simp [ho])) h'' hs)
theorem region_hand {B : Base} {N id : Nat} {ops : Array Oper} (hTab : TabOK P tab) (hcall : CallsOK tab.tid P call) {l1 l2 : List Oper} {o : Oper} (hl : ops.toList = l1 ++ o :: l2) (hf : regOK N ops.toList 0 = true) (hgs : l1.all (fun x => x.guard.isNone) = true) (hog : o.guard = none)
  {σ σ1 : St} {c : Cx} {a : Act} {w : World} {Q : Exit → Act → World → Prop} (h : Rel tab.tid B N c σ a w) (h1 : runOps tab call τ ops.toList l1 σ some = some σ1)
  (hand : ∀ c' a' w', Rel tab.tid B N c' σ1 a' w' → o.wp P a' w' (wpOps P ops Q (List.range' (l1.length + 1) l2.length)) Q) : (Code.region id ops false).wp P Q a w := by
 have hget : ∀ j, ops[j]? = (l1 ++ o :: l2)[j]? := fun j => by rw [← hl, Array.getElem?_toList]
 have hlen : ops.size = l1.length + (1 + l2.length) := by have := congrArg List.length hl; simp at this; omega
 refine wp_region ?_
 have hrange : List.range ops.size = List.range' 0 l1.length ++ (l1.length :: List.range' (l1.length + 1) l2.length) := by
  rw [List.range_eq_range', hlen, ← List.range'_append_1, Nat.zero_add, Nat.add_comm 1, List.range'_succ]
 rw [hrange]
 refine runOps_okN hTab hcall (fun c' a' w' h' => ?_) l1 0 σ c a w (fun j hj => by rw [hget, Nat.zero_add, List.getElem?_append_left hj]) (fun x hx => ?_) (fun x hx => ?_) h h1
 ·rw [wpOps_cons]
  unfold wpOp
  rw [hget, List.getElem?_append_right (Nat.le_refl _), Nat.sub_self]
  simp only [List.getElem?_cons_zero]
  rw [wanted_ok h' (o := o) (q := true) (by unfold gd; rw [hog])]
  simp only [if_true]
  exact .inl (hand _ _ _ h')
 ·obtain ⟨i, hi⟩ := List.mem_iff_getElem?.1 (show x ∈ ops.toList by rw [hl]; simp [hx])
  exact (regOK_spec hf i x hi).1
 ·have := List.all_eq_true.1 hgs x hx
  simpa using this
theorem region_rest {B : Base} {N : Nat} {ops : Array Oper} (hTab : TabOK P tab) (hcall : CallsOK tab.tid P call) {l1 l2 : List Oper} {o : Oper} (hl : ops.toList = l1 ++ o :: l2) (hf : regOK N ops.toList 0 = true) {R : Type} {K : St → Option R} {r : R} {Q : Exit → Act → World → Prop}
  (hQ : ∀ σ' c' a' w', Rel tab.tid B N c' σ' a' w' → K σ' = some r → Q .normal a' w') {σ : St} {c : Cx} {a : Act} {w : World} (h : Rel tab.tid B N c σ a w) (hs : runOps tab call τ ops.toList l2 σ K = some r) : wpOps P ops Q (List.range' (l1.length + 1) l2.length) a w := by
 have hget : ∀ j, ops[j]? = (l1 ++ o :: l2)[j]? := fun j => by rw [← hl, Array.getElem?_toList]
 refine runOps_ok hTab hcall hQ l2 (l1.length + 1) σ c a w (fun j => ?_) (fun x hx => ?_) h hs
 ·rw [hget, List.getElem?_append_right (by omega), show l1.length + 1 + j - l1.length = j + 1 by omega, List.getElem?_cons_succ]
 ·obtain ⟨i, hi⟩ := List.mem_iff_getElem?.1 (show x ∈ ops.toList by rw [hl]; simp [hx])
  exact (regOK_spec hf i x hi).1
theorem region_hand_at {B : Base} {N id : Nat} {ops : Array Oper} (hTab : TabOK P tab) (hcall : CallsOK tab.tid P call) (j : Nat) {o : Oper} (hl : ops.toList[j]? = some o) (hf : regOK N ops.toList 0 = true) (hgs : (ops.toList.take j).all (fun x => x.guard.isNone) = true) (hog : o.guard = none)
  {σ σ1 : St} {c : Cx} {a : Act} {w : World} {Q : Exit → Act → World → Prop} (h : Rel tab.tid B N c σ a w) (h1 : runOps tab call τ ops.toList (ops.toList.take j) σ some = some σ1)
  (hand : ∀ c' a' w', Rel tab.tid B N c' σ1 a' w' → o.wp P a' w' (wpOps P ops Q (List.range' (j + 1) (ops.toList.drop (j + 1)).length)) Q) : (Code.region id ops false).wp P Q a w := by
 obtain ⟨hj, ho⟩ := List.getElem?_eq_some_iff.1 hl
 have hsp : ops.toList = ops.toList.take j ++ o :: ops.toList.drop (j + 1) := by
  rw [← ho, List.getElem_cons_drop, List.take_append_drop]
 refine region_hand hTab hcall hsp hf hgs hog h h1 (fun c' a' w' h' => ?_)
 rw [List.length_take, Nat.min_eq_left (Nat.le_of_lt hj)]
 exact hand c' a' w' h'
theorem region_rest_at {B : Base} {N : Nat} {ops : Array Oper} (hTab : TabOK P tab) (hcall : CallsOK tab.tid P call) (j : Nat) (hj : j < ops.toList.length) (hf : regOK N ops.toList 0 = true) {σ2 : St} {Q : Exit → Act → World → Prop}
  {σ : St} {c : Cx} {a : Act} {w : World} (h : Rel tab.tid B N c σ a w) (hs : runOps tab call τ ops.toList (ops.toList.drop (j + 1)) σ some = some σ2) (hQ : ∀ c' a' w', Rel tab.tid B N c' σ2 a' w' → Q .normal a' w') : wpOps P ops Q (List.range' (j + 1) (ops.toList.drop (j + 1)).length) a w := by
 have hsp : ops.toList = ops.toList.take j ++ ops.toList[j] :: ops.toList.drop (j + 1) := by
  rw [List.getElem_cons_drop, List.take_append_drop]
 have := region_rest (K := some) (r := σ2) (Q := Q) hTab hcall hsp hf (fun σ' c' a' w' h' hk => by cases hk; exact hQ _ _ _ h') h hs
 rwa [List.length_take, Nat.min_eq_left (Nat.le_of_lt hj)] at this
theorem segm {B : Base} {N : Nat} (hTab : TabOK P tab) (hcall : CallsOK tab.tid P call) (hmix : P.follows .mixedOrders = true) {masks : Nat → Mask} {lim : Nat} {co : Code} {bid : Nat} {σ σ1 : St} {ex1 : Ex} {c : Cx} {a : Act} {w : World} {Q : Exit → Act → World → Prop}
  (hc : codeOK N co = true) (h : Rel tab.tid B N c σ a w) (he : exec tab call τ masks lim co bid σ (fun ex σ => some (ex, σ)) = some (ex1, σ1)) (hQ : ∀ c' a' w', Rel tab.tid B N c' σ1 a' w' → Q (exOf ex1) a' w') : co.wp P Q a w :=
 exec_ok hTab hcall hmix masks lim co bid σ (fun ex σ => some (ex, σ)) c a w Q hc h he fun ex σ' c' a' w' h' hk => by cases hk; exact hQ _ _ _ h'
theorem bodyPost.mono {fn : Func} {R R' : Ending → World → Prop} (h : ∀ e w, R e w → R' e w) {ex : Exit} {a : Act} {w : World} (hb : bodyPost P fn R ex a w) : bodyPost P fn R' ex a w := by
 unfold bodyPost at hb ⊢
 cases ex <;> first
  | (obtain ⟨h1, v, h2, h3⟩ := hb; exact ⟨h1, v, h2, h _ _ h3⟩)
  | exact ⟨hb.1, h _ _ hb.2⟩
  | exact h _ _ hb
  | exact hb
theorem ret_nil {tid : El → Nat} {τ : STy} {w : World} {S : Nat → Nat → Prop} {g : Nat} {κ : Nat → Option Nat} (e : El) {q : τ.T} {en : Ending} {w' : World} (h : RetOK tid τ w S g κ (.nil, q) en w') : RetOK tid τ w S g κ (.sl e [], q) en w' := by
 cases en with
 | returned u =>
  obtain ⟨S', κ', h1, h2, h3, h4, h5, h6⟩ := h
  refine ⟨S', κ', h1, h2, h3, h4, h5, ?_⟩
  have h6 : FRel w' S' g .nil u := h6
  cases h6
  exact .sl0 _ _ _
 | _ => exact h
theorem eqnil_wp {o : Oper} {T T' i e : Nat} (hop : o.op = .binOp .eql T (.tmp i) (.const (.slice none 0 0)) T') (hu : P.underlying T = some (.slice e)) {p : Option Addr} {n m : Nat} {a : Act} {w : World} (hv : a.eval (.tmp i) = .slice p n m) {next : Act → World → Prop} {Q : Exit → Act → World → Prop}
  (hQ : next (a.put o.dst (.bool p.isNone)) w) : o.wp P a w next Q := by
 obtain ⟨dst, op, type, pos, after, guard⟩ := o
 simp only at hop hQ
 subst hop
 have hq : (binOp .eql T (.slice p n m) (.slice none 0 0)).run P w = .ok (.bool p.isNone) w := by
  simp only [binOp, Sem.run_bind, run_equal_slice_nil w T _ p n m hu, Result.andThen_ok, Sem.run_pure]
 have hg : (eqGuard .eql T (.tmp i) (.const (.slice none 0 0)) (.slice p n m) (.slice none 0 0)).run P w = .ok () w := by unfold eqGuard; split <;> rfl
 have he : a.eval (.const (.slice none 0 0)) = .slice none 0 0 := rfl
 unfold Oper.wp
 have : (execOp a.eval ⟨dst, .binOp .eql T (.tmp i) (.const (.slice none 0 0)) T', type, pos, after, guard⟩).run P w = .ok (.value (.bool p.isNone)) w := by
  simp only [execOp, Sem.run_bind, hv, he, hg, hq, Result.andThen_ok, Sem.run_pure]
 rw [this]
 exact hQ
end
end Go.AI
section
set_option maxRecDepth 100000
namespace Go.AI.Rd
noncomputable abbrev PG : Program := Go.Proofs.Tryz.prog
theorem tabT : TabOK PG T0 := tabOK_of tys_ok eqs_ok cvs_ok
theorem W_ok : CallsOK T0.tid PG W := Wc_ok tabT mix_ok (fnsOK_of fns_ok)
noncomputable def Clone.I : FnI := { fn := Go.Proofs.Tryz.f19, masks := [] }
theorem Clone.ok : FnOK PG 19 Clone.I := ⟨Go.Proofs.Tryz.func19, by kernel_rfl, ⟨_, rfl⟩, by kernel_rfl⟩
noncomputable abbrev cc : Code := Func.code Clone.I.fn
theorem sl_value {w : World} {S : Nat → Nat → Prop} {g : Nat} {e : El} {l : List e.T} {v : Value} (h : FRel w S g (.sl e l) v) : ∃ a n m, v = .slice a n m ∧ (a = none → l = []) := by
 cases h with
 | sl0 e a c => exact ⟨a, 0, c, rfl, fun _ => rfl⟩
 | sl e xs b off c V hc hn _ _ => exact ⟨_, _, _, rfl, fun h => by cases h⟩
theorem clone_ok {w : World} {S : Nat → Nat → Prop} {g : Nat} {κ : Nat → Option Nat} {l : List Tok} {v : Value} (hl : l.length < maxRow) (hs : SRep T0.tid .unit w S g κ ()) (hC : CR w S g [.sl .tok l] [v]) :
  Calls PG 19 [v].toArray w (RetOK T0.tid .unit w S g κ (.sl .tok l, ())) := by
 refine calls_of_wp Clone.ok.fn (c := cc) rfl ?_
 have h0 := start_ok (τ := .unit) (n := Clone.I.fn.ntmps) (p := ()) hs hC
 generalize hN : ([v].toArray ++ Array.replicate (Clone.I.fn.ntmps - [v].toArray.size) Go.undef).size = N at h0
 have hNle : Clone.I.fn.ntmps ≤ N := by rw [← hN]; simp; omega
 have hco : ∀ co, codeOK Clone.I.fn.ntmps co = true → codeOK N co = true := fun co h => codeOK_mono hNle co h
 refine wp_seq (segm tabT W_ok mix_ok (τ := .unit) (masks := FnI.mask Clone.I) (lim := 0) (bid := 0) (hco _ (by kernel_rfl)) h0 rfl fun c1 a1 w1 h1 => ?_)
 refine wp_seq (wp_seq ?_)
 refine region_hand_at tabT W_ok (τ := .unit) 1 rfl (hco (.region 0 _ false) (by kernel_rfl)) rfl rfl h1 rfl fun c2 a2 w2 h2 => ?_
 have hv : FRel c2.w c2.S c2.g (.sl .tok l) (a2.eval (.tmp 3)) := (h2.getO (.tmp 3)).to_F T0.tid rfl
 obtain ⟨p, n, m, hp, hpn⟩ := sl_value hv
 refine eqnil_wp rfl (show PG.underlying _ = some (.slice _) from rfl) hp ?_
 have h3 := h2.put (d := some 4) (x := .bool p.isNone) (v := .bool p.isNone) (fun x hx => by cases hx; exact Nat.lt_of_lt_of_le (by decide) hNle) (AR.of_F T0.tid (.bool _))
 refine region_rest_at tabT W_ok (τ := .unit) 1 (by decide) (hco (.region 0 _ false) (by kernel_rfl)) h3 rfl fun c4 a4 w4 h4 => ?_
 cases p with
 | none =>
  have := hpn rfl
  subst this
  refine segm tabT W_ok mix_ok (τ := .unit) (masks := FnI.mask Clone.I) (lim := 0) (bid := 0) (hco _ (by kernel_rfl)) h4 rfl fun c5 a5 w5 h5 => ?_
  exact bodyPost.mono (fun e w => ret_nil .tok) (fin_ok tabT (ex := .ret) (fi := Clone.I) (r := (.nil, ())) h5 rfl)
 | some ad =>
  refine segm tabT W_ok mix_ok (τ := .unit) (masks := FnI.mask Clone.I) (lim := 0) (bid := 0) (hco _ (by kernel_rfl)) h4 rfl fun c5 a5 w5 h5 => ?_
  exact exec_ok (τ := .unit) tabT W_ok mix_ok (FnI.mask Clone.I) 0 _ 0 _ (fin T0 .unit Clone.I) _ _ _ _ (hco _ (by kernel_rfl)) h5 (if_pos hl) fun ex σ' c' a' w'' h' hk => fin_ok tabT h' hk
def ov (c : Call1) (f0 : Nat) (g : Call1) : Call1 := fun τ f args p => if f = f0 then g τ f args p else c τ f args p
theorem ov_ok {c g : Call1} {f0 : Nat} (hc : CallsOK T0.tid PG c) (hg : ∀ τ args p r, g τ f0 args p = some r → Goes PG f0 ∧ ∀ w S gb κ vs, SRep T0.tid τ w S gb κ p → CR w S gb args vs → Calls PG f0 vs.toArray w (RetOK T0.tid τ w S gb κ r)) : CallsOK T0.tid PG (ov c f0 g) := by
 intro τ f args p r h
 unfold ov at h
 split at h
 ·rename_i hf; subst hf; exact hg τ args p r h
 ·exact hc τ f args p r h
theorem ov_ne {c g : Call1} {f0 f : Nat} {τ : STy} {args : List AV} {p : τ.T} (h : f ≠ f0) : ov c f0 g τ f args p = c τ f args p := if_neg h
theorem ov_eq {c g : Call1} {f0 : Nat} {τ : STy} {args : List AV} {p : τ.T} : ov c f0 g τ f0 args p = g τ f0 args p := if_pos rfl
noncomputable def byBody (c : Call1) (lim : Nat) (fi : FnI) : Call1 := fun τ f args p => evalBody T0 c τ lim fi args p
theorem byBody_ok {c : Call1} (hc : CallsOK T0.tid PG c) {lim f : Nat} {fi : FnI} (hf : FnOK PG f fi) : ∀ τ args p r, byBody c lim fi τ f args p = some r → Goes PG f ∧ ∀ w S gb κ vs, SRep T0.tid τ w S gb κ p → CR w S gb args vs → Calls PG f vs.toArray w (RetOK T0.tid τ w S gb κ r) :=
 fun τ args p r h => ⟨hf.goes, fun w S gb κ vs hs hC => evalBody_ok tabT hc mix_ok hf h hs hC⟩
def clG : Call1 := fun τ _ args p =>
 match τ, args, p with
 | .unit, [.sl .tok l], _ => if l.length < maxRow then some (.sl .tok l, ()) else none
 | _, _, _ => none
def Clone.n : Nat := 19
noncomputable def W1 : Call1 := ov W Clone.n clG
theorem W1_ok : CallsOK T0.tid PG W1 := by
 refine ov_ok W_ok fun τ args p r h => ?_
 unfold clG at h
 split at h
 ·rename_i l _
  split at h
  ·rename_i hl
   simp only [Option.some.injEq] at h
   subst h
   refine ⟨Clone.ok.goes, fun w S gb κ vs hs hC => ?_⟩
   obtain ⟨v, rfl⟩ : ∃ v, vs = [v] := by
    match vs, hC.1 with
    | [v], _ => exact ⟨v, rfl⟩
   exact clone_ok hl hs hC
  ·cases h
 ·cases h
def LIM : Nat := 4294967296
noncomputable def W2 : Call1 := ov W1 NewReader.n (byBody W1 LIM NewReader.I)
theorem W2_ok : CallsOK T0.tid PG W2 := ov_ok W1_ok (byBody_ok W1_ok NewReader.ok)
noncomputable def W3 : Call1 := ov W2 Parse.n (byBody W2 LIM Parse.I)
theorem W3_ok : CallsOK T0.tid PG W3 := ov_ok W2_ok (byBody_ok W2_ok Parse.ok)
theorem NewReader_l0 (c : Call1) (lim : Nat) (l l5 : List Tok) (x7 x8 x9 x10 x11 x12 : Int) (x13 : Bool) (hl : l.length < 4294967290) : ∀ (d i n0 : Nat) (l6 : List Int), i + d = l.length → d < n0 → l6.length ≤ i →
  NewReader.l0 c lim n0 l l.length i l5 l6 x7 x8 x9 x10 x11 x12 x13 () = some (.new [.sl .tok l5, .sl .int (l6 ++ sigIx i (l.drop i)), .int x7, .int x8, .nil, .int x9, .int x10, .int x11, .int x12, .bool x13], ())
 | _, i, 0, l6, hi, hn, h6 => by omega
 | 0, i, n0 + 1, l6, hi, hn, h6 => by
  rw [NewReader.l0_succ, if_neg (by simp; omega), List.drop_of_length_le (by omega)]; simp [sigIx]
 | d + 1, i, n0 + 1, l6, hi, hn, h6 => by
  have hx : l.drop i = l.getD i ⟨0, 0, 0⟩ :: l.drop (i + 1) := by
   rw [List.drop_eq_getElem_cons (by omega), List.getD_eq_getElem?_getD, List.getElem?_eq_getElem (by omega)]; rfl
  rw [NewReader.l0_succ, if_pos (by simp; omega), if_pos (by omega), if_pos (by omega), Int.toNat_natCast, hx]
  have hw : IntKind.i64.wrap ((i : Int) + 1) = ((i + 1 : Nat) : Int) := by rw [wi _ (by omega) (by omega)]; omega
  rw [hw]
  clear hx
  generalize l.getD i ⟨0, 0, 0⟩ = t
  by_cases hk : 10 ≤ t.k
  ·have hsg : sg t = true := by unfold sg; exact decide_eq_true hk
   rw [if_pos (by simpa using hk), if_pos (by simp only [List.length_singleton]; unfold maxRow; omega), NewReader_l0 c lim l l5 x7 x8 x9 x10 x11 x12 x13 hl d (i + 1) n0 _ (by omega) (by omega) (by simp; omega)]
   simp [sigIx, hsg]
  ·have hsg : sg t = false := by unfold sg; exact decide_eq_false hk
   rw [if_neg (by simpa using hk), NewReader_l0 c lim l l5 x7 x8 x9 x10 x11 x12 x13 hl d (i + 1) n0 l6 (by omega) (by omega) (by omega)]
   simp [sigIx, hsg]
theorem W2_NewReader {l : List Tok} (hl : l.length < 4294967290) : W2 .unit NewReader.n [.sl .tok l] () = some (.new [.sl .tok l, .sl .int (sigIx 0 l), .int 0, .int 0, .nil, .int 0, .int 0, .int 0, .int 0, .bool false], ()) := by
 unfold W2
 rw [ov_eq]
 show evalBody T0 W1 .unit LIM NewReader.I [.sl .tok l] () = _
 rw [NewReader_eq]
 have h1 : W1 .unit Clone.n [.sl .tok l] () = some (.sl .tok l, ()) := by
  unfold W1; rw [ov_eq]; exact if_pos (by unfold maxRow; omega)
 have h2 : cX W1 (.s .tok) .unit Clone.n [.sl .tok l] () (fun (x1 : List Tok) _ => NewReader.l0 W1 LIM LIM l ((l).length : Int) 0 x1 [] 0 0 0 0 0 0 false ()) = NewReader.l0 W1 LIM LIM l ((l).length : Int) 0 l [] 0 0 0 0 0 0 false () := by
  unfold cX; rw [h1]; rfl
 refine h2.trans ?_
 have := NewReader_l0 W1 LIM l l 0 0 0 0 0 0 false hl l.length 0 LIM [] (by omega) (by unfold LIM; omega) (by simp)
 exact this
theorem cX_c {h : Sh} {c : Call1} {τ : STy} {f : Nat} {args : List AV} {p q : τ.T} {R : Type} {a : AV} {x : h.T} {K : h.T → τ.T → Option R} (hc : c τ f args p = some (a, q)) (hd : h.dec a = some x) : cX c h τ f args p K = K x q := by
 unfold cX; rw [hc]; unfold shaped; simp [hd]
theorem outA_small {b : A} (h : SM b.row) : ∀ n ∈ (outA b).row, Small n := by
 intro n hn
 unfold outA at hn
 split at hn
 ·cases hn
 ·rcases List.mem_append.1 hn with hn | hn
  ·obtain ⟨x, hx, rfl⟩ := List.mem_map.1 hn
   rw [finA_row] at hx
   exact h x hx
  ·obtain ⟨t, _, rfl⟩ := List.mem_map.1 hn
   exact Small.none_ _ _ _
theorem W3_Parse {l : List Tok} (hl : l.length ≤ 500000000) : ∃ r : Res, (∀ n, r.n = some n → Small n) ∧ W3 .unit Parse.n [.sl .tok l] () = some (resAV r, ()) ∧ W .unit qParse.n [.sl .tok l] () = some (resAV r, ()) := by
 obtain ⟨b, q, p1, u1, hg, hsm, hB, hq, hX, hqX⟩ := both hl
 have hr : b.row.length + b.rest.length + 8 < 4294967264 := by omega
 obtain ⟨pd, hD⟩ := W_Done hg hr
 obtain ⟨qd, hqD⟩ := W_qDone hq hg hr
 have hrow : (outA b).row.length < 1099511627776 := by
  unfold outA
  split
  ·simp
  ·simp only [List.length_append, List.length_map]
   rw [finA_row]; omega
 have hrow2 : (outA b).row.length < 4294967296 := by
  unfold outA
  split
  ·simp
  ·simp only [List.length_append, List.length_map]
   rw [finA_row]; omega
 refine ⟨resOf (outA b), fun n hn => ?_, ?_, ?_⟩
 ·unfold resOf at hn
  simp only at hn
  split at hn
  ·exact outA_small hsm n (List.mem_of_find?_eq_some hn)
  ·cases hn
 ·unfold W3
  rw [ov_eq]
  show evalBody T0 W2 .unit LIM Parse.I [.sl .tok l] () = _
  rw [Parse_eq, cX_c (h := .n .prog) (x := toP (a0 l)) (W2_NewReader (by omega)) rfl]
  have e1 : W2 .prog X.n [.rdr 0, .bool false] (toP (a0 l)) = some (p1, toP b) := by
   unfold W2 W1; rw [ov_ne (by decide), ov_ne (by decide)]; exact hX
  have e2 : W2 .prog Done.n [.rdr 0] (toP b) = some (outAV (outA b), pd) := by
   unfold W2 W1; rw [ov_ne (by decide), ov_ne (by decide)]; exact hD
  rw [cX_c (h := .u) (x := ()) e1 rfl, cX_done e2 (outA_row b)]
  have := Parse_l0 W2 LIM (outA b).ok (outA b).row 0 0 0 0 0 0 (outA b).d.c (outA b).d.f (outA b).d.t hrow (outA b).row.length 0 LIM (by omega) (by unfold LIM; omega)
  refine Eq.trans this ?_
  have hok := outA_row b
  unfold resOf resAV
  cases ho : (outA b).ok with
  | true => simp
  | false => simp [hok ho]
 ·refine fx qParse.fd LIM ?_
  have e0 : W .unit qNewReader.n [.sl .tok l] () = some (.new [.sl .tok l, .int 0, .nil, .nil, .int 0, .int 0, .int 0, .int 0, .bool false], ()) := by
   refine fx qNewReader.fd 0 ?_
   rw [qNewReader_eq, if_pos (by unfold maxRow; omega)]
  rw [qParse_eq, cX_c (h := .n .ref) (x := toQ (a0 l)) e0 rfl, cX_c (h := .u) (x := ()) hqX rfl, cX_done hqD (outA_row b)]
  have hok := outA_row b
  unfold resOf resAV
  cases ho : (outA b).ok with
  | true =>
   have := qParse_l0 W LIM (outA b).row 0 0 0 0 0 0 (outA b).d.c (outA b).d.f (outA b).d.t hrow (outA b).row.length 0 LIM (by omega) (by unfold LIM; omega)
   simp only [Bool.not_true, Bool.false_eq_true, if_false, if_true]
   refine Eq.trans this ?_
   simp
  | false => simp [nodeAV]
end Go.AI.Rd
end
namespace Go.AI.Rd
def nodeD (o : Option Node) : Node := match o with | some n => n | none => .mk 0 0 0 []
abbrev True' (w : World) : Ending → World → Prop := fun e w' => match e with | .returned u => u = .bool true ∧ Keep w (fun _ => False) w' | _ => False
theorem true_of {w : World} {S : Nat → Nat → Prop} {e : Ending} {w' : World} (h : RetOK T0.tid .unit w S 0 (fun _ => none) (.bool true, ()) e w') : True' w e w' := by
 cases e with
 | returned u =>
  obtain ⟨S', κ', h1, h2, h3, h4, h5, h6⟩ := h
  have h6 : FRel w' S' 0 (.bool true) u := h6
  cases h6
  refine ⟨rfl, h2.os, h2.tape, h2.output, h2.size, fun b hb _ => h2.block b hb ?_⟩
  rintro (⟨hF, _⟩ | ⟨k, hF⟩)
  ·exact absurd rfl hF
  ·cases hF
 | _ => exact h
theorem W3_W {τ : STy} {f : Nat} {args : List AV} {p : τ.T} (h1 : f ≠ Parse.n) (h2 : f ≠ NewReader.n) (h3 : f ≠ Clone.n) : W3 τ f args p = W τ f args p := by
 unfold W3 W2 W1
 rw [ov_ne h1, ov_ne h2, ov_ne h3]
theorem dec_res (r : Res) : Sh.dec (.t3 (.e .node) (.e .diag) .b) (resAV r) = some (nodeD r.n, r.d, r.ok) := by
 obtain ⟨n, d, ok⟩ := r
 cases n with
 | none => rfl
 | some n => cases n; rfl
theorem law_calls {f : Nat} {fi : FnI} {args : List AV} {vs : List Value} (hf : FnOK PG f fi) (h : evalBody T0 W3 .unit LIM fi args () = some (.bool true, ())) (hC : ∀ w S g, CR w S g args vs) (w : World) : Calls PG f vs.toArray w (True' w) :=
 ((byBody_ok W3_ok hf .unit args () _ h).2 w (fun _ _ => False) 0 (fun _ => none) vs ⟨fun h => absurd rfl h, fun _ _ h => h.elim, fun h => absurd rfl h, fun k b hk => (by cases hk), fun k k' b hk => (by cases hk)⟩ (hC _ _ _)).mono fun e w' he => true_of he
theorem both_same {l : List Tok} (hl : l.length ≤ 500000000) :
  (cX W3 (.t3 (.e .node) (.e .diag) .b) .unit Parse.n [.sl .tok l] () fun (x2 : Node × Diag × Bool) _ =>
   cX W3 (.t3 (.e .node) (.e .diag) .b) .unit qParse.n [.sl .tok l] () fun (x3 : Node × Diag × Bool) _ =>
   cX W3 .b .unit sameNode.n [.agg [.int (Node.k x2.1), .int (Node.f x2.1), .int (Node.t x2.1), .sl .node (Node.kids x2.1)], .agg [.int (Node.k x3.1), .int (Node.f x3.1), .int (Node.t x3.1), .sl .node (Node.kids x3.1)]] () fun (x4 : Bool) _ =>
   if x4 then if (decide ((⟨x2.2.1.c, x2.2.1.f, x2.2.1.t⟩ : Tok) = ⟨x3.2.1.c, x3.2.1.f, x3.2.1.t⟩)) then some (.bool (x2.2.2 == x3.2.2), ()) else some (.bool false, ()) else some (.bool false, ())) = some (AV.bool true, ()) := by
 obtain ⟨r, hsm, hP, hQ⟩ := W3_Parse hl
 have hsn : Small (nodeD r.n) := by
  cases hr : r.n with
  | some n => exact hsm n hr
  | none => exact Small.none_ _ _ _
 have hsame := same_ok hsn
 unfold ndAV at hsame
 rw [cX_c (h := .t3 (.e .node) (.e .diag) .b) (x := (nodeD r.n, r.d, r.ok)) hP (dec_res r), cX_c (h := .t3 (.e .node) (.e .diag) .b) (x := (nodeD r.n, r.d, r.ok)) ((W3_W (by decide) (by decide) (by decide)).trans hQ) (dec_res r),
  cX_c (h := .b) (x := true) ((W3_W (by decide) (by decide) (by decide)).trans hsame) rfl]
 simp
end Go.AI.Rd
section
set_option maxRecDepth 100000
namespace Go.AI.Sn
open Rd
def LM : Nat := 4294967296
def Ev (o : Option (AV × Unit)) (Q : AV → Prop) : Prop := ∃ a, o = some (a, ()) ∧ Q a
section
variable {Q : AV → Prop} {A B : Option (AV × Unit)}
theorem Ev.no (h : False) : Ev A Q := h.elim
theorem Ev.pr {c : Prop} {_ : Decidable c} (h1 : c → Ev A Q) (h2 : ¬ c → Ev B Q) : Ev (if c then A else B) Q := by
 split
 ·exact h1 ‹_›
 ·exact h2 ‹_›
theorem Ev.dec {c : Prop} {_ : Decidable c} (h1 : c → Ev A Q) (h2 : ¬ c → Ev B Q) : Ev (if decide c = true then A else B) Q := Ev.pr (fun h => h1 (of_decide_eq_true h)) fun h => h2 fun h' => h (decide_eq_true h')
theorem Ev.and {c d : Prop} {_ : Decidable c} {_ : Decidable d} (h1 : c ∧ d → Ev A Q) (h2 : ¬ (c ∧ d) → Ev B Q) : Ev (if (decide c && decide d) = true then A else B) Q :=
 Ev.pr (fun h => h1 (by simpa using h)) fun h => h2 fun h' => h (by simpa using h')
theorem Ev.and3 {c d e : Prop} {_ : Decidable c} {_ : Decidable d} {_ : Decidable e} (h1 : c ∧ d ∧ e → Ev A Q) (h2 : ¬ (c ∧ d ∧ e) → Ev B Q) : Ev (if (decide c && (decide d && decide e)) = true then A else B) Q :=
 Ev.pr (fun h => h1 (by simpa using h)) fun h => h2 fun h' => h (by simpa using h')
theorem Ev.bl {b : Bool} (h1 : b = true → Ev A Q) (h2 : b = false → Ev B Q) : Ev (if b = true then A else B) Q := Ev.pr h1 fun h => h2 (by simpa using h)
theorem Ev.nb {b : Bool} (h1 : b = false → Ev A Q) (h2 : b = true → Ev B Q) : Ev (if (!b) = true then A else B) Q := Ev.pr (fun h => h1 (by simpa using h)) fun h => h2 (by simpa using h)
end
def Sp (f : Nat) (args : List AV) (h : Sh) (P : h.T → Prop) : Prop := ∃ x, W .unit f args () = some (h.enc x, ()) ∧ P x
def Qs (h : Sh) (P : h.T → Prop) : AV → Prop := fun a => ∃ x, a = h.enc x ∧ P x
theorem Sp.of {f : Nat} {fi : FnI} {args : List AV} {h : Sh} {P : h.T → Prop} (hf : findN fnsT f = some fi) (e : Ev (evalBody T0 W .unit LM fi args ()) (Qs h P)) : Sp f args h P := by
 obtain ⟨a, h1, x, h2, h3⟩ := e
 subst h2
 exact ⟨x, fx hf LM h1, h3⟩
theorem Sp.mono {f : Nat} {args : List AV} {h : Sh} {P R : h.T → Prop} (s : Sp f args h P) (hh : ∀ x, P x → R x) : Sp f args h R := by
 obtain ⟨x, h1, h2⟩ := s
 exact ⟨x, h1, hh x h2⟩
theorem Ev.mono {h : Sh} {P R : h.T → Prop} {o : Option (AV × Unit)} (e : Ev o (Qs h P)) (hh : ∀ x, P x → R x) : Ev o (Qs h R) := by
 obtain ⟨a, h1, x, h2, h3⟩ := e
 exact ⟨a, h1, x, h2, hh x h3⟩
theorem Ev.cx {h : Sh} {f : Nat} {args : List AV} {P : h.T → Prop} {K : h.T → Unit → Option (AV × Unit)} {Q : AV → Prop} (hs : Sp f args h P) (hd : ∀ x, h.dec (h.enc x) = some x) (k : ∀ x, P x → Ev (K x ()) Q) : Ev (cX W h .unit f args () K) Q := by
 obtain ⟨x, h1, h2⟩ := hs
 obtain ⟨a, h3, h4⟩ := k x h2
 refine ⟨a, ?_, h4⟩
 unfold cX
 rw [h1]
 unfold shaped
 simp only [Option.bind_some, hd, Option.map_some]
 exact h3
section
theorem retI {P : Int → Prop} {n : Int} (h : P n) : Ev (some (.int n, ())) (Qs .i P) := ⟨_, rfl, n, rfl, h⟩
theorem retB {P : Bool → Prop} {n : Bool} (h : P n) : Ev (some (.bool n, ())) (Qs .b P) := ⟨_, rfl, n, rfl, h⟩
theorem retS {P : ByteArray → Prop} {n : ByteArray} (h : P n) : Ev (some (.str n, ())) (Qs .str P) := ⟨_, rfl, n, rfl, h⟩
theorem retL {e : El} {P : List e.T → Prop} {n : List e.T} (h : P n) : Ev (some (.sl e n, ())) (Qs (.s e) P) := ⟨_, rfl, n, rfl, h⟩
theorem rII {P : Int × Int → Prop} {x : Int} {y : Int} (h : P (x, y)) : Ev (some (.tup [.int x, .int y], ())) (Qs (.t2 .i .i) P) := ⟨_, rfl, (x, y), rfl, h⟩
theorem rSB {P : ByteArray × Bool → Prop} {x : ByteArray} {y : Bool} (h : P (x, y)) : Ev (some (.tup [.str x, .bool y], ())) (Qs (.t2 .str .b) P) := ⟨_, rfl, (x, y), rfl, h⟩
theorem rIB {P : Int × Bool → Prop} {x : Int} {y : Bool} (h : P (x, y)) : Ev (some (.tup [.int x, .bool y], ())) (Qs (.t2 .i .b) P) := ⟨_, rfl, (x, y), rfl, h⟩
theorem rISB {P : Int × ByteArray × Bool → Prop} {x : Int} {y : ByteArray} {z : Bool} (h : P (x, y, z)) : Ev (some (.tup [.int x, .str y, .bool z], ())) (Qs (.t3 .i .str .b) P) := ⟨_, rfl, (x, y, z), rfl, h⟩
theorem rISI {P : Int × ByteArray × Int → Prop} {x : Int} {y : ByteArray} {z : Int} (h : P (x, y, z)) : Ev (some (.tup [.int x, .str y, .int z], ())) (Qs (.t3 .i .str .i) P) := ⟨_, rfl, (x, y, z), rfl, h⟩
theorem rSII {P : ByteArray × Int × Int → Prop} {x : ByteArray} {y : Int} {z : Int} (h : P (x, y, z)) : Ev (some (.tup [.str x, .int y, .int z], ())) (Qs (.t3 .str .i .i) P) := ⟨_, rfl, (x, y, z), rfl, h⟩
theorem rIII {P : Int × Int × Int → Prop} {x : Int} {y : Int} {z : Int} (h : P (x, y, z)) : Ev (some (.tup [.int x, .int y, .int z], ())) (Qs (.t3 .i .i .i) P) := ⟨_, rfl, (x, y, z), rfl, h⟩
theorem retTD {P : Tok × Diag → Prop} {a b c d e f : Int} (h : P (⟨a, b, c⟩, ⟨d, e, f⟩)) : Ev (some (.tup [.agg [.int a, .int b, .int c], .agg [.int d, .int e, .int f]], ())) (Qs (.t2 (.e .tok) (.e .diag)) P) := ⟨_, rfl, (⟨a, b, c⟩, ⟨d, e, f⟩), rfl, h⟩
end
theorem szx (s : ByteArray) (a b : Nat) : (s.extract a b).size = min b s.size - a := ByteArray.size_extract
theorem szL (l : List Int) : (strOfL l).size = l.length := by unfold strOfL ByteArray.size; simp
theorem more_sp (s : ByteArray) (i lo hi : Int) (h0 : 0 ≤ i) : Sp s1more.n [.str s, .int i, .ik .u8 lo, .ik .u8 hi] .b (fun (b : Bool) => b = true → i < s.size) := by
 refine Sp.of s1more.fd ?_
 rw [s1more_eq]
 repeat' (first | exact Ev.no (by omega) | with_reducible (first | (first | apply Ev.and3 | apply Ev.and | apply Ev.dec | apply Ev.nb | apply Ev.bl | apply Ev.pr) <;> intro _ | apply retI | apply retB | apply retS | apply retTD | apply rII | apply rSB | apply rIB | apply rISB | apply rISI | apply rSII | apply rIII))
 all_goals (intro _; first | omega | contradiction)
theorem Width_sp (s : ByteArray) (i : Int) (hs : s.size < 1073741824) (h0 : 0 ≤ i) (h1 : i < s.size) : Sp Width.n [.str s, .int i] .i (fun (n : Int) => 0 ≤ n ∧ n ≤ 4 ∧ (n ≠ 0 → i + n ≤ s.size)) := by
 refine Sp.of Width.fd ?_
 rw [Width_eq]
 have hj : ∀ a lo hi, Ev (Width.j1 W LM s i a lo hi ()) (Qs .i fun (n : Int) => 0 ≤ n ∧ n ≤ 4 ∧ (n ≠ 0 → i + n ≤ s.size)) := by
  intro a lo hi
  unfold Width.j1
  (try simp (disch := omega) only [wi])
  refine Ev.cx (more_sp s _ _ _ (by first | omega | (simp (disch := omega) only [wi]; omega) | (dsimp only; omega))) (fun _ => rfl) fun x hx => ?_
  repeat' (first | exact Ev.no (by omega) | with_reducible (first | (first | apply Ev.and3 | apply Ev.and | apply Ev.dec | apply Ev.nb | apply Ev.bl | apply Ev.pr) <;> intro _ | apply retI | apply retB | apply retS | apply retTD | apply rII | apply rSB | apply rIB | apply rISB | apply rISI | apply rSII | apply rIII))
  ·omega
  refine Ev.cx (more_sp s _ _ _ (by first | omega | (simp (disch := omega) only [wi]; omega) | (dsimp only; omega))) (fun _ => rfl) fun y hy => ?_
  repeat' (first | exact Ev.no (by omega) | with_reducible (first | (first | apply Ev.and3 | apply Ev.and | apply Ev.dec | apply Ev.nb | apply Ev.bl | apply Ev.pr) <;> intro _ | apply retI | apply retB | apply retS | apply retTD | apply rII | apply rSB | apply rIB | apply rISB | apply rISI | apply rSII | apply rIII))
  ·omega
  ·have := hy ‹_›; omega
  refine Ev.cx (more_sp s _ _ _ (by first | omega | (simp (disch := omega) only [wi]; omega) | (dsimp only; omega))) (fun _ => rfl) fun z hz => ?_
  repeat' (first | exact Ev.no (by omega) | with_reducible (first | (first | apply Ev.and3 | apply Ev.and | apply Ev.dec | apply Ev.nb | apply Ev.bl | apply Ev.pr) <;> intro _ | apply retI | apply retB | apply retS | apply retTD | apply rII | apply rSB | apply rIB | apply rISB | apply rISI | apply rSII | apply rIII))
  ·have := hz ‹_›; omega
  ·omega
 (try simp (disch := omega) only [wi])
 repeat' (first | exact Ev.no (by omega) | with_reducible (first | (first | apply Ev.and3 | apply Ev.and | apply Ev.dec | apply Ev.nb | apply Ev.bl | apply Ev.pr) <;> intro _ | apply retI | apply retB | apply retS | apply retTD | apply rII | apply rSB | apply rIB | apply rISB | apply rISI | apply rSII | apply rIII))
 ·omega
 ·omega
 ·omega
 ·refine Ev.cx (more_sp s _ _ _ (by first | omega | (simp (disch := omega) only [wi]; omega) | (dsimp only; omega))) (fun _ => rfl) fun x hx => ?_
  repeat' (first | exact Ev.no (by omega) | with_reducible (first | (first | apply Ev.and3 | apply Ev.and | apply Ev.dec | apply Ev.nb | apply Ev.bl | apply Ev.pr) <;> intro _ | apply retI | apply retB | apply retS | apply retTD | apply rII | apply rSB | apply rIB | apply rISB | apply rISI | apply rSII | apply rIII))
  ·have := hx ‹_›; omega
  ·omega
 ·unfold Width.j0
  repeat' (first | exact Ev.no (by omega) | with_reducible (first | (first | apply Ev.and3 | apply Ev.and | apply Ev.dec | apply Ev.nb | apply Ev.bl | apply Ev.pr) <;> intro _ | apply retI | apply retB | apply retS | apply retTD | apply rII | apply rSB | apply rIB | apply rISB | apply rISI | apply rSII | apply rIII))
  all_goals exact hj _ _ _
theorem said_sp (s : ByteArray) (i : Int) (hs : s.size < 1073741824) (h0 : 0 ≤ i) (h1 : i < s.size) : Sp said.n [.str s, .int i] .b (fun _ => True) := by
 refine Sp.of said.fd ?_
 rw [said_eq]
 refine Ev.cx (Width_sp s i hs h0 h1) (fun _ => rfl) fun x hx => ?_
 (try simp (disch := omega) only [wi])
 repeat' (first | exact Ev.no (by omega) | with_reducible (first | (first | apply Ev.and3 | apply Ev.and | apply Ev.dec | apply Ev.nb | apply Ev.bl | apply Ev.pr) <;> intro _ | apply retI | apply retB | apply retS | apply retTD | apply rII | apply rSB | apply rIB | apply rISB | apply rISI | apply rSII | apply rIII))
 all_goals trivial
theorem letter_sp (c : Int) : Sp letter.n [.ik .u8 c] .b (fun _ => True) := by
 refine Sp.of letter.fd ?_
 rw [letter_eq]
 repeat' (first | exact Ev.no (by omega) | with_reducible (first | (first | apply Ev.and3 | apply Ev.and | apply Ev.dec | apply Ev.nb | apply Ev.bl | apply Ev.pr) <;> intro _ | apply retI | apply retB | apply retS | apply retTD | apply rII | apply rSB | apply rIB | apply rISB | apply rISI | apply rSII | apply rIII))
 all_goals trivial
theorem digit_sp (c : Int) : Sp digit.n [.ik .u8 c] .b (fun _ => True) := by
 refine Sp.of digit.fd ?_
 rw [digit_eq]
 repeat' (first | exact Ev.no (by omega) | with_reducible (first | (first | apply Ev.and3 | apply Ev.and | apply Ev.dec | apply Ev.nb | apply Ev.bl | apply Ev.pr) <;> intro _ | apply retI | apply retB | apply retS | apply retTD | apply rII | apply rSB | apply rIB | apply rISB | apply rISI | apply rSII | apply rIII))
 all_goals trivial
theorem blank_sp (c : Int) : Sp blank.n [.ik .u8 c] .b (fun _ => True) := by
 refine Sp.of blank.fd ?_
 rw [blank_eq]
 repeat' (first | exact Ev.no (by omega) | with_reducible (first | (first | apply Ev.and3 | apply Ev.and | apply Ev.dec | apply Ev.nb | apply Ev.bl | apply Ev.pr) <;> intro _ | apply retI | apply retB | apply retS | apply retTD | apply rII | apply rSB | apply rIB | apply rISB | apply rISI | apply rSII | apply rIII))
 all_goals trivial
theorem sEnds_sp (c : Int) : Sp sEnds.n [.int c] .b (fun _ => True) := by
 refine Sp.of sEnds.fd ?_
 rw [sEnds_eq]
 repeat' (first | exact Ev.no (by omega) | with_reducible (first | (first | apply Ev.and3 | apply Ev.and | apply Ev.dec | apply Ev.nb | apply Ev.bl | apply Ev.pr) <;> intro _ | apply retI | apply retB | apply retS | apply retTD | apply rII | apply rSB | apply rIB | apply rISB | apply rISI | apply rSII | apply rIII))
 all_goals trivial
theorem Digit_sp (c : Int) : Sp sDigit.n [.ik .u8 c] .i (fun _ => True) := by
 refine Sp.of sDigit.fd ?_
 rw [sDigit_eq]
 simp only [sDigit.j0, sDigit.j1]
 repeat' (first | exact Ev.no (by omega) | with_reducible (first | (first | apply Ev.and3 | apply Ev.and | apply Ev.dec | apply Ev.nb | apply Ev.bl | apply Ev.pr) <;> intro _ | apply retI | apply retB | apply retS | apply retTD | apply rII | apply rSB | apply rIB | apply rISB | apply rISI | apply rSII | apply rIII))
 all_goals trivial
def cntB : List UInt8 → Nat
 | [] => 0
 | b :: r => (if b.toNat = 32 then 1 else 0) + cntB r
theorem cntB_cons (b : UInt8) (r : List UInt8) : cntB (b :: r) = (if b.toNat = 32 then 1 else 0) + cntB r := rfl
theorem bt_get (s : ByteArray) (i : Nat) (h : i < s.size) : bt s i = ((s.data.toList[i]'h).toNat : Int) := by
 unfold bt
 rw [Int.toNat_natCast, getElem?_pos s i h]
 rfl
theorem cut_l0 (s : ByteArray) (hs : s.size < 1073741824) : ∀ (d i n0 : Nat) (l : List ByteArray) (w : ByteArray), i + d = s.size → d < n0 → l.length ≤ i → w.size ≤ i →
  Ev (s2cut.l0 W LM n0 s l w i ()) (Qs (.s .str) fun (r : List ByteArray) => r.length = l.length + cntB (s.data.toList.drop i) + 1)
 | d, i, 0, l, w, hi, hn, hl, hw => by omega
 | 0, i, n0 + 1, l, w, hi, hn, hl, hw => by
  rw [s2cut.l0_succ]
  have hm : maxRow = 4294967296 := rfl
  have hlen : s.data.toList.length = s.size := rfl
  have hz : s.data.toList.drop i = [] := List.drop_of_length_le (by rw [hlen]; omega)
  simp only [List.length_singleton]
  repeat' (first | exact Ev.no (by omega) | with_reducible (first | (first | apply Ev.and3 | apply Ev.and | apply Ev.dec | apply Ev.nb | apply Ev.bl | apply Ev.pr) <;> intro _ | apply retI | apply retB | apply retS | apply retTD | apply rII | apply rSB | apply rIB | apply rISB | apply rISI | apply rSII | apply rIII))
  exact retL (by rw [hz]; simp [cntB])
 | d + 1, i, n0 + 1, l, w, hi, hn, hl, hw => by
  rw [s2cut.l0_succ]
  have hm : maxRow = 4294967296 := rfl
  have hlen : s.data.toList.length = s.size := rfl
  have hx : s.data.toList.drop i = s.data.toList[i] :: s.data.toList.drop (i + 1) := List.drop_eq_getElem_cons (by omega)
  have hb := bt_get s i (by omega)
  have e1 : (IntKind.i64.wrap ((i : Int) + 1)) = ((i + 1 : Nat) : Int) := by rw [wi _ (by omega) (by omega)]; omega
  rw [e1]
  have hsz := szx s i (i + 1)
  simp only [Int.toNat_natCast, List.length_singleton]
  rw [hx]
  generalize s.data.toList[i] = b at hb
  repeat' (first | exact Ev.no (by omega) | with_reducible (first | (first | apply Ev.and3 | apply Ev.and | apply Ev.dec | apply Ev.nb | apply Ev.bl | apply Ev.pr) <;> intro _ | apply retI | apply retB | apply retS | apply retTD | apply rII | apply rSB | apply rIB | apply rISB | apply rISI | apply rSII | apply rIII))
  ·refine (cut_l0 s hs d (i + 1) n0 l _ (by omega) (by omega) (by omega) (by rw [ByteArray.size_append]; omega)).mono fun r hr => ?_
   rw [hr, cntB_cons, if_neg (by omega)]
   omega
  ·refine (cut_l0 s hs d (i + 1) n0 (l ++ [w]) ⟨#[]⟩ (by omega) (by omega) (by simp; omega) (Nat.zero_le _)).mono fun r hr => ?_
   rw [hr, cntB_cons, if_pos (by omega)]
   simp only [List.length_append, List.length_singleton]
   omega
theorem cut_sp (s : ByteArray) (hs : s.size < 1073741824) : Sp s2cut.n [.str s] (.s .str) (fun (r : List ByteArray) => r.length = cntB s.data.toList + 1) := by
 refine Sp.of s2cut.fd ?_
 rw [s2cut_eq]
 have := cut_l0 s hs s.size 0 LM [] ⟨#[]⟩ (by omega) (by unfold LM; omega) (by simp) (by show (0 : Nat) ≤ _; omega)
 simpa using this
theorem Signs_sp : Sp Signs.n [] (.s .str) (fun (r : List ByteArray) => r.length = 46) := by
 refine Sp.of Signs.fd ?_
 rw [Signs_eq]
 refine Ev.cx (cut_sp _ (by decide)) (fun _ => rfl) fun x hx => ?_
 exact retL (hx.trans (by decide))
theorem Keywords_sp : Sp Keywords.n [] (.s .str) (fun (r : List ByteArray) => r.length = 21) := by
 refine Sp.of Keywords.fd ?_
 rw [Keywords_eq]
 refine Ev.cx (cut_sp _ (by decide)) (fun _ => rfl) fun x hx => ?_
 exact retL (hx.trans (by decide))
end Go.AI.Sn
end
section
set_option maxRecDepth 100000
namespace Go.AI.Sn
open Rd
theorem Keyword_l0 (s : ByteArray) (l : List ByteArray) (hl : l.length = 21) : ∀ (n0 : Nat) (i : Int), 0 ≤ i → i ≤ 21 → 21 - i < n0 →
  Ev (Keyword.l0 W LM n0 s l l.length i ()) (Qs .i fun (n : Int) => n = 0 ∨ 70 ≤ n ∧ n ≤ 90)
 | 0, i, h0, h1, h2 => by omega
 | n0 + 1, i, h0, h1, h2 => by
  rw [Keyword.l0_succ]
  (try simp (disch := omega) only [wi])
  repeat' (first | exact Ev.no (by omega) | with_reducible (first | (first | apply Ev.and3 | apply Ev.and | apply Ev.dec | apply Ev.nb | apply Ev.bl | apply Ev.pr) <;> intro _ | apply retI | apply retB | apply retS | apply retTD | apply rII | apply rSB | apply rIB | apply rISB | apply rISI | apply rSII | apply rIII))
  ·omega
  ·exact Keyword_l0 s l hl n0 _ (by omega) (by omega) (by omega)
  ·omega
theorem Keyword_sp (s : ByteArray) : Sp Keyword.n [.str s] .i (fun (n : Int) => n = 0 ∨ 70 ≤ n ∧ n ≤ 90) := by
 refine Sp.of Keyword.fd ?_
 rw [Keyword_eq]
 refine Ev.cx Keywords_sp (fun _ => rfl) fun x hx => ?_
 exact Keyword_l0 s x hx _ 0 (by omega) (by omega) (by unfold LM; omega)
theorem Operator_l0 (s : ByteArray) (hs : s.size < 1073741824) (l : List ByteArray) (hl : l.length = 46) : ∀ (n0 : Nat) (k n i : Int), 0 ≤ i → i ≤ 46 → 46 - i < n0 → 0 ≤ n → n ≤ s.size → (k ≠ 0 → 1 ≤ n ∧ 20 ≤ k ∧ k ≤ 65) →
  Ev (Operator.l0 W LM n0 s k n l l.length i ()) (Qs (.t2 .i .i) fun (x : Int × Int) => 0 ≤ x.2 ∧ x.2 ≤ s.size ∧ (x.1 ≠ 0 → 1 ≤ x.2 ∧ (x.1 = 15 ∨ 20 ≤ x.1 ∧ x.1 ≤ 65)))
 | 0, k, n, i, h0, h1, h2, h3, h4, h5 => by omega
 | n0 + 1, k, n, i, h0, h1, h2, h3, h4, h5 => by
  rw [Operator.l0_succ]
  (try simp (disch := omega) only [wi])
  generalize List.getD l (Int.toNat i) ByteArray.empty = w
  repeat' (first | exact Ev.no (by omega) | with_reducible (first | (first | apply Ev.and3 | apply Ev.and | apply Ev.dec | apply Ev.nb | apply Ev.bl | apply Ev.pr) <;> intro _ | apply retI | apply retB | apply retS | apply retTD | apply rII | apply rSB | apply rIB | apply rISB | apply rISI | apply rSII | apply rIII))
  ·exact Operator_l0 s hs l hl n0 _ _ _ (by omega) (by omega) (by omega) (by omega) (by omega) (by omega)
  ·exact Operator_l0 s hs l hl n0 _ _ _ (by omega) (by omega) (by omega) (by omega) (by omega) (by omega)
  ·exact Operator_l0 s hs l hl n0 _ _ _ (by omega) (by omega) (by omega) (by omega) (by omega) (by omega)
  ·exact Operator_l0 s hs l hl n0 _ _ _ (by omega) (by omega) (by omega) (by omega) (by omega) (by omega)
  ·omega
theorem Operator_sp (s : ByteArray) (hs : s.size < 1073741824) : Sp Operator.n [.str s] (.t2 .i .i) (fun (x : Int × Int) => 0 ≤ x.2 ∧ x.2 ≤ s.size ∧ (x.1 ≠ 0 → 1 ≤ x.2 ∧ (x.1 = 15 ∨ 20 ≤ x.1 ∧ x.1 ≤ 65))) := by
 refine Sp.of Operator.fd ?_
 rw [Operator_eq]
 have hj : Ev (Operator.j0 W LM s 0 0 ()) (Qs (.t2 .i .i) fun (x : Int × Int) => 0 ≤ x.2 ∧ x.2 ≤ s.size ∧ (x.1 ≠ 0 → 1 ≤ x.2 ∧ (x.1 = 15 ∨ 20 ≤ x.1 ∧ x.1 ≤ 65))) := by
  unfold Operator.j0
  refine Ev.cx Signs_sp (fun _ => rfl) fun x hx => ?_
  exact Operator_l0 s hs x hx _ 0 0 0 (by omega) (by omega) (by unfold LM; omega) (by omega) (by omega) (by omega)
 repeat' (first | exact Ev.no (by omega) | with_reducible (first | (first | apply Ev.and3 | apply Ev.and | apply Ev.dec | apply Ev.nb | apply Ev.bl | apply Ev.pr) <;> intro _ | apply retI | apply retB | apply retS | apply retTD | apply rII | apply rSB | apply rIB | apply rISB | apply rISI | apply rSII | apply rIII))
 ·omega
 ·exact hj
 ·exact hj
theorem number_l0 (s : ByteArray) (hs : s.size < 1073741824) (at_ m b : Int) (h0 : 0 ≤ at_) (h1 : 0 ≤ m) (h2 : at_ + m ≤ s.size) : ∀ (n0 : Nat) (x i : Int), at_ ≤ i → at_ + m - i < n0 → i ≤ at_ + m →
  Ev (number.l0 W LM n0 s at_ m b x i ()) (Qs .i fun (_ : Int) => True)
 | 0, x, i, h3, h4, h5 => by omega
 | n0 + 1, x, i, h3, h4, h5 => by
  rw [number.l0_succ]
  (try simp (disch := omega) only [wi])
  repeat' (first | exact Ev.no (by omega) | with_reducible (first | (first | apply Ev.and3 | apply Ev.and | apply Ev.dec | apply Ev.nb | apply Ev.bl | apply Ev.pr) <;> intro _ | apply retI | apply retB | apply retS | apply retTD | apply rII | apply rSB | apply rIB | apply rISB | apply rISI | apply rSII | apply rIII))
  ·refine Ev.cx (Digit_sp _) (fun _ => rfl) fun y _ => ?_
   repeat' (first | exact Ev.no (by omega) | with_reducible (first | (first | apply Ev.and3 | apply Ev.and | apply Ev.dec | apply Ev.nb | apply Ev.bl | apply Ev.pr) <;> intro _ | apply retI | apply retB | apply retS | apply retTD | apply rII | apply rSB | apply rIB | apply rISB | apply rISI | apply rSII | apply rIII))
   ·trivial
   refine Ev.cx (Digit_sp _) (fun _ => rfl) fun z _ => ?_
   (try simp (disch := omega) only [wi])
   exact number_l0 s hs at_ m b h0 h1 h2 n0 _ _ (by omega) (by omega) (by omega)
  ·trivial
theorem number_sp (s : ByteArray) (hs : s.size < 1073741824) (at_ m b : Int) (h0 : 0 ≤ at_) (h1 : 0 ≤ m) (h2 : at_ < 2000000000 ∧ m ≤ 100) : Sp number.n [.str s, .int at_, .int m, .int b] .i (fun (_ : Int) => True) := by
 refine Sp.of number.fd ?_
 rw [number_eq]
 (try simp (disch := omega) only [wi])
 repeat' (first | exact Ev.no (by omega) | with_reducible (first | (first | apply Ev.and3 | apply Ev.and | apply Ev.dec | apply Ev.nb | apply Ev.bl | apply Ev.pr) <;> intro _ | apply retI | apply retB | apply retS | apply retTD | apply rII | apply rSB | apply rIB | apply rISB | apply rISI | apply rSII | apply rIII))
 ·trivial
 ·exact number_l0 s hs at_ m b h0 h1 (by omega) _ _ _ (by omega) (by unfold LM; omega) (by omega)
theorem row_l0 (s : ByteArray) (hs : s.size < 1073741824) (b : Int) : ∀ (n0 : Nat) (w : ByteArray) (i : Int), 0 ≤ i → i ≤ s.size → (s.size : Int) - i < n0 → w.size ≤ i →
  Ev (srow.l0 W LM n0 s b w i ()) (Qs (.t2 .str .b) fun (_ : ByteArray × Bool) => True)
 | 0, w, i, h0, h1, h2, h3 => by omega
 | n0 + 1, w, i, h0, h1, h2, h3 => by
  have hj : i < s.size → Ev (srow.j1 W LM n0 s b w i ()) (Qs (.t2 .str .b) fun (_ : ByteArray × Bool) => True) := by
   intro hi
   unfold srow.j1
   (try simp (disch := omega) only [wi])
   have hz := szx s i.toNat (i + 1).toNat
   repeat' (first | exact Ev.no (by omega) | with_reducible (first | (first | apply Ev.and3 | apply Ev.and | apply Ev.dec | apply Ev.nb | apply Ev.bl | apply Ev.pr) <;> intro _ | apply retI | apply retB | apply retS | apply retTD | apply rII | apply rSB | apply rIB | apply rISB | apply rISI | apply rSII | apply rIII))
   refine Ev.cx (Digit_sp _) (fun _ => rfl) fun y _ => ?_
   repeat' (first | exact Ev.no (by omega) | with_reducible (first | (first | apply Ev.and3 | apply Ev.and | apply Ev.dec | apply Ev.nb | apply Ev.bl | apply Ev.pr) <;> intro _ | apply retI | apply retB | apply retS | apply retTD | apply rII | apply rSB | apply rIB | apply rISB | apply rISI | apply rSII | apply rIII))
   ·trivial
   ·exact row_l0 s hs b n0 _ _ (by omega) (by omega) (by omega) (by rw [ByteArray.size_append]; omega)
  rw [srow.l0_succ]
  (try simp (disch := omega) only [wi])
  repeat' (first | exact Ev.no (by omega) | with_reducible (first | (first | apply Ev.and3 | apply Ev.and | apply Ev.dec | apply Ev.nb | apply Ev.bl | apply Ev.pr) <;> intro _ | apply retI | apply retB | apply retS | apply retTD | apply rII | apply rSB | apply rIB | apply rISB | apply rISI | apply rSII | apply rIII))
  ·exact row_l0 s hs b n0 _ _ (by omega) (by omega) (by omega) (by omega)
  ·exact hj ‹_›
  ·exact hj ‹_›
  ·exact hj ‹_›
  ·exact hj ‹_›
  ·trivial
theorem row_sp (s : ByteArray) (hs : s.size < 1073741824) (b : Int) (a : Bool) : Sp srow.n [.str s, .int b, .bool a] (.t2 .str .b) (fun (_ : ByteArray × Bool) => True) := by
 refine Sp.of srow.fd ?_
 rw [srow_eq]
 have hj : ∀ s : ByteArray, s.size < 1073741824 → Ev (srow.j0 W LM s b ()) (Qs (.t2 .str .b) fun (_ : ByteArray × Bool) => True) := by
  intro s hs
  exact row_l0 s hs b _ _ 0 (by omega) (by omega) (by unfold LM; omega) (by show ((0 : Nat) : Int) ≤ 0; omega)
 repeat' (first | exact Ev.no (by omega) | with_reducible (first | (first | apply Ev.and3 | apply Ev.and | apply Ev.dec | apply Ev.nb | apply Ev.bl | apply Ev.pr) <;> intro _ | apply retI | apply retB | apply retS | apply retTD | apply rII | apply rSB | apply rIB | apply rISB | apply rISI | apply rSII | apply rIII))
 ·exact hj _ (by rw [szx]; omega)
 all_goals exact hj _ hs
theorem Digits_sp (s : ByteArray) (hs : s.size < 1073741824) : Sp Digits.n [.str s] (.t3 .i .str .b) (fun (_ : Int × ByteArray × Bool) => True) := by
 refine Sp.of Digits.fd ?_
 rw [Digits_eq]
 have h2 : ∀ a k : Int, 0 ≤ k → k ≤ s.size → Ev (Digits.j2 W LM s a k ()) (Qs (.t3 .i .str .b) fun (_ : Int × ByteArray × Bool) => True) := by
  intro a k hk hk2
  unfold Digits.j2
  repeat' (first | exact Ev.no (by omega) | with_reducible (first | (first | apply Ev.and3 | apply Ev.and | apply Ev.dec | apply Ev.nb | apply Ev.bl | apply Ev.pr) <;> intro _ | apply retI | apply retB | apply retS | apply retTD | apply rII | apply rSB | apply rIB | apply rISB | apply rISI | apply rSII | apply rIII))
  refine Ev.cx (row_sp _ (by rw [szx]; omega) _ _) (fun _ => rfl) fun y _ => ?_
  repeat' (first | exact Ev.no (by omega) | with_reducible (first | (first | apply Ev.and3 | apply Ev.and | apply Ev.dec | apply Ev.nb | apply Ev.bl | apply Ev.pr) <;> intro _ | apply retI | apply retB | apply retS | apply retTD | apply rII | apply rSB | apply rIB | apply rISB | apply rISI | apply rSII | apply rIII))
  ·trivial
  ·trivial
 simp only [Digits.j0, Digits.j1]
 repeat' (first | exact Ev.no (by omega) | with_reducible (first | (first | apply Ev.and3 | apply Ev.and | apply Ev.dec | apply Ev.nb | apply Ev.bl | apply Ev.pr) <;> intro _ | apply retI | apply retB | apply retS | apply retTD | apply rII | apply rSB | apply rIB | apply rISB | apply rISI | apply rSII | apply rIII))
 all_goals first
  | trivial
  | trivial
  | (refine h2 _ _ ?_ ?_ <;> omega)
theorem UTF8_sp (u : Int) : Sp UTF8.n [.int u] .str (fun (r : ByteArray) => r.size ≤ 4) := by
 refine Sp.of UTF8.fd ?_
 rw [UTF8_eq]
 repeat' (first | exact Ev.no (by omega) | with_reducible (first | (first | apply Ev.and3 | apply Ev.and | apply Ev.dec | apply Ev.nb | apply Ev.bl | apply Ev.pr) <;> intro _ | apply retI | apply retB | apply retS | apply retTD | apply rII | apply rSB | apply rIB | apply rISB | apply rISI | apply rSII | apply rIII))
 all_goals (rw [szL]; simp)
def EscQ : Int × ByteArray × Int → Prop := fun x => x.2.1.size ≤ 4 ∧ 0 ≤ x.2.2 ∧ x.2.2 ≤ 10
theorem Escape_j0 (n m : Int) (h : 0 ≤ m) (h2 : m ≤ 10) : Ev (Escape.j0 id W LM n m ()) (Qs (.t3 .i .str .i) EscQ) := by
 have hj : Ev (Escape.j1 id W LM n m ()) (Qs (.t3 .i .str .i) EscQ) := by
  unfold Escape.j1
  repeat' (first | exact Ev.no (by omega) | with_reducible (first | (first | apply Ev.and3 | apply Ev.and | apply Ev.dec | apply Ev.nb | apply Ev.bl | apply Ev.pr) <;> intro _ | apply retI | apply retB | apply retS | apply retTD | apply rII | apply rSB | apply rIB | apply rISB | apply rISI | apply rSII | apply rIII))
  ·exact ⟨by rw [szL]; simp, by simp, by simp⟩
  refine Ev.cx (UTF8_sp _) (fun _ => rfl) fun y hy => rISI ?_
  exact ⟨hy, h, h2⟩
 unfold Escape.j0
 repeat' (first | exact Ev.no (by omega) | with_reducible (first | (first | apply Ev.and3 | apply Ev.and | apply Ev.dec | apply Ev.nb | apply Ev.bl | apply Ev.pr) <;> intro _ | apply retI | apply retB | apply retS | apply retTD | apply rII | apply rSB | apply rIB | apply rISB | apply rISI | apply rSII | apply rIII))
 all_goals first
  | exact hj
  | exact ⟨Nat.zero_le _, by simp, by simp⟩
theorem Escape_l0 (s : ByteArray) (hs : s.size < 1073741824) (at_ c : Int) (h0 : 0 ≤ at_) (h1 : at_ < 1073741824) (w : ByteArray) (hw : w.size = 8) (l : List Int) (hl : l.length = 8) : ∀ (n0 : Nat) (i : Int), 0 ≤ i → i ≤ 8 → 8 - i < n0 →
  Ev (Escape.l0 id W LM n0 s at_ c w l i ()) (Qs (.t3 .i .str .i) EscQ)
 | 0, i, h2, h3, h4 => by omega
 | n0 + 1, i, h2, h3, h4 => by
  rw [Escape.l0_succ]
  (try simp (disch := omega) only [wi])
  repeat' (first | exact Ev.no (by omega) | with_reducible (first | (first | apply Ev.and3 | apply Ev.and | apply Ev.dec | apply Ev.nb | apply Ev.bl | apply Ev.pr) <;> intro _ | apply retI | apply retB | apply retS | apply retTD | apply rII | apply rSB | apply rIB | apply rISB | apply rISI | apply rSII | apply rIII))
  ·exact ⟨by rw [szL]; simp, by simp, by simp⟩
  ·exact Escape_l0 s hs at_ c h0 h1 w hw l hl n0 _ (by omega) (by omega) (by omega)
  all_goals
   refine Ev.cx (number_sp s hs _ _ _ (by omega) (by omega) (by omega)) (fun _ => rfl) fun y _ => ?_
   exact Escape_j0 _ _ (by decide) (by decide)
theorem Escape_sp (s : ByteArray) (hs : s.size < 1073741824) (at_ q : Int) (h0 : 0 ≤ at_) (h1 : at_ < 1073741824) : Sp Escape.n [.str s, .int at_, .ik .u8 q] (.t3 .i .str .i) EscQ := by
 refine Sp.of Escape.fd ?_
 rw [Escape_eq]
 (try simp (disch := omega) only [wi])
 repeat' (first | exact Ev.no (by omega) | with_reducible (first | (first | apply Ev.and3 | apply Ev.and | apply Ev.dec | apply Ev.nb | apply Ev.bl | apply Ev.pr) <;> intro _ | apply retI | apply retB | apply retS | apply retTD | apply rII | apply rSB | apply rIB | apply rISB | apply rISI | apply rSII | apply rIII))
 ·exact ⟨Nat.zero_le _, by simp, by simp⟩
 ·exact ⟨by rw [szL]; simp, by simp, by simp⟩
 ·exact Escape_l0 s hs at_ _ h0 h1 _ rfl _ rfl _ 0 (by omega) (by omega) (by unfold LM; omega)
def UnqQ : ByteArray × Int × Int → Prop := fun _ => True
theorem Unquote_l0 (s : ByteArray) (hs : s.size < 1073741824) : ∀ (n0 : Nat) (w : ByteArray) (i : Int), 0 ≤ i → (s.size : Int) - i < n0 → w.size ≤ i → i ≤ s.size →
  Ev (Unquote.l0 W LM n0 s w i ()) (Qs (.t3 .str .i .i) UnqQ)
 | 0, w, i, h0, h2, h3, h4 => by
  omega
 | n0 + 1, w, i, h0, h2, h3, h4 => by
  have hz := szx s i.toNat (i + 1).toNat
  have hj : i < s.size → Ev (Unquote.j1 W LM n0 s w i ()) (Qs (.t3 .str .i .i) UnqQ) := by
   intro hi
   unfold Unquote.j1
   (try simp (disch := omega) only [wi])
   repeat' (first | exact Ev.no (by omega) | with_reducible (first | (first | apply Ev.and3 | apply Ev.and | apply Ev.dec | apply Ev.nb | apply Ev.bl | apply Ev.pr) <;> intro _ | apply retI | apply retB | apply retS | apply retTD | apply rII | apply rSB | apply rIB | apply rISB | apply rISI | apply rSII | apply rIII))
   ·trivial
   ·exact Unquote_l0 s hs n0 _ _ (by omega) (by omega) (by rw [ByteArray.size_append]; omega) (by omega)
   ·exact Unquote_l0 s hs n0 _ _ (by omega) (by omega) (by omega) (by omega)
  rw [Unquote.l0_succ]
  (try simp (disch := omega) only [wi])
  repeat' (first | exact Ev.no (by omega) | with_reducible (first | (first | apply Ev.and3 | apply Ev.and | apply Ev.dec | apply Ev.nb | apply Ev.bl | apply Ev.pr) <;> intro _ | apply retI | apply retB | apply retS | apply retTD | apply rII | apply rSB | apply rIB | apply rISB | apply rISI | apply rSII | apply rIII))
  all_goals first
   | trivial
   | exact hj ‹_›
theorem Unquote_l2 (s : ByteArray) (hs : s.size < 1073741824) : ∀ (n0 : Nat) (w : ByteArray) (i : Int), 0 ≤ i → (s.size : Int) + 21 - i < n0 → w.size ≤ 4 * i → i ≤ s.size + 20 →
  Ev (Unquote.l2 W LM n0 s w i ()) (Qs (.t3 .str .i .i) UnqQ)
 | 0, w, i, h0, h2, h3, h4 => by
  omega
 | n0 + 1, w, i, h0, h2, h3, h4 => by
  have hz := szx s i.toNat (i + 1).toNat
  rw [Unquote.l2_succ]
  unfold Unquote.j4
  (try simp (disch := omega) only [wi])
  repeat' (first | exact Ev.no (by omega) | with_reducible (first | (first | apply Ev.and3 | apply Ev.and | apply Ev.dec | apply Ev.nb | apply Ev.bl | apply Ev.pr) <;> intro _ | apply retI | apply retB | apply retS | apply retTD | apply rII | apply rSB | apply rIB | apply rISB | apply rISI | apply rSII | apply rIII))
  ·trivial
  ·trivial
  ·refine Ev.cx (Escape_sp s hs i _ h0 (by omega)) (fun _ => rfl) fun y hy => ?_
   obtain ⟨y1, y2, y3⟩ := y
   obtain ⟨e1, e2, e3⟩ := hy
   simp only at e1 e2 e3 ⊢
   (try simp (disch := omega) only [wi])
   repeat' (first | exact Ev.no (by omega) | with_reducible (first | (first | apply Ev.and3 | apply Ev.and | apply Ev.dec | apply Ev.nb | apply Ev.bl | apply Ev.pr) <;> intro _ | apply retI | apply retB | apply retS | apply retTD | apply rII | apply rSB | apply rIB | apply rISB | apply rISI | apply rSII | apply rIII))
   ·trivial
   ·exact Unquote_l2 s hs n0 _ _ (by omega) (by omega) (by rw [ByteArray.size_append]; omega) (by omega)
  ·exact Unquote_l2 s hs n0 _ _ (by omega) (by omega) (by rw [ByteArray.size_append]; omega) (by omega)
  all_goals trivial
end Go.AI.Sn
end
section
set_option maxRecDepth 100000
namespace Go.AI.Sn
open Rd
theorem Unquote_sp (s : ByteArray) (hs : s.size < 1073741824) : Sp Unquote.n [.str s] (.t3 .str .i .i) UnqQ := by
 refine Sp.of Unquote.fd ?_
 rw [Unquote_eq]
 simp only [Unquote.j0, Unquote.j2, Unquote.j3]
 have e : (⟨#[]⟩ : ByteArray).size = 0 := rfl
 repeat' (first | exact Ev.no (by omega) | with_reducible (first | (first | apply Ev.and3 | apply Ev.and | apply Ev.dec | apply Ev.nb | apply Ev.bl | apply Ev.pr) <;> intro _ | apply retI | apply retB | apply retS | apply retTD | apply rII | apply rSB | apply rIB | apply rISB | apply rISI | apply rSII | apply rIII))
 all_goals first
  | trivial
  | (refine Unquote_l0 s hs _ _ 1 (by omega) ?_ (by omega) (by omega); unfold LM; omega)
  | (refine Unquote_l2 s hs _ _ 1 (by omega) ?_ (by omega) (by omega); unfold LM; omega)
def ChQ : Int × Int → Prop := fun x => 0 ≤ x.2 ∧ x.2 ≤ 4
theorem Char_l2 (s : ByteArray) (hs : s.size < 1073741824) (at_ c n : Int) (h0 : 0 ≤ at_) (hn : 2 ≤ n) (hn4 : n ≤ 4) (hz : at_ + n ≤ s.size) (n0 : Nat) (H : Ev (sChar.l0 W LM n0 s at_ c (n + 1) ()) (Qs (.t2 .i .i) ChQ)) : ∀ (n2 : Nat) (u : Int) (ok : Bool) (i : Int), at_ ≤ i → i ≤ at_ + n → at_ + n - i < n2 →
  Ev (sChar.l2 W LM n0 n2 s at_ c n u ok i ()) (Qs (.t2 .i .i) ChQ)
 | 0, u, ok, i, h1, h2, h3 => by omega
 | n2 + 1, u, ok, i, h1, h2, h3 => by
  rw [sChar.l2_succ]
  (try simp (disch := omega) only [wi])
  simp only [List.length_cons, List.length_nil]
  repeat' (first | exact Ev.no (by omega) | with_reducible (first | (first | apply Ev.and3 | apply Ev.and | apply Ev.dec | apply Ev.nb | apply Ev.bl | apply Ev.pr) <;> intro _ | apply retI | apply retB | apply retS | apply retTD | apply rII | apply rSB | apply rIB | apply rISB | apply rISI | apply rSII | apply rIII))
  all_goals first
   | exact H
   | exact ⟨by show 0 ≤ n; omega, hn4⟩
   | exact Char_l2 s hs at_ c n h0 hn hn4 hz n0 H n2 _ _ _ (by omega) (by omega) (by omega)
theorem Char_l0 (s : ByteArray) (hs : s.size < 1073741824) (at_ c : Int) (h0 : 0 ≤ at_) (ha : at_ < s.size) : ∀ (n0 : Nat) (n : Int), 2 ≤ n → n ≤ 5 → 5 - n < n0 →
  Ev (sChar.l0 W LM n0 s at_ c n ()) (Qs (.t2 .i .i) ChQ)
 | 0, n, h1, h2, h3 => by omega
 | n0 + 1, n, h1, h2, h3 => by
  rw [sChar.l0_succ]
  simp only [sChar.j0, sChar.j1]
  (try simp (disch := omega) only [wi])
  simp only [List.length_cons, List.length_nil]
  repeat' (first | exact Ev.no (by omega) | with_reducible (first | (first | apply Ev.and3 | apply Ev.and | apply Ev.dec | apply Ev.nb | apply Ev.bl | apply Ev.pr) <;> intro _ | apply retI | apply retB | apply retS | apply retTD | apply rII | apply rSB | apply rIB | apply rISB | apply rISI | apply rSII | apply rIII))
  all_goals first
   | exact ⟨by decide, by decide⟩
   | (refine Char_l2 s hs at_ c n h0 h1 (by omega) (by omega) n0 (Char_l0 s hs at_ c h0 ha n0 _ (by omega) (by omega) (by omega)) _ _ _ _ (by omega) (by omega) ?_; unfold LM; omega)
theorem Char_sp (s : ByteArray) (hs : s.size < 1073741824) (at_ : Int) (h0 : 0 ≤ at_) : Sp sChar.n [.str s, .int at_] (.t2 .i .i) ChQ := by
 refine Sp.of sChar.fd ?_
 rw [sChar_eq]
 repeat' (first | exact Ev.no (by omega) | with_reducible (first | (first | apply Ev.and3 | apply Ev.and | apply Ev.dec | apply Ev.nb | apply Ev.bl | apply Ev.pr) <;> intro _ | apply retI | apply retB | apply retS | apply retTD | apply rII | apply rSB | apply rIB | apply rISB | apply rISI | apply rSII | apply rIII))
 ·exact ⟨by decide, by decide⟩
 ·exact ⟨by simp, by simp⟩
 ·exact Char_l0 s hs at_ _ h0 (by omega) _ _ (by omega) (by omega) (by unfold LM; omega)
theorem Rune_sp (s : ByteArray) (hs : s.size < 1073741824) : Sp sRune.n [.str s] (.t3 .i .i .i) (fun (_ : Int × Int × Int) => True) := by
 refine Sp.of sRune.fd ?_
 rw [sRune_eq]
 have hj : ∀ u n : Int, 0 ≤ n → n ≤ 10 → 2 ≤ s.size → Ev (sRune.j1 W LM s u n ()) (Qs (.t3 .i .i .i) fun (_ : Int × Int × Int) => True) := by
  intro u n h0 h1 h2
  unfold sRune.j1
  (try simp (disch := omega) only [wi])
  repeat' (first | exact Ev.no (by omega) | with_reducible (first | (first | apply Ev.and3 | apply Ev.and | apply Ev.dec | apply Ev.nb | apply Ev.bl | apply Ev.pr) <;> intro _ | apply retI | apply retB | apply retS | apply retTD | apply rII | apply rSB | apply rIB | apply rISB | apply rISI | apply rSII | apply rIII))
  all_goals trivial
 unfold sRune.j0
 repeat' (first | exact Ev.no (by omega) | with_reducible (first | (first | apply Ev.and3 | apply Ev.and | apply Ev.dec | apply Ev.nb | apply Ev.bl | apply Ev.pr) <;> intro _ | apply retI | apply retB | apply retS | apply retTD | apply rII | apply rSB | apply rIB | apply rISB | apply rISI | apply rSII | apply rIII))
 ·trivial
 ·trivial
 refine Ev.cx (Char_sp s hs 1 (by omega)) (fun _ => rfl) fun x hx => ?_
 obtain ⟨x1, x2⟩ := hx
 repeat' (first | exact Ev.no (by omega) | with_reducible (first | (first | apply Ev.and3 | apply Ev.and | apply Ev.dec | apply Ev.nb | apply Ev.bl | apply Ev.pr) <;> intro _ | apply retI | apply retB | apply retS | apply retTD | apply rII | apply rSB | apply rIB | apply rISB | apply rISI | apply rSII | apply rIII))
 ·refine Ev.cx (Escape_sp s hs 1 _ (by omega) (by omega)) (fun _ => rfl) fun y hy => ?_
  obtain ⟨y1, y2, y3⟩ := hy
  repeat' (first | exact Ev.no (by omega) | with_reducible (first | (first | apply Ev.and3 | apply Ev.and | apply Ev.dec | apply Ev.nb | apply Ev.bl | apply Ev.pr) <;> intro _ | apply retI | apply retB | apply retS | apply retTD | apply rII | apply rSB | apply rIB | apply rISB | apply rISI | apply rSII | apply rIII))
  ·trivial
  ·exact hj _ _ y2 y3 (by omega)
 ·exact hj _ _ x1 (by omega) (by omega)
def FindQ (s : ByteArray) (from_ : Int) (w : ByteArray) : Int → Prop := fun r => (from_ ≤ r ∧ r + w.size ≤ s.size ∧ (s.extract r.toNat (r + w.size).toNat).toList = w.toList) ∨ r = s.size
theorem find_l0 (s : ByteArray) (hs : s.size < 1073741824) (f : Int) (h0 : 0 ≤ f) (w : ByteArray) (hw : w.size ≤ 100) : ∀ (n0 : Nat) (i : Int), f ≤ i → (s.size : Int) + 1 - i < n0 → 0 < n0 → i < 3000000000 →
  Ev (sfind.l0 W LM n0 s w i ()) (Qs .i (FindQ s f w))
 | 0, i, h1, h2, h3, h4 => by omega
 | n0 + 1, i, h1, h2, h3, h4 => by
  rw [sfind.l0_succ]
  (try simp (disch := omega) only [wi])
  repeat' (first | exact Ev.no (by omega) | with_reducible (first | (first | apply Ev.and3 | apply Ev.and | apply Ev.dec | apply Ev.nb | apply Ev.bl | apply Ev.pr) <;> intro _ | apply retI | apply retB | apply retS | apply retTD | apply rII | apply rSB | apply rIB | apply rISB | apply rISI | apply rSII | apply rIII))
  ·exact .inl ⟨h1, by omega, eq_of_beq ‹_›⟩
  ·exact find_l0 s hs f h0 w hw n0 _ (by omega) (by omega) (by omega) (by omega)
  ·exact .inr rfl
theorem find_sp (s : ByteArray) (hs : s.size < 1073741824) (f : Int) (h0 : 0 ≤ f) (h1 : f < 2000000000) (w : ByteArray) (hw : w.size ≤ 100) : Sp sfind.n [.str s, .int f, .str w] .i (FindQ s f w) := by
 refine Sp.of sfind.fd ?_
 rw [sfind_eq]
 exact find_l0 s hs f h0 w hw _ _ (by omega) (by unfold LM; omega) (by unfold LM; omega) (by omega)
theorem quoted_l0 (s : ByteArray) (hs : s.size < 1073741824) (i0 c : Int) (h0 : 0 ≤ i0) : ∀ (n0 : Nat) (i : Int), i0 < i → i ≤ s.size → (s.size : Int) - i < n0 →
  Ev (quoted.l0 W LM n0 s i c ()) (Qs (.t2 .i .b) fun (x : Int × Bool) => i0 < x.1 ∧ x.1 ≤ s.size)
 | 0, i, h1, h2, h3 => by omega
 | n0 + 1, i, h1, h2, h3 => by
  rw [quoted.l0_succ]
  unfold quoted.j0
  have e1 : IntKind.i64.wrap (i + 1) = i + 1 := wi _ (by omega) (by omega)
  have e2 : IntKind.i64.wrap (i + 1 + 1) = i + 1 + 1 := wi _ (by omega) (by omega)
  simp only [e1, e2]
  repeat' (first | exact Ev.no (by omega) | with_reducible (first | (first | apply Ev.and3 | apply Ev.and | apply Ev.dec | apply Ev.nb | apply Ev.bl | apply Ev.pr) <;> intro _ | apply retI | apply retB | apply retS | apply retTD | apply rII | apply rSB | apply rIB | apply rISB | apply rISI | apply rSII | apply rIII))
  all_goals first
   | exact quoted_l0 s hs i0 c h0 n0 _ (by omega) (by omega) (by omega)
   | omega
theorem quoted_sp (s : ByteArray) (hs : s.size < 1073741824) (i : Int) (h0 : 0 ≤ i) (h1 : i < s.size) : Sp quoted.n [.str s, .int i] (.t2 .i .b) (fun (x : Int × Bool) => i < x.1 ∧ x.1 ≤ s.size) := by
 refine Sp.of quoted.fd ?_
 rw [quoted_eq]
 (try simp (disch := omega) only [wi])
 repeat' (first | exact Ev.no (by omega) | with_reducible (first | (first | apply Ev.and3 | apply Ev.and | apply Ev.dec | apply Ev.nb | apply Ev.bl | apply Ev.pr) <;> intro _ | apply retI | apply retB | apply retS | apply retTD | apply rII | apply rSB | apply rIB | apply rISB | apply rISI | apply rSII | apply rIII))
 exact quoted_l0 s hs i _ h0 _ _ (by omega) (by omega) (by unfold LM; omega)
def kOK (k : Int) : Prop := 1 ≤ k ∧ k ≤ 5 ∨ 10 ≤ k ∧ k ≤ 15 ∨ 20 ≤ k ∧ k ≤ 65 ∨ 70 ≤ k ∧ k ≤ 90
def TokQ (s : ByteArray) (i : Int) : Tok × Diag → Prop := fun x => x.1.f = i ∧ i < x.1.t ∧ x.1.t ≤ s.size ∧ kOK x.1.k
theorem text_sp (s : ByteArray) (hs : s.size < 1073741824) (i : Int) (h0 : 0 ≤ i) (h1 : i < s.size) : Sp stext.n [.str s, .int i] (.t2 (.e .tok) (.e .diag)) (TokQ s i) := by
 refine Sp.of stext.fd ?_
 rw [stext_eq]
 refine Ev.cx (quoted_sp s hs i h0 h1) (fun _ => rfl) fun x hx => ?_
 unfold stext.j0
 have hk : kOK 12 ∧ kOK 13 := by unfold kOK; omega
 have hz := szx s i.toNat x.1.toNat
 repeat' (first | exact Ev.no (by omega) | with_reducible (first | (first | apply Ev.and3 | apply Ev.and | apply Ev.dec | apply Ev.nb | apply Ev.bl | apply Ev.pr) <;> intro _ | apply retI | apply retB | apply retS | apply retTD | apply rII | apply rSB | apply rIB | apply rISB | apply rISI | apply rSII | apply rIII))
 all_goals first
  | exact ⟨rfl, hx.1, hx.2, hk.1⟩
  | exact ⟨rfl, hx.1, hx.2, hk.2⟩
  | (refine Ev.cx (Unquote_sp _ (by omega)) (fun _ => rfl) fun y _ => retTD ?_; exact ⟨rfl, hx.1, hx.2, hk.2⟩)
  | (refine Ev.cx (Unquote_sp _ (by omega)) (fun _ => rfl) fun y _ => retTD ?_; exact ⟨rfl, hx.1, hx.2, hk.1⟩)
  | (refine Ev.cx (Rune_sp _ (by omega)) (fun _ => rfl) fun y _ => retTD ?_; exact ⟨rfl, hx.1, hx.2, hk.1⟩)
  | (refine Ev.cx (Rune_sp _ (by omega)) (fun _ => rfl) fun y _ => retTD ?_; exact ⟨rfl, hx.1, hx.2, hk.2⟩)
theorem other_sp (s : ByteArray) (hs : s.size < 1073741824) (i : Int) (h0 : 0 ≤ i) (h1 : i < s.size) : Sp sother.n [.str s, .int i] (.t2 (.e .tok) (.e .diag)) (TokQ s i) := by
 refine Sp.of sother.fd ?_
 rw [sother_eq]
 repeat' (first | exact Ev.no (by omega) | with_reducible (first | (first | apply Ev.and3 | apply Ev.and | apply Ev.dec | apply Ev.nb | apply Ev.bl | apply Ev.pr) <;> intro _ | apply retI | apply retB | apply retS | apply retTD | apply rII | apply rSB | apply rIB | apply rISB | apply rISI | apply rSII | apply rIII))
 refine Ev.cx (Operator_sp _ (by rw [szx]; omega)) (fun _ => rfl) fun x hx => ?_
 rw [szx] at hx
 obtain ⟨k, n⟩ := x
 simp only at hx ⊢
 (try simp (disch := omega) only [wi])
 repeat' (first | exact Ev.no (by omega) | with_reducible (first | (first | apply Ev.and3 | apply Ev.and | apply Ev.dec | apply Ev.nb | apply Ev.bl | apply Ev.pr) <;> intro _ | apply retI | apply retB | apply retS | apply retTD | apply rII | apply rSB | apply rIB | apply rISB | apply rISI | apply rSII | apply rIII))
 ·refine ⟨rfl, ?_, ?_, ?_⟩ <;> (try unfold kOK) <;> dsimp only <;> omega
 refine Ev.cx (Width_sp s i hs h0 h1) (fun _ => rfl) fun y hy => ?_
 refine Ev.cx (said_sp s i hs h0 h1) (fun _ => rfl) fun z _ => ?_
 (try simp (disch := omega) only [wi])
 repeat' (first | exact Ev.no (by omega) | with_reducible (first | (first | apply Ev.and3 | apply Ev.and | apply Ev.dec | apply Ev.nb | apply Ev.bl | apply Ev.pr) <;> intro _ | apply retI | apply retB | apply retS | apply retTD | apply rII | apply rSB | apply rIB | apply rISB | apply rISI | apply rSII | apply rIII))
 all_goals (refine ⟨rfl, ?_, ?_, ?_⟩ <;> (try unfold kOK) <;> dsimp only <;> omega)
end Go.AI.Sn
end
section
set_option maxRecDepth 100000
namespace Go.AI.Sn
open Rd
theorem ext1 (s : ByteArray) (i : Int) (h0 : 0 ≤ i) (h1 : i < s.size) (x : UInt8) (h : (s.extract i.toNat (i + 1).toNat).toList = [x]) : bt s i = (x.toNat : Int) := by
 have e : i = (i.toNat : Int) := by omega
 rw [ByteArray.toList_eq, ByteArray.data_extract] at h
 have h2 := bt_get s i.toNat (by omega)
 rw [← e] at h2
 rw [h2]
 have h3 : (s.data.extract i.toNat (i + 1).toNat).toList[0]? = some x := by rw [h]; rfl
 rw [Array.getElem?_toList, Array.getElem?_extract] at h3
 have h4 : s.data[i.toNat]? = some x := by
  have e2 : 0 < min (i + 1).toNat s.data.size - i.toNat := by
   have : s.data.size = s.size := rfl
   omega
  simp only [e2, true_and, Nat.add_zero, if_true] at h3
  exact h3
 have h5 : s.data.toList[i.toNat]? = some x := by rw [Array.getElem?_toList]; exact h4
 obtain ⟨h6, h7⟩ := List.getElem?_eq_some_iff.1 h5
 rw [h7]
abbrev TD : Sh := .t2 (.e .tok) (.e .diag)
section
variable (s : ByteArray) (hs : s.size < 1073741824) (i : Int) (h0 : 0 ≤ i) (a b c d e g k u v w : Int)
include hs h0
theorem Next_l1 (hk : kOK k) : ∀ (n0 : Nat) (t : Int), i < t → t ≤ s.size → (s.size : Int) - t < n0 → Ev (sNext.l1 W LM n0 s a b c d e g k i t u v w ()) (Qs TD (TokQ s i))
 | 0, t, h1, h2, h3 => by omega
 | n0 + 1, t, h1, h2, h3 => by
  have e1 : t < s.size → IntKind.i64.wrap (t + 1) = t + 1 := fun h => wi _ (by omega) (by omega)
  rw [sNext.l1_succ]
  repeat' (first | exact Ev.no (by omega) | with_reducible (first | (first | apply Ev.and3 | apply Ev.and | apply Ev.dec | apply Ev.nb | apply Ev.bl | apply Ev.pr) <;> intro _ | apply retI | apply retB | apply retS | apply retTD | apply rII | apply rSB | apply rIB | apply rISB | apply rISI | apply rSII | apply rIII))
  ·refine Ev.cx (blank_sp _) (fun _ => rfl) fun x _ => ?_
   rw [e1 ‹_›]
   repeat' (first | exact Ev.no (by omega) | with_reducible (first | (first | apply Ev.and3 | apply Ev.and | apply Ev.dec | apply Ev.nb | apply Ev.bl | apply Ev.pr) <;> intro _ | apply retI | apply retB | apply retS | apply retTD | apply rII | apply rSB | apply rIB | apply rISB | apply rISI | apply rSII | apply rIII))
   ·exact Next_l1 hk n0 _ (by omega) (by omega) (by omega)
   ·exact ⟨rfl, h1, h2, hk⟩
  ·exact ⟨rfl, h1, h2, hk⟩
theorem Next_l3 : ∀ (n0 : Nat) (t : Int), i < t → t ≤ s.size → (s.size : Int) - t < n0 → Ev (sNext.l3 W LM n0 s i a b c d e g k i t u v w ()) (Qs TD (TokQ s i))
 | 0, t, h1, h2, h3 => by omega
 | n0 + 1, t, h1, h2, h3 => by
  have e1 : t < s.size → IntKind.i64.wrap (t + 1) = t + 1 := fun h => wi _ (by omega) (by omega)
  have hK : ∀ {A : Int → Unit → Option (AV × Unit)}, A = (fun (x : Int) _ => if (decide (x = 0)) then some (.tup [.agg [.int 10, .int i, .int t], .agg [.int u, .int v, .int t]], ()) else some (.tup [.agg [.int x, .int i, .int t], .agg [.int u, .int v, .int t]], ())) →
    Ev (cX W .i .unit Keyword.n [.str (ByteArray.extract s (Int.toNat i) (Int.toNat t))] () A) (Qs TD (TokQ s i)) := by
   rintro A rfl
   refine Ev.cx (Keyword_sp _) (fun _ => rfl) fun (x : Int) hx => ?_
   repeat' (first | exact Ev.no (by omega) | with_reducible (first | (first | apply Ev.and3 | apply Ev.and | apply Ev.dec | apply Ev.nb | apply Ev.bl | apply Ev.pr) <;> intro _ | apply retI | apply retB | apply retS | apply retTD | apply rII | apply rSB | apply rIB | apply rISB | apply rISI | apply rSII | apply rIII))
   ·exact ⟨rfl, h1, h2, by unfold kOK; dsimp only; omega⟩
   ·exact ⟨rfl, h1, h2, by unfold kOK; dsimp only; omega⟩
  rw [sNext.l3_succ]
  repeat' (first | exact Ev.no (by omega) | with_reducible (first | (first | apply Ev.and3 | apply Ev.and | apply Ev.dec | apply Ev.nb | apply Ev.bl | apply Ev.pr) <;> intro _ | apply retI | apply retB | apply retS | apply retTD | apply rII | apply rSB | apply rIB | apply rISB | apply rISI | apply rSII | apply rIII))
  ·refine Ev.cx (letter_sp _) (fun _ => rfl) fun x _ => ?_
   rw [e1 ‹_›]
   repeat' (first | exact Ev.no (by omega) | with_reducible (first | (first | apply Ev.and3 | apply Ev.and | apply Ev.dec | apply Ev.nb | apply Ev.bl | apply Ev.pr) <;> intro _ | apply retI | apply retB | apply retS | apply retTD | apply rII | apply rSB | apply rIB | apply rISB | apply rISI | apply rSII | apply rIII))
   ·exact Next_l3 n0 _ (by omega) (by omega) (by omega)
   refine Ev.cx (digit_sp _) (fun _ => rfl) fun y _ => ?_
   repeat' (first | exact Ev.no (by omega) | with_reducible (first | (first | apply Ev.and3 | apply Ev.and | apply Ev.dec | apply Ev.nb | apply Ev.bl | apply Ev.pr) <;> intro _ | apply retI | apply retB | apply retS | apply retTD | apply rII | apply rSB | apply rIB | apply rISB | apply rISI | apply rSII | apply rIII))
   ·exact Next_l3 n0 _ (by omega) (by omega) (by omega)
   ·exact hK rfl
  ·exact hK rfl
theorem Next_l5 (hk : kOK k) : ∀ (n0 : Nat) (t : Int), i < t → t ≤ s.size → (s.size : Int) - t < n0 → Ev (sNext.l5 W LM n0 s i a b c d e g k i t u v w ()) (Qs TD (TokQ s i))
 | 0, t, h1, h2, h3 => by omega
 | n0 + 1, t, h1, h2, h3 => by
  have e1 : t < s.size → IntKind.i64.wrap (t + 1) = t + 1 := fun h => wi _ (by omega) (by omega)
  have hz := szx s i.toNat t.toNat
  have hK : ∀ {A : Int × ByteArray × Bool → Unit → Option (AV × Unit)}, A = (fun (x : Int × ByteArray × Bool) _ => if (!x.2.2) then some (.tup [.agg [.int k, .int i, .int t], .agg [.int 109, .int v, .int t]], ()) else some (.tup [.agg [.int k, .int i, .int t], .agg [.int u, .int v, .int t]], ())) →
    Ev (cX W (.t3 .i .str .b) .unit Digits.n [.str (ByteArray.extract s (Int.toNat i) (Int.toNat t))] () A) (Qs TD (TokQ s i)) := by
   rintro A rfl
   refine Ev.cx (Digits_sp _ (by omega)) (fun _ => rfl) fun x hx => ?_
   repeat' (first | exact Ev.no (by omega) | with_reducible (first | (first | apply Ev.and3 | apply Ev.and | apply Ev.dec | apply Ev.nb | apply Ev.bl | apply Ev.pr) <;> intro _ | apply retI | apply retB | apply retS | apply retTD | apply rII | apply rSB | apply rIB | apply rISB | apply rISI | apply rSII | apply rIII))
   ·exact ⟨rfl, h1, h2, hk⟩
   ·exact ⟨rfl, h1, h2, hk⟩
  rw [sNext.l5_succ]
  repeat' (first | exact Ev.no (by omega) | with_reducible (first | (first | apply Ev.and3 | apply Ev.and | apply Ev.dec | apply Ev.nb | apply Ev.bl | apply Ev.pr) <;> intro _ | apply retI | apply retB | apply retS | apply retTD | apply rII | apply rSB | apply rIB | apply rISB | apply rISI | apply rSII | apply rIII))
  ·refine Ev.cx (letter_sp _) (fun _ => rfl) fun x _ => ?_
   rw [e1 ‹_›]
   repeat' (first | exact Ev.no (by omega) | with_reducible (first | (first | apply Ev.and3 | apply Ev.and | apply Ev.dec | apply Ev.nb | apply Ev.bl | apply Ev.pr) <;> intro _ | apply retI | apply retB | apply retS | apply retTD | apply rII | apply rSB | apply rIB | apply rISB | apply rISI | apply rSII | apply rIII))
   ·exact Next_l5 hk n0 _ (by omega) (by omega) (by omega)
   refine Ev.cx (digit_sp _) (fun _ => rfl) fun y _ => ?_
   repeat' (first | exact Ev.no (by omega) | with_reducible (first | (first | apply Ev.and3 | apply Ev.and | apply Ev.dec | apply Ev.nb | apply Ev.bl | apply Ev.pr) <;> intro _ | apply retI | apply retB | apply retS | apply retTD | apply rII | apply rSB | apply rIB | apply rISB | apply rISI | apply rSII | apply rIII))
   ·exact Next_l5 hk n0 _ (by omega) (by omega) (by omega)
   ·exact hK rfl
  ·exact hK rfl
theorem Next_j3 (h1 : i < s.size) (z : Bool) (t x0 : Int) : Ev (sNext.j3 W LM s i x0 z a b c d e g k i t u v w ()) (Qs TD (TokQ s i)) := by
 unfold sNext.j3
 (try simp (disch := omega) only [wi])
 repeat' (first | exact Ev.no (by omega) | with_reducible (first | (first | apply Ev.and3 | apply Ev.and | apply Ev.dec | apply Ev.nb | apply Ev.bl | apply Ev.pr) <;> intro _ | apply retI | apply retB | apply retS | apply retTD | apply rII | apply rSB | apply rIB | apply rISB | apply rISI | apply rSII | apply rIII))
 ·refine Ev.cx (text_sp s hs i h0 h1) (fun _ => rfl) fun x hx => ?_
  exact retTD hx
 ·refine Ev.cx (find_sp s hs _ (by omega) (by omega) ⟨#[96]⟩ (by decide)) (fun _ => rfl) fun (x : Int) hx => ?_
  have hx : i + 1 ≤ x ∧ x + 1 ≤ s.size ∨ x = s.size := by
   rcases hx with ⟨q1, q2, _⟩ | q
   ·exact .inl ⟨q1, q2⟩
   ·exact .inr q
  (try simp (disch := omega) only [wi])
  repeat' (first | exact Ev.no (by omega) | with_reducible (first | (first | apply Ev.and3 | apply Ev.and | apply Ev.dec | apply Ev.nb | apply Ev.bl | apply Ev.pr) <;> intro _ | apply retI | apply retB | apply retS | apply retTD | apply rII | apply rSB | apply rIB | apply rISB | apply rISI | apply rSII | apply rIII))
  ·exact ⟨rfl, by dsimp only; omega, by dsimp only; omega, by unfold kOK; dsimp only; omega⟩
  ·exact ⟨rfl, by dsimp only; omega, by dsimp only; omega, by unfold kOK; dsimp only; omega⟩
 ·refine Ev.cx (other_sp s hs i h0 h1) (fun _ => rfl) fun x hx => ?_
  exact retTD hx
theorem Next_j2 (h1 : i < s.size) (z : Bool) (x0 : Int) : Ev (sNext.j2 W LM s i x0 z a b c d e g k i (i + 1) u v w ()) (Qs TD (TokQ s i)) := by
 unfold sNext.j2
 (try simp (disch := omega) only [wi])
 repeat' (first | exact Ev.no (by omega) | with_reducible (first | (first | apply Ev.and3 | apply Ev.and | apply Ev.dec | apply Ev.nb | apply Ev.bl | apply Ev.pr) <;> intro _ | apply retI | apply retB | apply retS | apply retTD | apply rII | apply rSB | apply rIB | apply rISB | apply rISI | apply rSII | apply rIII))
 ·refine Ev.cx (find_sp s hs _ (by omega) (by omega) ⟨#[42, 47]⟩ (by decide)) (fun _ => rfl) fun (x : Int) hx => ?_
  have hx : i + 2 ≤ x ∧ x + 2 ≤ s.size ∨ x = s.size := by
   rcases hx with ⟨q1, q2, _⟩ | q
   ·exact .inl ⟨q1, q2⟩
   ·exact .inr q
  (try simp (disch := omega) only [wi])
  repeat' (first | exact Ev.no (by omega) | with_reducible (first | (first | apply Ev.and3 | apply Ev.and | apply Ev.dec | apply Ev.nb | apply Ev.bl | apply Ev.pr) <;> intro _ | apply retI | apply retB | apply retS | apply retTD | apply rII | apply rSB | apply rIB | apply rISB | apply rISI | apply rSII | apply rIII))
  ·exact ⟨rfl, by dsimp only; omega, by dsimp only; omega, by unfold kOK; dsimp only; omega⟩
  ·exact ⟨rfl, by dsimp only; omega, by dsimp only; omega, by unfold kOK; dsimp only; omega⟩
 refine Ev.cx (letter_sp _) (fun _ => rfl) fun x _ => ?_
 repeat' (first | exact Ev.no (by omega) | with_reducible (first | (first | apply Ev.and3 | apply Ev.and | apply Ev.dec | apply Ev.nb | apply Ev.bl | apply Ev.pr) <;> intro _ | apply retI | apply retB | apply retS | apply retTD | apply rII | apply rSB | apply rIB | apply rISB | apply rISI | apply rSII | apply rIII))
 ·exact Next_l3 s hs i h0 a b c d e g k u v w _ _ (by omega) (by omega) (by unfold LM; omega)
 refine Ev.cx (digit_sp _) (fun _ => rfl) fun y _ => ?_
 repeat' (first | exact Ev.no (by omega) | with_reducible (first | (first | apply Ev.and3 | apply Ev.and | apply Ev.dec | apply Ev.nb | apply Ev.bl | apply Ev.pr) <;> intro _ | apply retI | apply retB | apply retS | apply retTD | apply rII | apply rSB | apply rIB | apply rISB | apply rISI | apply rSII | apply rIII))
 ·exact Next_l5 s hs i h0 a b c d e g 11 u v w (by unfold kOK; omega) _ _ (by omega) (by omega) (by unfold LM; omega)
 ·exact Next_j3 s hs i h0 a b c d e g k u v w h1 _ _ _
 ·exact Next_j3 s hs i h0 a b c d e g k u v w h1 _ _ _
theorem Next_j1 (h1 : i < s.size) (z : Bool) (x0 : Int) (hx0 : z = true → bt s i = 47) : Ev (sNext.j1 W LM s i x0 z a b c d e g k i (i + 1) u v w ()) (Qs TD (TokQ s i)) := by
 unfold sNext.j1
 (try simp (disch := omega) only [wi])
 repeat' (first | exact Ev.no (by omega) | with_reducible (first | (first | apply Ev.and3 | apply Ev.and | apply Ev.dec | apply Ev.nb | apply Ev.bl | apply Ev.pr) <;> intro _ | apply retI | apply retB | apply retS | apply retTD | apply rII | apply rSB | apply rIB | apply rISB | apply rISI | apply rSII | apply rIII))
 ·refine Ev.cx (find_sp s hs _ (by omega) (by omega) ⟨#[10]⟩ (by decide)) (fun _ => rfl) fun (x : Int) hx => ?_
  have hx : i + 1 ≤ x ∧ x ≤ s.size := by
   rcases hx with ⟨q1, q2, q3⟩ | q
   ·have hz1 : (⟨#[10]⟩ : ByteArray).size = 1 := rfl
    rw [hz1] at q2 q3
    rw [ByteArray.toList_eq ⟨#[10]⟩] at q3
    refine ⟨?_, by omega⟩
    by_cases hxi : x = i
    ·subst hxi
     have := ext1 s x h0 h1 _ q3
     rw [hx0 ‹_›] at this
     exact absurd this (by decide)
    ·omega
   ·omega
  exact retTD ⟨rfl, by dsimp only; omega, by dsimp only; omega, by unfold kOK; dsimp only; omega⟩
 all_goals exact Next_j2 s hs i h0 a b c d e g k u v w h1 _ _
theorem Next_j0 (h1 : i < s.size) (z : Bool) (hz : z = true → i = 0 ∧ 3 ≤ s.size) : Ev (sNext.j0 W LM s i (bt s i) z a b c d e g k i (i + 1) u v w ()) (Qs TD (TokQ s i)) := by
 unfold sNext.j0
 (try simp (disch := omega) only [wi])
 repeat' (first | exact Ev.no (by omega) | with_reducible (first | (first | apply Ev.and3 | apply Ev.and | apply Ev.dec | apply Ev.nb | apply Ev.bl | apply Ev.pr) <;> intro _ | apply retI | apply retB | apply retS | apply retTD | apply rII | apply rSB | apply rIB | apply rISB | apply rISI | apply rSII | apply rIII))
 ·have := hz ‹_›
  exact ⟨rfl, by dsimp only; omega, by dsimp only; omega, by unfold kOK; dsimp only; omega⟩
 refine Ev.cx (blank_sp _) (fun _ => rfl) fun x _ => ?_
 repeat' (first | exact Ev.no (by omega) | with_reducible (first | (first | apply Ev.and3 | apply Ev.and | apply Ev.dec | apply Ev.nb | apply Ev.bl | apply Ev.pr) <;> intro _ | apply retI | apply retB | apply retS | apply retTD | apply rII | apply rSB | apply rIB | apply rISB | apply rISI | apply rSII | apply rIII))
 ·exact Next_l1 s hs i h0 a b c d e g 1 u v w (by unfold kOK; omega) _ _ (by omega) (by omega) (by unfold LM; omega)
 ·exact ⟨rfl, by dsimp only; omega, by dsimp only; omega, by unfold kOK; dsimp only; omega⟩
 ·exact Next_j1 s hs i h0 a b c d e g k u v w h1 _ _ fun _ => by assumption
 ·exact Next_j1 s hs i h0 a b c d e g k u v w h1 _ _ fun h => by cases h
 ·exact Next_j1 s hs i h0 a b c d e g k u v w h1 _ _ fun h => by cases h
theorem Next_sp (h1 : i < s.size) : Sp sNext.n [.str s, .int i] TD (TokQ s i) := by
 refine Sp.of sNext.fd ?_
 rw [sNext_eq]
 (try simp (disch := omega) only [wi])
 repeat' (first | exact Ev.no (by omega) | with_reducible (first | (first | apply Ev.and3 | apply Ev.and | apply Ev.dec | apply Ev.nb | apply Ev.bl | apply Ev.pr) <;> intro _ | apply retI | apply retB | apply retS | apply retTD | apply rII | apply rSB | apply rIB | apply rISB | apply rISI | apply rSII | apply rIII))
 ·exact Next_j0 s hs i h0 _ _ _ _ _ _ _ _ _ _ h1 _ fun _ => by omega
 ·exact Next_j0 s hs i h0 _ _ _ _ _ _ _ _ _ _ h1 _ fun h => by cases h
 ·exact Next_j0 s hs i h0 _ _ _ _ _ _ _ _ _ _ h1 _ fun h => by cases h
end
end Go.AI.Sn
end
section
set_option maxRecDepth 100000
namespace Go.AI.Sn
open Rd
def Chn : Int → List Tok → Int → Prop
 | a, [], b => a = b
 | a, t :: r, b => t.f = a ∧ a < t.t ∧ kOK t.k ∧ Chn t.t r b
def tOK (a : Int) (t : Tok) : Prop := t.f = a ∧ (kOK t.k ∧ a < t.t ∨ t.k = 16 ∧ t.t = a)
def Ch2 : Int → List Tok → Int → Prop
 | a, [], b => a = b
 | a, t :: r, b => tOK a t ∧ Ch2 t.t r b
theorem Chn_snoc {t : Tok} : ∀ {l : List Tok} {a b : Int}, Chn a l b → t.f = b → b < t.t → kOK t.k → Chn a (l ++ [t]) t.t
 | [], a, b, h, h1, h2, h3 => by
  cases h; exact ⟨h1, h2, h3, rfl⟩
 | u :: r, a, b, h, h1, h2, h3 => ⟨h.1, h.2.1, h.2.2.1, Chn_snoc h.2.2.2 h1 h2 h3⟩
theorem Chn_len : ∀ {l : List Tok} {a b : Int}, Chn a l b → (l.length : Int) ≤ b - a
 | [], a, b, h => by cases h; simp
 | u :: r, a, b, h => by
  have := Chn_len h.2.2.2
  have := h.2.1
  simp only [List.length_cons]
  omega
theorem Chn_le : ∀ {l : List Tok} {a b : Int}, Chn a l b → a ≤ b
 | [], a, b, h => by cases h; exact Int.le_refl _
 | u :: r, a, b, h => by
  have := Chn_le h.2.2.2
  have := h.2.1
  omega
theorem Chn_mem : ∀ {l : List Tok} {a b : Int}, Chn a l b → ∀ t, t ∈ l → a ≤ t.f ∧ t.f < t.t ∧ t.t ≤ b
 | [], a, b, h, t, ht => by cases ht
 | u :: r, a, b, h, t, ht => by
  have h1 := Chn_le h.2.2.2
  rcases List.mem_cons.1 ht with rfl | ht
  ·exact ⟨by rw [h.1]; exact Int.le_refl _, by rw [h.1]; exact h.2.1, h1⟩
  ·have := Chn_mem h.2.2.2 t ht
   have := h.2.1
   omega
theorem Ch2_snoc {t : Tok} : ∀ {l : List Tok} {a b : Int}, Ch2 a l b → tOK b t → Ch2 a (l ++ [t]) t.t
 | [], a, b, h, h1 => by
  cases h; exact ⟨h1, rfl⟩
 | u :: r, a, b, h, h1 => ⟨h.1, Ch2_snoc h.2 h1⟩
theorem drop_getD {l : List Tok} {i : Nat} (h : i < l.length) : l.drop i = l.getD i ⟨0, 0, 0⟩ :: l.drop (i + 1) := by
 rw [List.drop_eq_getElem_cons h, List.getD_eq_getElem?_getD, List.getElem?_eq_getElem h]; rfl
theorem ends_l0 (s : ByteArray) (hs : s.size < 1073741824) (l : List Tok) (hl : l.length < 1073741824) (H : ∀ t, t ∈ l → 0 ≤ t.f ∧ t.f < t.t ∧ t.t ≤ s.size) : ∀ (n0 : Nat) (i : Int), 0 ≤ i → (l.length : Int) + 1 - i < n0 → i ≤ l.length →
  Ev (sends.l0 W LM n0 s l i ()) (Qs .b fun (_ : Bool) => True)
 | 0, i, h1, h2, h3 => by omega
 | n0 + 1, i, h1, h2, h3 => by
  rw [sends.l0_succ]
  (try simp (disch := omega) only [wi])
  have ht : i < l.length → 0 ≤ (List.getD l (Int.toNat i) (⟨0, 0, 0⟩ : Tok)).f ∧ (List.getD l (Int.toNat i) (⟨0, 0, 0⟩ : Tok)).f < (List.getD l (Int.toNat i) (⟨0, 0, 0⟩ : Tok)).t ∧ (List.getD l (Int.toNat i) (⟨0, 0, 0⟩ : Tok)).t ≤ s.size := by
   intro hi
   rw [List.getD_eq_getElem?_getD, List.getElem?_eq_getElem (by omega)]
   exact H _ (List.getElem_mem _)
  generalize List.getD l (Int.toNat i) (⟨0, 0, 0⟩ : Tok) = t at ht
  have hz := szx s 0 t.t.toNat
  repeat' (first | exact Ev.no (by omega) | with_reducible (first | (first | apply Ev.and3 | apply Ev.and | apply Ev.dec | apply Ev.nb | apply Ev.bl | apply Ev.pr) <;> intro _ | apply retI | apply retB | apply retS | apply retTD | apply rII | apply rSB | apply rIB | apply rISB | apply rISI | apply rSII | apply rIII))
  ·trivial
  ·refine Ev.cx (find_sp _ (by omega) _ (by omega) (by omega) ⟨#[10]⟩ (by decide)) (fun _ => rfl) fun (x : Int) hx => ?_
   repeat' (first | exact Ev.no (by omega) | with_reducible (first | (first | apply Ev.and3 | apply Ev.and | apply Ev.dec | apply Ev.nb | apply Ev.bl | apply Ev.pr) <;> intro _ | apply retI | apply retB | apply retS | apply retTD | apply rII | apply rSB | apply rIB | apply rISB | apply rISI | apply rSII | apply rIII))
   ·trivial
   ·exact ends_l0 s hs l hl H n0 _ (by omega) (by omega) (by omega)
  ·trivial
  ·exact ends_l0 s hs l hl H n0 _ (by omega) (by omega) (by omega)
  ·trivial
theorem ends_sp (s : ByteArray) (hs : s.size < 1073741824) (l : List Tok) (hl : l.length < 1073741824) (H : ∀ t, t ∈ l → 0 ≤ t.f ∧ t.f < t.t ∧ t.t ≤ s.size) (i : Int) (h0 : 0 ≤ i) (h1 : i < l.length) : Sp sends.n [.str s, .sl .tok l, .int i] .b (fun (_ : Bool) => True) := by
 refine Sp.of sends.fd ?_
 rw [sends_eq]
 (try simp (disch := omega) only [wi])
 exact ends_l0 s hs l hl H _ _ (by omega) (by unfold LM; omega) (by omega)
theorem retLL {e e' : El} {P : List e.T × List e'.T → Prop} {x : List e.T} {y : List e'.T} (h : P (x, y)) : Ev (some (.tup [.sl e x, .sl e' y], ())) (Qs (.t2 (.s e) (.s e')) P) := ⟨_, rfl, (x, y), rfl, h⟩
theorem Bare_l0 (s : ByteArray) (hs : s.size < 1073741824) : ∀ (n0 : Nat) (l : List Tok) (m : List Diag) (i : Int), 0 ≤ i → i ≤ s.size → (s.size : Int) - i < n0 → Chn 0 l i → m.length ≤ l.length →
  Ev (Bare.l0 W LM n0 s l m i ()) (Qs (.t2 (.s .tok) (.s .diag)) fun (x : List Tok × List Diag) => Chn 0 x.1 s.size)
 | 0, l, m, i, h1, h2, h3, h4, h5 => by omega
 | n0 + 1, l, m, i, h1, h2, h3, h4, h5 => by
  have hm : maxRow = 4294967296 := rfl
  have hl := Chn_len h4
  rw [Bare.l0_succ]
  simp only [List.length_singleton]
  repeat' (first | exact Ev.no (by omega) | with_reducible (first | (first | apply Ev.and3 | apply Ev.and | apply Ev.dec | apply Ev.nb | apply Ev.bl | apply Ev.pr) <;> intro _ | apply retI | apply retB | apply retS | apply retTD | apply rII | apply rSB | apply rIB | apply rISB | apply rISI | apply rSII | apply rIII))
  ·refine Ev.cx (Next_sp s hs i h1 ‹_›) (fun _ => rfl) fun x hx => ?_
   obtain ⟨q1, q2, q3, q4⟩ := hx
   have hc := Chn_snoc h4 q1 q2 q4
   repeat' (first | exact Ev.no (by omega) | with_reducible (first | (first | apply Ev.and3 | apply Ev.and | apply Ev.dec | apply Ev.nb | apply Ev.bl | apply Ev.pr) <;> intro _ | apply retI | apply retB | apply retS | apply retTD | apply rII | apply rSB | apply rIB | apply rISB | apply rISI | apply rSII | apply rIII))
   ·exact Bare_l0 s hs n0 _ _ _ (by omega) (by omega) (by omega) hc (by simp; omega)
   ·exact Bare_l0 s hs n0 _ _ _ (by omega) (by omega) (by omega) hc (by simp; omega)
  ·refine retLL ?_
   have e : i = s.size := by omega
   rw [← e]; exact h4
theorem Bare_sp (s : ByteArray) (hs : s.size < 1073741824) : Sp Bare.n [.str s] (.t2 (.s .tok) (.s .diag)) (fun (x : List Tok × List Diag) => Chn 0 x.1 s.size) := by
 refine Sp.of Bare.fd ?_
 rw [Bare_eq]
 exact Bare_l0 s hs _ [] [] 0 (by omega) (by omega) (by unfold LM; omega) rfl (by simp)
theorem Scan_l0 (s : ByteArray) (hs : s.size < 1073741824) (l : List Tok) (m : List Diag) (hl : Chn 0 l s.size) : ∀ (d n0 i : Nat) (o : List Tok) (c : Int), i + d = l.length → d < n0 → Ch2 0 o c → Chn c (l.drop i) s.size → o.length ≤ 2 * i →
  Ev (Scan.l0 W LM n0 s l m o i ()) (Qs (.t2 (.s .tok) (.s .diag)) fun (x : List Tok × List Diag) => Ch2 0 x.1 s.size ∧ x.1.length ≤ 2 * l.length)
 | d, 0, i, o, c, h1, h2, h3, h4, h5 => by omega
 | 0, n0 + 1, i, o, c, h1, h2, h3, h4, h5 => by
  rw [Scan.l0_succ]
  simp only [List.length_singleton]
  repeat' (first | exact Ev.no (by omega) | with_reducible (first | (first | apply Ev.and3 | apply Ev.and | apply Ev.dec | apply Ev.nb | apply Ev.bl | apply Ev.pr) <;> intro _ | apply retI | apply retB | apply retS | apply retTD | apply rII | apply rSB | apply rIB | apply rISB | apply rISI | apply rSII | apply rIII))
  refine retLL ⟨?_, by dsimp only; omega⟩
  rw [List.drop_of_length_le (by omega)] at h4
  have h4 : c = s.size := h4
  rw [← h4]; exact h3
 | d + 1, n0 + 1, i, o, c, h1, h2, h3, h4, h5 => by
  have hm : maxRow = 4294967296 := rfl
  have hlen := Chn_len hl
  have e1 : (IntKind.i64.wrap ((i : Int) + 1)) = ((i + 1 : Nat) : Int) := by rw [wi _ (by omega) (by omega)]; omega
  rw [Scan.l0_succ, e1]
  simp only [List.length_singleton, List.length_append, Int.toNat_natCast]
  rw [drop_getD (by omega)] at h4
  generalize List.getD l i (⟨0, 0, 0⟩ : Tok) = t at h4
  obtain ⟨q1, q2, q3, q4⟩ := h4
  have k1 : Ch2 0 (o ++ [t]) t.t := Ch2_snoc h3 ⟨q1, .inl ⟨q3, q2⟩⟩
  have k2 : Ch2 0 ((o ++ [t]) ++ [⟨16, t.t, t.t⟩]) t.t := Ch2_snoc (t := ⟨16, t.t, t.t⟩) k1 ⟨rfl, .inr ⟨rfl, rfl⟩⟩
  repeat' (first | exact Ev.no (by omega) | with_reducible (first | (first | apply Ev.and3 | apply Ev.and | apply Ev.dec | apply Ev.nb | apply Ev.bl | apply Ev.pr) <;> intro _ | apply retI | apply retB | apply retS | apply retTD | apply rII | apply rSB | apply rIB | apply rISB | apply rISI | apply rSII | apply rIII))
  refine Ev.cx (sEnds_sp _) (fun _ => rfl) fun x _ => ?_
  repeat' (first | exact Ev.no (by omega) | with_reducible (first | (first | apply Ev.and3 | apply Ev.and | apply Ev.dec | apply Ev.nb | apply Ev.bl | apply Ev.pr) <;> intro _ | apply retI | apply retB | apply retS | apply retTD | apply rII | apply rSB | apply rIB | apply rISB | apply rISI | apply rSII | apply rIII))
  ·refine Ev.cx (ends_sp s hs l (by omega) (Chn_mem hl) _ (by omega) (by omega)) (fun _ => rfl) fun x _ => ?_
   repeat' (first | exact Ev.no (by omega) | with_reducible (first | (first | apply Ev.and3 | apply Ev.and | apply Ev.dec | apply Ev.nb | apply Ev.bl | apply Ev.pr) <;> intro _ | apply retI | apply retB | apply retS | apply retTD | apply rII | apply rSB | apply rIB | apply rISB | apply rISI | apply rSII | apply rIII))
   ·exact Scan_l0 s hs l m hl d n0 (i + 1) _ t.t (by omega) (by omega) k2 q4 (by simp; omega)
   ·exact Scan_l0 s hs l m hl d n0 (i + 1) _ t.t (by omega) (by omega) k1 q4 (by simp; omega)
  ·exact Scan_l0 s hs l m hl d n0 (i + 1) _ t.t (by omega) (by omega) k1 q4 (by simp; omega)
theorem Scan_sp (s : ByteArray) (hs : s.size < 1073741824) : Sp Scan.n [.str s] (.t2 (.s .tok) (.s .diag)) (fun (x : List Tok × List Diag) => Ch2 0 x.1 s.size ∧ x.1.length ≤ 2 * s.size) := by
 refine Sp.of Scan.fd ?_
 rw [Scan_eq]
 refine Ev.cx (Bare_sp s hs) (fun _ => rfl) fun x hx => ?_
 have hl := Chn_len hx
 exact (Scan_l0 s hs x.1 x.2 hx x.1.length _ 0 [] 0 (by omega) (by unfold LM; omega) rfl hx (by simp)).mono fun y hy => ⟨hy.1, by have := hy.2; omega⟩
def ToksQ (l : List Tok) (z : Int) (r : List Tok) : Prop := Ch2 0 r z ∧ r.length ≤ l.length
theorem toks_l2 (l : List Tok) (hl : l.length < 2147483648) (z : Int) (n0 : Nat) (o : List Tok) (a : Nat) (ha : a < l.length) (t : Tok) (ht : l.getD a ⟨0, 0, 0⟩ = t) (ho : o.length ≤ a)
  (H1 : Ev (toks.l0 W LM n0 l (o ++ [t]) ((a + 1 : Nat) : Int) ()) (Qs (.s .tok) (ToksQ l z))) (H2 : t.k = 16 → Ev (toks.l0 W LM n0 l o ((a + 1 : Nat) : Int) ()) (Qs (.s .tok) (ToksQ l z))) :
  ∀ (n2 : Nat) (b : Bool) (i : Int), 0 ≤ i → i ≤ l.length → (l.length : Int) - i < n2 → (b = true → t.k = 16) → Ev (toks.l2 W LM n0 n2 l o a b i ()) (Qs (.s .tok) (ToksQ l z))
 | 0, b, i, h1, h2, h3, h4 => by omega
 | n2 + 1, b, i, h1, h2, h3, h4 => by
  have hm : maxRow = 4294967296 := rfl
  have e1 : (IntKind.i64.wrap ((a : Int) + 1)) = ((a + 1 : Nat) : Int) := by rw [wi _ (by omega) (by omega)]; omega
  have e2 : i < l.length → (IntKind.i64.wrap (i + 1)) = i + 1 := fun h => wi _ (by omega) (by omega)
  rw [toks.l2_succ, e1]
  simp only [List.length_singleton, Int.toNat_natCast]
  rw [ht]
  repeat' (first | exact Ev.no (by omega) | with_reducible (first | (first | apply Ev.and3 | apply Ev.and | apply Ev.dec | apply Ev.nb | apply Ev.bl | apply Ev.pr) <;> intro _ | apply retI | apply retB | apply retS | apply retTD | apply rII | apply rSB | apply rIB | apply rISB | apply rISI | apply rSII | apply rIII))
  ·rw [e2 ‹_›]
   exact toks_l2 l hl z n0 o a ha t ht ho H1 H2 n2 _ _ (by omega) (by omega) (by omega) fun _ => h4 ‹_›
  all_goals first
   | exact H1
   | exact H2 (h4 ‹_›)
   | (rename_i q; rw [‹b = false›] at q; cases q)
theorem toks_l0 (l : List Tok) (hl : l.length < 2147483648) (z : Int) : ∀ (d n0 i : Nat) (o : List Tok) (c : Int), i + d = l.length → d < n0 → Ch2 0 o c → Ch2 c (l.drop i) z → o.length ≤ i →
  Ev (toks.l0 W LM n0 l o i ()) (Qs (.s .tok) (ToksQ l z))
 | d, 0, i, o, c, h1, h2, h3, h4, h5 => by omega
 | 0, n0 + 1, i, o, c, h1, h2, h3, h4, h5 => by
  rw [toks.l0_succ]
  repeat' (first | exact Ev.no (by omega) | with_reducible (first | (first | apply Ev.and3 | apply Ev.and | apply Ev.dec | apply Ev.nb | apply Ev.bl | apply Ev.pr) <;> intro _ | apply retI | apply retB | apply retS | apply retTD | apply rII | apply rSB | apply rIB | apply rISB | apply rISI | apply rSII | apply rIII))
  refine retL ⟨?_, by omega⟩
  rw [List.drop_of_length_le (by omega)] at h4
  have h4 : c = z := h4
  rw [← h4]; exact h3
 | d + 1, n0 + 1, i, o, c, h1, h2, h3, h4, h5 => by
  have e1 : (IntKind.i64.wrap ((i : Int) + 1)) = ((i + 1 : Nat) : Int) := by rw [wi _ (by omega) (by omega)]; omega
  rw [toks.l0_succ, e1]
  simp only [Int.toNat_natCast]
  rw [drop_getD (by omega)] at h4
  obtain ⟨t, ht⟩ : ∃ t, List.getD l i (⟨0, 0, 0⟩ : Tok) = t := ⟨_, rfl⟩
  rw [ht] at h4
  simp only [ht]
  obtain ⟨q1, q2⟩ := h4
  have k1 : Ch2 0 (o ++ [t]) t.t := Ch2_snoc h3 q1
  repeat' (first | exact Ev.no (by omega) | with_reducible (first | (first | apply Ev.and3 | apply Ev.and | apply Ev.dec | apply Ev.nb | apply Ev.bl | apply Ev.pr) <;> intro _ | apply retI | apply retB | apply retS | apply retTD | apply rII | apply rSB | apply rIB | apply rISB | apply rISI | apply rSII | apply rIII))
  refine toks_l2 l hl z n0 o i (by omega) t ht h5 (toks_l0 l hl z d n0 (i + 1) _ t.t (by omega) (by omega) k1 q2 (by simp; omega)) (fun hk => ?_) _ _ _ (by omega) (by omega) (by unfold LM; omega) (fun h => of_decide_eq_true h)
  have hc : t.t = c := by
   rcases q1.2 with ⟨hk2, _⟩ | ⟨_, h⟩
   ·unfold kOK at hk2; omega
   ·exact h
  rw [hc] at q2
  exact toks_l0 l hl z d n0 (i + 1) o c (by omega) (by omega) h3 q2 (by omega)
theorem toks_sp (s : ByteArray) (hs : s.size < 1073741824) : Sp toks.n [.str s] (.s .tok) (fun (r : List Tok) => Ch2 0 r s.size ∧ r.length ≤ 2 * s.size) := by
 refine Sp.of toks.fd ?_
 rw [toks_eq]
 refine Ev.cx (Scan_sp s hs) (fun _ => rfl) fun x hx => ?_
 exact (toks_l0 x.1 (by omega) s.size x.1.length _ 0 [] 0 (by omega) (by unfold LM; omega) rfl hx.1 (by simp)).mono fun y hy => ⟨hy.1, by have := hy.2; omega⟩
end Go.AI.Sn
end
namespace Go.AI.Rd
theorem deep_l0 (n : Int) (hn : n ≤ 400) (a b : ByteArray) (ha : a.size ≤ 16) (hb : b.size ≤ 16) : ∀ (n0 : Nat) (s : ByteArray) (i : Int), 0 ≤ i → i ≤ n → n - i < n0 → s.size ≤ 1 + 32 * i →
  ExprDeep.l0 W3 LIM n0 n a b s i () = some (.bool true, ())
 | 0, s, i, h0, h1, h2, h3 => by omega
 | n0 + 1, s, i, h0, h1, h2, h3 => by
  rw [ExprDeep.l0_succ]
  have e1 : IntKind.i64.wrap (i + 1) = i + 1 := wi _ (by omega) (by omega)
  have z1 : (a ++ s).size = a.size + s.size := ByteArray.size_append
  have z2 : ((a ++ s) ++ b).size = (a ++ s).size + b.size := ByteArray.size_append
  by_cases hi : i < n
  ·rw [if_pos (decide_eq_true hi), if_pos (decide_eq_true (by omega)), if_pos (decide_eq_true (by omega)), e1]
   exact deep_l0 n hn a b ha hb n0 _ _ (by omega) (by omega) (by omega) (by omega)
  ·rw [if_neg (by simpa using hi)]
   obtain ⟨l, h4, h5, h6⟩ := Sn.toks_sp s (by omega)
   rw [cX_c (h := .s .tok) (x := l) ((W3_W (by decide) (by decide) (by decide)).trans h4) rfl]
   exact both_same (by omega)
theorem deep_val (n : Int) (a b : ByteArray) : evalBody T0 W3 .unit LIM ExprDeep.I [.int n, .str a, .str b] () = some (.bool true, ()) := by
 rw [ExprDeep_eq]
 by_cases h1 : n < 0
 ·rw [if_pos (decide_eq_true h1)]
 by_cases h2 : n > 400
 ·rw [if_neg (by simpa using h1), if_pos (decide_eq_true h2)]
 by_cases h3 : (a.size : Int) > 16
 ·rw [if_neg (by simpa using h1), if_neg (by simpa using h2), if_pos (decide_eq_true h3)]
 by_cases h4 : (b.size : Int) > 16
 ·rw [if_neg (by simpa using h1), if_neg (by simpa using h2), if_neg (by simpa using h3), if_pos (decide_eq_true h4)]
 rw [if_neg (by simpa using h1), if_neg (by simpa using h2), if_neg (by simpa using h3), if_neg (by simpa using h4)]
 have e : (⟨#[120]⟩ : ByteArray).size = 1 := rfl
 exact deep_l0 n (by omega) a b (by omega) (by omega) _ _ 0 (by omega) (by omega) (by unfold LIM; omega) (by omega)
theorem deep_calls (n : Int) (a b : ByteArray) (w : World) : Calls PG 5 #[.int .i64 n, .string a, .string b] w (True' w) :=
 law_calls ExprDeep.ok (deep_val n a b) (fun w S g => ⟨rfl, fun i hi => by
  match i, hi with
  | 0, _ => exact .int n
  | 1, _ => exact .str a
  | 2, _ => exact .str b⟩) w
end Go.AI.Rd
