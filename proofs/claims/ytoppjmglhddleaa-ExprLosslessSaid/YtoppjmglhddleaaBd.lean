/- DERIVED. THE EVALUATOR, THE READER, THE SCANNER: lemmas for Lossless. -/
import Derived.Test.YtoppjmglhddleaaBc
set_option linter.unusedVariables false
set_option linter.unusedSimpArgs false
namespace Go.AI
section
variable {tab : Tab} {call : (τ : STy) → Nat → List AV → τ.T → Option (AV × τ.T)} {τ : STy} {σ σ' σ1 σ2 : St} {P : Program} {all : List Oper}
def gd (all : List Oper) (o : Oper) (σ : St) : Option Bool :=
 match o.guard with
 | none => some true
 | some (j, w) =>
  match dstAt all j with
  | some d => match getT σ.t d with | .bool x => some (x == w) | .skip => some false | _ => none
  | none => none
def gstep (tab : Tab) (call : (τ : STy) → Nat → List AV → τ.T → Option (AV × τ.T)) (τ : STy) (all : List Oper) (o : Oper) (σ : St) : Option St :=
 match gd all o σ with
 | some true => stepOp tab call τ o σ some
 | some false => some (σ.put o.dst .skip)
 | none => none
def gacc (tab : Tab) (all : List Oper) (o : Oper) (σ : St) : Acc := match gd all o σ with | some true => accOf tab σ o | _ => .none_
def gIsVal (all : List Oper) (o : Oper) (σ : St) : Bool := match gd all o σ with | some true => isVal o σ | _ => true
def gVal (tab : Tab) (all : List Oper) (o : Oper) (σ : St) : Option AV := match gd all o σ with | some true => valOp tab o σ | some false => some .skip | none => none
def gIsOpt (all : List Oper) (o : Oper) (σ : St) : Bool := match gd all o σ with | some true => isOpt o σ | _ => false
def GL (all : List Oper) (o : Oper) (σ σ' : St) : Prop := ∀ i, i ∈ looks all o → getT σ'.t i = getT σ.t i
theorem GL.looks {o : Oper} (h : GL all o σ σ') : Looks o σ σ' := by
 intro x hx
 cases x with
 | tmp i =>
  refine h i ?_
  unfold AI.looks
  exact List.mem_append_right _ (List.mem_filterMap.2 ⟨.tmp i, hx, rfl⟩)
 | _ => rfl
theorem gd_congr {o : Oper} (h : GL all o σ σ') : gd all o σ' = gd all o σ := by
 unfold gd
 cases hg : o.guard with
 | none => rfl
 | some p =>
  obtain ⟨j, w⟩ := p
  simp only
  cases hd : dstAt all j with
  | none => rfl
  | some d =>
   simp only
   rw [h d (by unfold AI.looks; rw [hg]; simp [hd])]
theorem gacc_congr {o : Oper} (h : GL all o σ σ') : gacc tab all o σ' = gacc tab all o σ := by
 unfold gacc
 rw [gd_congr h, acc_congr h.looks]
theorem gIsVal_congr {o : Oper} (h : GL all o σ σ') : gIsVal all o σ' = gIsVal all o σ := by
 unfold gIsVal
 rw [gd_congr h, isVal_congr h.looks]
theorem gstep_val {o : Oper} (hv : gIsVal all o σ = true) : gstep tab call τ all o σ = (gVal tab all o σ).map (σ.put o.dst) := by
 unfold gIsVal at hv
 unfold gstep gVal
 rcases hg : gd all o σ with _ | (_ | _) <;> simp only [hg] at hv ⊢
 ·rfl
 ·rfl
 ·exact stepOp_val hv
theorem gVal_congr (hTab : TabOK P tab) {o : Oper} (h : GL all o σ σ') (hr : Agree σ σ' (gacc tab all o σ)) : gVal tab all o σ' = gVal tab all o σ := by
 unfold gVal gacc at *
 rw [gd_congr h]
 rcases hg : gd all o σ with _ | (_ | _) <;> simp only [hg] at hr ⊢
 exact valOp_congr hTab h.looks hr
theorem gstep_loc (hTab : TabOK P tab) {N : Nat} {o : Oper} (hfine : opFine N o = true) (h : GL all o σ σ') (hh : HE σ σ') (ho : gIsOpt all o σ = false) (hs : gstep tab call τ all o σ = some σ1) :
  ∃ σ1', gstep tab call τ all o σ' = some σ1' ∧ RelS o.dst σ σ' σ1 σ1' := by
 unfold gstep gIsOpt at *
 rw [gd_congr h]
 rcases hg : gd all o σ with _ | (_ | _) <;> simp only [hg] at hs ho ⊢
 ·cases hs
 ·simp only [Option.some.injEq] at hs
  subst hs
  exact ⟨_, rfl, RelS.put (σ := σ) (σ' := σ') hh rfl rfl _ _⟩
 ·exact stepOp_loc hTab hfine h.looks hh ho hs
theorem gstep_chg (hTab : TabOK P tab) {o : Oper} (hs : gstep tab call τ all o σ = some σ1) : Chg σ σ1 (gacc tab all o σ) := by
 unfold gstep gacc at *
 rcases hg : gd all o σ with _ | (_ | _) <;> simp only [hg] at hs ⊢
 ·cases hs
 ·simp only [Option.some.injEq] at hs
  subst hs
  exact put_HE _ _ _
 ·exact stepOp_chg hTab hs
theorem gval_of_reads {o : Oper} (h : (gacc tab all o σ).reads = true) : gIsVal all o σ = true := by
 unfold gacc gIsVal at *
 rcases hg : gd all o σ with _ | (_ | _) <;> simp only [hg] at h ⊢
 exact val_of_reads h
theorem geff_ok {N : Nat} {o : Oper} (hfine : opFine N o = true) (hA : (gacc tab all o σ).writes = true) (hs : gstep tab call τ all o σ = some σ1) :
  ∃ e, EffOf o σ e (gacc tab all o σ) ∧ ∀ σ', GL all o σ σ' → AgreeW σ σ' (gacc tab all o σ) → gstep tab call τ all o σ' = some (e.app o.dst σ') := by
 unfold gstep gacc at *
 rcases hg : gd all o σ with _ | (_ | _) <;> simp only [hg] at hs hA ⊢
 ·cases hs
 ·simp [Acc.writes] at hA
 ·obtain ⟨e, h1, h2⟩ := eff_ok hfine hA hs
  exact ⟨e, h1, fun σ' hL hW => by simp only [gd_congr hL, hg]; exact h2 σ' hL.looks hW⟩
theorem gcall_b {o : Oper} (hA : gacc tab all o σ = .call) (hs : gstep tab call τ all o σ = some σ1) : σ1.b = σ.b ∧ ∀ b', gstep tab call τ all o { σ with b := b' } = some { σ1 with b := b' } := by
 have hgd : ∀ b', gd all o { σ with b := b' } = gd all o σ := fun _ => rfl
 unfold gstep gacc at *
 simp only [hgd]
 rcases hg : gd all o σ with _ | (_ | _) <;> simp only [hg] at hs hA ⊢
 ·cases hs
 ·cases hA
 ·exact call_b hA hs
theorem isOpt_acc {o : Oper} : gIsOpt all o σ = true ↔ ∃ k, gacc tab all o σ = .wrE k := by
 unfold gIsOpt gacc
 rcases hg : gd all o σ with _ | (_ | _)
 ·simp
 ·simp
 ·dsimp only
  clear hg
  obtain ⟨dst, op, type, pos, after, guard⟩ := o
  cases op <;> simp only [isOpt, accOf]
  case store T p x => cases hp : getO σ.t p <;> simp [hp] <;> (try (cases hT : tab.ty T <;> simp [hT]))
  case alloc T => cases dst <;> simp
  case box T x => cases dst <;> simp
  case buildSlice T n parts => split <;> simp
  case load T p => cases hp : getO σ.t p <;> simp [hp] <;> (try (cases hT : tab.ty T <;> simp [hT]))
  case nilCheck x => cases hp : getO σ.t x <;> simp [hp]
  case fieldAddr T x f => cases hp : getO σ.t x <;> simp [hp]
  case slice T x lo hi mx => cases hp : getO σ.t x <;> simp [hp, accLst]
  case indexAddr T x i => cases hp : getO σ.t x <;> simp [hp, accLst]
  case call cl =>
   cases hc : cl.callee with
   | invoke r m => simp [hc]
   | builtin b =>
    simp only [hc]
    cases b <;> simp
    rcases ha : cl.args.toList with _ | ⟨x, _ | ⟨y, l⟩⟩ <;> simp [ha]
    cases hp : getO σ.t x <;> simp [hp, accLst]
   | value f =>
    simp only [hc]
    cases f <;> simp
    split <;> simp
  all_goals simp
theorem parts2_spec {x y : Oper} (h : parts2 all x y = true) : (∀ d, x.dst = some d → d ∉ looks all y) ∧ (∀ d, y.dst = some d → d ∉ looks all x) ∧ ∀ d, x.dst = some d → y.dst ≠ some d := by
 unfold parts2 at h
 cases hx : x.dst <;> cases hy : y.dst <;> simp only [hx, hy] at h
 ·exact ⟨fun d h => (by cases h), fun d h => (by cases h), fun d h => (by cases h)⟩
 ·rename_i e
  refine ⟨fun d h => (by cases h), fun d hd => ?_, fun d h => (by cases h)⟩
  cases hd; simpa using h
 ·rename_i d
  refine ⟨fun d' hd => ?_, fun d h => (by cases h), fun d' hd => (by simp)⟩
  cases hd; simpa using h
 ·rename_i d e
  simp only [Bool.and_eq_true, Bool.not_eq_true'] at h
  refine ⟨fun d' hd => ?_, fun d' hd => ?_, fun d' hd => ?_⟩
  ·cases hd; simpa using h.2.1
  ·cases hd; simpa using h.2.2
  ·cases hd
   intro e'
   cases e'
   simp at h
theorem comm_rd_l (hTab : TabOK P tab) {N : Nat} {x y : Oper} (fx : opFine N x = true) (fy : opFine N y = true) (hp : parts2 all x y = true) (hx : gstep tab call τ all x σ = some σ1) (hy : gstep tab call τ all y σ1 = some σ2)
  (hv : gIsVal all x σ = true) (ho : gIsOpt all y σ1 = false) (hag : ∀ σ1', gstep tab call τ all y σ = some σ1' → Agree σ σ1' (gacc tab all x σ)) :
  ∃ σ1' σ2', gstep tab call τ all y σ = some σ1' ∧ gstep tab call τ all x σ1' = some σ2' ∧ Eqv σ2 σ2' ∧ gacc tab all y σ = gacc tab all y σ1 ∧ gacc tab all x σ1' = gacc tab all x σ := by
 obtain ⟨p1, p2, p3⟩ := parts2_spec hp
 rw [gstep_val hv] at hx
 cases hval : gVal tab all x σ with
 | none => rw [hval] at hx; cases hx
 | some v =>
  rw [hval] at hx
  simp only [Option.map_some, Option.some.injEq] at hx
  subst hx
  have hLy : GL all y (σ.put x.dst v) σ := by
   intro i hi
   rw [getT_put, if_neg (fun e => p1 i e hi)]
  obtain ⟨σ1', g1, g2⟩ := gstep_loc hTab fy hLy (put_HE σ x.dst v).symm ho hy
  have hLx : GL all x σ σ1' := by
   intro i hi
   rw [g2.t, if_neg (fun e => p2 i e hi)]
  have hvx := gVal_congr hTab hLx (hag σ1' g1)
  have hx' : gstep tab call τ all x σ1' = some (σ1'.put x.dst v) := by
   rw [gstep_val (by rw [gIsVal_congr hLx]; exact hv), hvx, hval]; rfl
  refine ⟨σ1', _, g1, hx', ⟨fun i => ?_, ?_⟩, gacc_congr hLy, gacc_congr hLx⟩
  ·rw [getT_put, g2.t]
   split
   ·rename_i e
    rw [g2.o i (p3 i e), getT_put, if_pos e]
   ·rename_i e
    split
    ·rfl
    ·rename_i e2
     rw [g2.o i e2, getT_put, if_neg e]
  ·exact g2.h.trans (put_HE _ _ _)
theorem comm_rd_r (hTab : TabOK P tab) {N : Nat} {x y : Oper} (fx : opFine N x = true) (fy : opFine N y = true) (hp : parts2 all x y = true) (hx : gstep tab call τ all x σ = some σ1) (hy : gstep tab call τ all y σ1 = some σ2)
  (hv : gIsVal all y σ1 = true) (ho : gIsOpt all x σ = false) (hag : Agree σ1 σ (gacc tab all y σ1)) :
  ∃ σ1' σ2', gstep tab call τ all y σ = some σ1' ∧ gstep tab call τ all x σ1' = some σ2' ∧ Eqv σ2 σ2' ∧ gacc tab all y σ = gacc tab all y σ1 ∧ gacc tab all x σ1' = gacc tab all x σ := by
 obtain ⟨p1, p2, p3⟩ := parts2_spec hp
 have hself := gstep_loc hTab fx (σ' := σ) (fun i _ => rfl) (HE.refl σ) ho hx
 obtain ⟨_, _, hR⟩ := hself
 have hLy : GL all y σ1 σ := by
  intro i hi
  rw [hR.o i (fun e => p1 i e hi)]
 rw [gstep_val hv] at hy
 cases hval : gVal tab all y σ1 with
 | none => rw [hval] at hy; cases hy
 | some v =>
  rw [hval] at hy
  simp only [Option.map_some, Option.some.injEq] at hy
  subst hy
  have hvy := gVal_congr hTab hLy hag
  have hy' : gstep tab call τ all y σ = some (σ.put y.dst v) := by
   rw [gstep_val (by rw [gIsVal_congr hLy]; exact hv), hvy, hval]; rfl
  have hLx : GL all x σ (σ.put y.dst v) := by
   intro i hi
   rw [getT_put, if_neg (fun e => p2 i e hi)]
  obtain ⟨σ2', g1, g2⟩ := gstep_loc hTab fx hLx (put_HE σ y.dst v) ho hx
  refine ⟨_, σ2', hy', g1, ⟨fun i => ?_, ?_⟩, gacc_congr hLy, gacc_congr hLx⟩
  ·rw [g2.t, getT_put, getT_put]
   split
   ·rename_i e
    rw [if_neg (p3 i e)]
   ·rename_i e
    split
    ·rfl
    ·rw [hR.o i e]
  ·exact (put_HE σ1 y.dst v).symm.trans g2.h
theorem comm_wr {N : Nat} {x y : Oper} (fx : opFine N x = true) (fy : opFine N y = true) (hp : parts2 all x y = true) (hap : Acc.apart (gacc tab all x σ) (gacc tab all y σ1) = true) (hx : gstep tab call τ all x σ = some σ1) (hy : gstep tab call τ all y σ1 = some σ2)
  (hA : (gacc tab all x σ).writes = true) (hB : (gacc tab all y σ1).writes = true) :
  ∃ σ1' σ2', gstep tab call τ all y σ = some σ1' ∧ gstep tab call τ all x σ1' = some σ2' ∧ Eqv σ2 σ2' ∧ gacc tab all y σ = gacc tab all y σ1 ∧ gacc tab all x σ1' = gacc tab all x σ := by
 obtain ⟨p1, p2, p3⟩ := parts2_spec hp
 obtain ⟨ex, x1, x2⟩ := geff_ok fx hA hx
 obtain ⟨ey, y1, y2⟩ := geff_ok fy hB hy
 have hself : AgreeW σ σ (gacc tab all x σ) := by cases h : gacc tab all x σ <;> rw [h] at hA <;> first | rfl | (simp [Acc.writes] at hA; done)
 have e1 := x2 σ (fun i _ => rfl) hself
 rw [hx] at e1
 simp only [Option.some.injEq] at e1
 have hself2 : AgreeW σ1 σ1 (gacc tab all y σ1) := by cases h : gacc tab all y σ1 <;> rw [h] at hB <;> first | rfl | (simp [Acc.writes] at hB; done)
 have e2 := y2 σ1 (fun i _ => rfl) hself2
 rw [hy] at e2
 simp only [Option.some.injEq] at e2
 have hLy : GL all y σ1 σ := by
  intro i hi
  rw [e1, Eff.t, if_neg (fun e => p1 i e hi)]
 have hbx : ∀ k, (∀ p, ex.bu = some p → p.1 ≠ k) → getB σ1.b k = getB σ.b k := by
  intro k hk
  rw [e1, Eff.b]
  cases h : ex.bu with
  | none => rfl
  | some p => simp only; rw [if_neg (hk p h)]
 have hsx : σ1.s.length = σ.s.length := by
  rw [e1, Eff.s]
  cases h : ex.su with
  | none => rfl
  | some p =>
   simp only
   cases hAx : gacc tab all x σ <;> rw [hAx] at x1 hA <;> first | (simp [Acc.writes] at hA; done) | skip
   ·rw [x1.2.1] at h; cases h
   ·rw [x1.2.1] at h; cases h
   ·obtain ⟨_, _, l, g1, g2, g3⟩ := x1
    rw [h] at g1; cases g1
    exact writeL_length (by simp only; omega)
 -- what the two variables are
 have hkeys : ∀ p q, ex.bu = some p → ey.bu = some q → p.1 ≠ q.1 := by
  intro p q h1 h2 e
  cases hAx : gacc tab all x σ <;> rw [hAx] at x1 hA hap <;> first | (simp [Acc.writes] at hA; done) | skip
  ·have a1 := x1.2.2 p h1
   cases hAy : gacc tab all y σ1 <;> rw [hAy] at y1 hB hap <;> first | (simp [Acc.writes] at hB; done) | skip
   ·have a2 := y1.2.2 q h2
    rw [← a1, ← a2, e] at hap; simp [Acc.apart] at hap
   ·obtain ⟨_, _, l, a2⟩ := y1
    rw [h2] at a2; cases a2
    rw [← a1, e] at hap; simp [Acc.apart] at hap
   ·rw [y1.2.1] at h2; cases h2
  ·obtain ⟨_, _, l, a1⟩ := x1
   rw [h1] at a1; cases a1
   cases hAy : gacc tab all y σ1 <;> rw [hAy] at y1 hB hap <;> first | (simp [Acc.writes] at hB; done) | skip
   ·have a2 := y1.2.2 q h2
    rw [← a2, ← e] at hap; simp [Acc.apart] at hap
   ·obtain ⟨_, _, l', a2⟩ := y1
    rw [h2] at a2; cases a2
    simp only at e
    rw [e] at hap; simp [Acc.apart] at hap
   ·rw [y1.2.1] at h2; cases h2
  ·rw [x1.2.1] at h1; cases h1
 have hWy : AgreeW σ1 σ (gacc tab all y σ1) := by
  cases hAy : gacc tab all y σ1 <;> rw [hAy] at y1 hB hap <;> first | (simp [Acc.writes] at hB; done) | skip
  ·rename_i d
   refine (hbx d fun p hp => ?_).symm
   intro e
   cases hAx : gacc tab all x σ <;> rw [hAx] at x1 hA hap <;> first | (simp [Acc.writes] at hA; done) | skip
   ·have a1 := x1.2.2 p hp
    rw [← a1, e] at hap; simp [Acc.apart] at hap
   ·obtain ⟨_, _, l, a1⟩ := x1
    rw [hp] at a1; cases a1
    simp only at e
    rw [e] at hap; simp [Acc.apart] at hap
   ·rw [x1.2.1] at hp; cases hp
  ·rename_i d
   refine (hbx d fun p hp => ?_).symm
   obtain ⟨_, _, l, a2⟩ := y1
   exact hkeys p (d, l) hp a2
  ·exact hsx.symm
 have hy' := y2 σ hLy hWy
 have hLx : GL all x σ (ey.app y.dst σ) := by
  intro i hi
  rw [Eff.t, if_neg (fun e => p2 i e hi)]
 have hsy : ey.su = none ∨ ∃ p, ey.su = some p ∧ p.1 + p.2.length ≤ σ.s.length := by
  cases hAy : gacc tab all y σ1 <;> rw [hAy] at y1 hB <;> first | (simp [Acc.writes] at hB; done) | skip
  ·exact .inl y1.2.1
  ·exact .inl y1.2.1
  ·obtain ⟨_, _, l, g1, g2, g3⟩ := y1
   exact .inr ⟨_, g1, by rw [hsx] at g3; simp only; omega⟩
 have hWx : AgreeW σ (ey.app y.dst σ) (gacc tab all x σ) := by
  have hby : ∀ k, (∀ q, ey.bu = some q → q.1 ≠ k) → getB (ey.app y.dst σ).b k = getB σ.b k := by
   intro k hk
   rw [Eff.b]
   cases h : ey.bu with
   | none => rfl
   | some p => simp only; rw [if_neg (hk p h)]
  cases hAx : gacc tab all x σ <;> rw [hAx] at x1 hA hap <;> first | (simp [Acc.writes] at hA; done) | skip
  ·rename_i d
   refine hby d fun q hq e => ?_
   cases hAy : gacc tab all y σ1 <;> rw [hAy] at y1 hB hap <;> first | (simp [Acc.writes] at hB; done) | skip
   ·have a2 := y1.2.2 q hq
    rw [← a2, e] at hap; simp [Acc.apart] at hap
   ·obtain ⟨_, _, l, a2⟩ := y1
    rw [hq] at a2; cases a2
    simp only at e
    rw [e] at hap; simp [Acc.apart] at hap
   ·rw [y1.2.1] at hq; cases hq
  ·rename_i d
   obtain ⟨_, _, l, a1⟩ := x1
   exact hby d fun q hq => (hkeys (d, l) q a1 hq).symm
  ·show (ey.app y.dst σ).s.length = σ.s.length
   rw [Eff.s]
   rcases hsy with h | ⟨p, h, h2⟩
   ·rw [h]
   ·rw [h]; exact writeL_length h2
 have hx' := x2 _ hLx hWx
 refine ⟨_, _, hy', hx', ⟨fun i => ?_, ⟨fun k => ?_, ?_, ?_, ?_, ?_⟩⟩, gacc_congr hLy, gacc_congr hLx⟩
 ·rw [e2, Eff.t, Eff.t, Eff.t, e1, Eff.t]
  split
  ·rename_i e
   rw [if_neg (p3 i e)]
  ·rfl
 ·rw [e2, Eff.b, Eff.b, Eff.b, e1, Eff.b]
  cases h1 : ex.bu with
  | none => rfl
  | some p =>
   cases h2 : ey.bu with
   | none => rfl
   | some q =>
    simp only
    split
    ·rename_i e
     rw [if_neg (fun e' => hkeys p q h1 h2 (e.trans e'.symm))]
    ·rfl
 ·rw [e2, Eff.s, Eff.s, Eff.s, e1, Eff.s]
  cases h1 : ex.su with
  | none => rfl
  | some p =>
   cases h2 : ey.su with
   | none => rfl
   | some q =>
    simp only
    cases hAx : gacc tab all x σ <;> rw [hAx] at x1 hA hap <;> first | (simp [Acc.writes] at hA; done) | skip
    ·rw [x1.2.1] at h1; cases h1
    ·rw [x1.2.1] at h1; cases h1
    cases hAy : gacc tab all y σ1 <;> rw [hAy] at y1 hB hap <;> first | (simp [Acc.writes] at hB; done) | skip
    ·rw [y1.2.1] at h2; cases h2
    ·rw [y1.2.1] at h2; cases h2
    obtain ⟨_, _, l, a1, a2, a3⟩ := x1
    obtain ⟨_, _, m, b1, b2, b3⟩ := y1
    rw [h1] at a1; cases a1
    rw [h2] at b1; cases b1
    rw [hsx] at b3
    simp only [Acc.apart, Bool.or_eq_true] at hap
    refine writeL_comm (by simp only; omega) (by simp only; omega) ?_
    rcases hap with hap | hap
    ·have := Nat.le_of_ble_eq_true hap; right; simp only; omega
    ·have := Nat.le_of_ble_eq_true hap; left; simp only; omega
 ·rw [e2, (Eff.rest _ _ _).1, (Eff.rest _ _ _).1, (Eff.rest _ _ _).1, e1, (Eff.rest _ _ _).1]
 ·rw [e2, (Eff.rest _ _ _).2.1, (Eff.rest _ _ _).2.1, (Eff.rest _ _ _).2.1, e1, (Eff.rest _ _ _).2.1]
 ·rw [e2, (Eff.rest _ _ _).2.2, (Eff.rest _ _ _).2.2, (Eff.rest _ _ _).2.2, e1, (Eff.rest _ _ _).2.2]
end
end Go.AI
namespace Go.AI
section
variable {tab : Tab} {call : (τ : STy) → Nat → List AV → τ.T → Option (AV × τ.T)} {τ : STy} {σ σ' σ1 σ2 : St} {P : Program} {all : List Oper}
theorem notOpt {o : Oper} (h : ∀ k, gacc tab all o σ ≠ .wrE k) : gIsOpt all o σ = false := by
 cases hg : gIsOpt all o σ with
 | false => rfl
 | true => obtain ⟨k, hk⟩ := isOpt_acc.1 hg; exact absurd hk (h k)
theorem comm_al_call (hTab : TabOK P tab) {N d : Nat} {x y : Oper} (fx : opFine N x = true) (fy : opFine N y = true) (hp : parts2 all x y = true) (hx : gstep tab call τ all x σ = some σ1) (hy : gstep tab call τ all y σ1 = some σ2)
  (hA : gacc tab all x σ = .al d) (hB : gacc tab all y σ1 = .call) :
  ∃ σ1' σ2', gstep tab call τ all y σ = some σ1' ∧ gstep tab call τ all x σ1' = some σ2' ∧ Eqv σ2 σ2' ∧ gacc tab all y σ = gacc tab all y σ1 ∧ gacc tab all x σ1' = gacc tab all x σ := by
 obtain ⟨p1, p2, p3⟩ := parts2_spec hp
 obtain ⟨ex, x1, x2⟩ := geff_ok fx (by rw [hA]; rfl) hx
 rw [hA] at x1 x2
 obtain ⟨xd, xs, xb⟩ := x1
 have e1 := x2 σ (fun i _ => rfl) rfl
 rw [hx] at e1
 simp only [Option.some.injEq] at e1
 obtain ⟨c1, c2⟩ := gcall_b hB hy
 have c3 := c2 σ.b
 have hoy : gIsOpt all y { σ1 with b := σ.b } = false := notOpt (tab := tab) (fun k => by
  have hg : gacc tab all y { σ1 with b := σ.b } = gacc tab all y σ1 := gacc_congr (fun i _ => rfl)
  rw [hg, hB]; simp)
 have hLy : GL all y σ1 σ := by
  intro i hi
  rw [e1, Eff.t, if_neg (fun e => p1 i e hi)]
 have hs1 : σ1.s = σ.s := by rw [e1, Eff.s, xs]
 have hr1 := Eff.rest ex x.dst σ
 rw [← e1] at hr1
 obtain ⟨σ1', g1, g2⟩ := gstep_loc hTab fy (σ := { σ1 with b := σ.b }) (σ' := σ) hLy ⟨fun _ => rfl, hs1.symm, hr1.1.symm, hr1.2.1.symm, hr1.2.2.symm⟩ hoy c3
 have hLx : GL all x σ σ1' := by
  intro i hi
  rw [g2.t, if_neg (fun e => p2 i e hi)]
 have hx' := x2 σ1' hLx (g2.h.b d)
 refine ⟨σ1', _, g1, hx', ⟨fun i => ?_, ⟨fun k => ?_, ?_, ?_, ?_, ?_⟩⟩, gacc_congr hLy, gacc_congr hLx⟩
 ·have ho : ∀ i, y.dst ≠ some i → getT σ2.t i = getT σ1.t i := g2.o
  have ht : ∀ i, getT σ1'.t i = if y.dst = some i then getT σ2.t i else getT σ.t i := g2.t
  rw [Eff.t, ht]
  split
  ·rename_i e
   rw [ho i (p3 i e), e1, Eff.t, if_pos e]
  ·rename_i e
   split
   ·rfl
   ·rename_i e2
    rw [ho i e2, e1, Eff.t, if_neg e]
 ·have hb : ∀ k, getB σ1'.b k = getB σ.b k := g2.h.b
  rw [Eff.b, c1, e1, Eff.b]
  cases ex.bu with
  | none => exact hb k
  | some p => simp only; rw [hb]
 ·rw [Eff.s, xs]; exact g2.h.s
 ·rw [(Eff.rest _ _ _).1]; exact g2.h.v
 ·rw [(Eff.rest _ _ _).2.1]; exact g2.h.c
 ·rw [(Eff.rest _ _ _).2.2]; exact g2.h.fr
theorem comm_call_al (hTab : TabOK P tab) {N d : Nat} {x y : Oper} (fx : opFine N x = true) (fy : opFine N y = true) (hp : parts2 all x y = true) (hx : gstep tab call τ all x σ = some σ1) (hy : gstep tab call τ all y σ1 = some σ2)
  (hA : gacc tab all x σ = .call) (hB : gacc tab all y σ1 = .al d) :
  ∃ σ1' σ2', gstep tab call τ all y σ = some σ1' ∧ gstep tab call τ all x σ1' = some σ2' ∧ Eqv σ2 σ2' ∧ gacc tab all y σ = gacc tab all y σ1 ∧ gacc tab all x σ1' = gacc tab all x σ := by
 obtain ⟨p1, p2, p3⟩ := parts2_spec hp
 obtain ⟨ey, y1, y2⟩ := geff_ok fy (by rw [hB]; rfl) hy
 rw [hB] at y1 y2
 obtain ⟨yd, ys, yb⟩ := y1
 have e2 := y2 σ1 (fun i _ => rfl) rfl
 rw [hy] at e2
 simp only [Option.some.injEq] at e2
 obtain ⟨c1, c2⟩ := gcall_b hA hx
 have hox : gIsOpt all x σ = false := notOpt (tab := tab) (fun k => by rw [hA]; simp)
 obtain ⟨_, _, hR⟩ := gstep_loc hTab fx (σ' := σ) (fun i _ => rfl) (HE.refl σ) hox hx
 have hLy : GL all y σ1 σ := by
  intro i hi
  rw [hR.o i (fun e => p1 i e hi)]
 have hy' := y2 σ hLy (by show getB σ.b d = getB σ1.b d; rw [c1])
 have hLx : GL all x σ (ey.app y.dst σ) := by
  intro i hi
  rw [Eff.t, if_neg (fun e => p2 i e hi)]
 have hr1 := Eff.rest ey y.dst σ
 have c3 := c2 (ey.app y.dst σ).b
 obtain ⟨σ2', g1, g2⟩ := gstep_loc hTab fx (σ := { σ with b := (ey.app y.dst σ).b }) (σ' := ey.app y.dst σ) hLx ⟨fun _ => rfl, by rw [Eff.s, ys], hr1.1, hr1.2.1, hr1.2.2⟩ hox c3
 refine ⟨_, σ2', hy', g1, ⟨fun i => ?_, ⟨fun k => ?_, ?_, ?_, ?_, ?_⟩⟩, gacc_congr hLy, gacc_congr hLx⟩
 ·have ht : ∀ i, getT σ2'.t i = if x.dst = some i then getT σ1.t i else getT (ey.app y.dst σ).t i := g2.t
  rw [ht, e2, Eff.t, Eff.t]
  split
  ·rename_i e
   rw [if_neg (p3 i e)]
  ·rename_i e
   split
   ·rfl
   ·rw [hR.o i e]
 ·have hb : ∀ k, getB σ2'.b k = getB (ey.app y.dst σ).b k := g2.h.b
  rw [hb, e2, Eff.b, Eff.b, c1]
 ·rw [e2, Eff.s, ys]; exact g2.h.s
 ·rw [e2, (Eff.rest _ _ _).1]; exact g2.h.v
 ·rw [e2, (Eff.rest _ _ _).2.1]; exact g2.h.c
 ·rw [e2, (Eff.rest _ _ _).2.2]; exact g2.h.fr
def mapS (k w : Nat) (e : El) (i : Nat) (z : e.T) (σ : St) : St :=
 { σ with t := σ.t.map (fun p => (p.1, setEl k w e i z p.2)), b := σ.b.map (fun p => (p.1, p.2.map (setEl1 k w e i z))), s := σ.s.map (setEl1 k w e i z) }
theorem opt_form {N : Nat} {o : Oper} (hfine : opFine N o = true) (ho : gIsOpt all o σ = true) (hs : gstep tab call τ all o σ = some σ1) :
  o.dst = none ∧ ∃ k w e i z, σ1 = mapS k w e i z σ ∧ ∀ σ', GL all o σ σ' → σ'.v = σ.v → σ'.fr = σ.fr → gstep tab call τ all o σ' = some (mapS k w e i z σ') := by
 unfold gIsOpt gstep at *
 rcases hg : gd all o σ with _ | (_ | _) <;> simp only [hg] at ho hs
 ·cases ho
 ·cases ho
 ·have hgl : ∀ σ', GL all o σ σ' → gd all o σ' = some true := fun σ' h => by rw [gd_congr h, hg]
  clear hg
  have hlooks : ∀ σ', GL all o σ σ' → Looks o σ σ' := fun σ' h => h.looks
  obtain ⟨dst, op, type, pos, after, guard⟩ := o
  cases op <;> simp only [isOpt] at ho <;> try (cases ho; done)
  rename_i T p x
  have hdn : dst = none := by simp [opFine] at hfine; exact hfine.2
  subst hdn
  refine ⟨rfl, ?_⟩
  split at ho
  rotate_left
  ·cases ho
  rename_i k w e y i j hpt
  simp only [stepOp] at hs
  split at hs
  rotate_left
  ·cases hs
  rename_i ty hT
  split at hs
  rotate_left
  ·cases hs
  rename_i τ1 hst
  simp only [Option.some.injEq] at hs
  subst hs
  rw [hpt] at hst
  unfold storeAV at hst
  split at hst
  rotate_left
  ·cases hst
  rename_i h1 h2
  simp only at hst
  split at hst
  rotate_left
  ·cases hst
  rename_i h3 h4 h5 h6
  split at hst
  rotate_left
  ·cases hst
  rename_i z hz
  simp only [Option.some.injEq] at hst
  refine ⟨k, w, e, i.toNat, z, hst.symm, fun σ' hL hv hf => ?_⟩
  have hO := hlooks σ' hL
  have e1 : getO σ'.t p = getO σ.t p := hO p (by simp [Op.operands])
  have e2 : getO σ'.t x = getO σ.t x := hO x (by simp [Op.operands])
  have h3' : σ'.cur k w = true := by rw [cur_v hv]; exact h3
  have h4' : σ'.fro k = false := by unfold St.fro at h4 ⊢; rw [hf]; exact h4
  simp only [hgl σ' hL, stepOp, hT, e1, e2, hpt, storeAV, h1, h2, h3', h4', h5, h6, hz]
  rfl
theorem setEl_rdr {k w : Nat} {e : El} {i : Nat} {z : e.T} {a : AV} {j : Nat} (h : setEl k w e i z a = .rdr j) : a = .rdr j := by
 cases a with
 | rdr n => exact h
 | own k' w' e' l =>
  simp only [setEl, setEl1] at h
  split at h <;> try (cases h; done)
  split at h <;> cases h
 | vw k' w' e' l => simp only [setEl, setEl1] at h; split at h <;> cases h
 | vpt k' w' e' x o => simp only [setEl, setEl1] at h; split at h <;> cases h
 | opt k' w' e' x j o => simp only [setEl, setEl1] at h; split at h <;> cases h
 | _ => simp [setEl, setEl1] at h
theorem setEl_const {k w : Nat} {e : El} {i : Nat} {z : e.T} (v : Value) : setEl k w e i z (ofConst v) = ofConst v := by
 unfold ofConst
 split <;> try rfl
 rename_i cs
 simp only [setEl, List.map_map]
 congr 1
 apply List.map_congr_left
 intro v hv
 simp only [Function.comp]
 split <;> rfl
theorem getO_mapS {k w : Nat} {e : El} {i : Nat} {z : e.T} (x : Operand) : getO (mapS k w e i z σ).t x = setEl k w e i z (getO σ.t x) := by
 cases x with
 | tmp j => exact getT_map _ rfl _ _
 | const v => exact (setEl_const v).symm
 | _ => rfl
theorem setEl_cells {k w : Nat} {e : El} {i : Nat} {z : e.T} (a : AV) : (setEl k w e i z a).cells = a.cells.map (setEl1 k w e i z) := by
 have h1 : ∀ a l, setEl1 k w e i z a = .agg l → a = .agg l := by
  intro a l h
  cases a with
  | own k' w' e' l' =>
   simp only [setEl1] at h
   split at h <;> try (cases h; done)
   split at h <;> cases h
  | vw k' w' e' l => simp only [setEl1] at h; split at h <;> cases h
  | vpt k' w' e' x o => simp only [setEl1] at h; split at h <;> cases h
  | opt k' w' e' x j o => simp only [setEl1] at h; split at h <;> cases h
  | agg l' => exact h
  | _ => simp [setEl1] at h
 cases a with
 | agg l => rfl
 | own k' w' e' l =>
  simp only [setEl, AV.cells, List.map_cons, List.map_nil]
  cases hq : setEl1 k w e i z (.own k' w' e' l) <;> first | rfl | (have := h1 _ _ hq; cases this)
 | vw k' w' e' l =>
  simp only [setEl, AV.cells, List.map_cons, List.map_nil]
  cases hq : setEl1 k w e i z (.vw k' w' e' l) <;> first | rfl | (have := h1 _ _ hq; cases this)
 | vpt k' w' e' x o =>
  simp only [setEl, AV.cells, List.map_cons, List.map_nil]
  cases hq : setEl1 k w e i z (.vpt k' w' e' x o) <;> first | rfl | (have := h1 _ _ hq; cases this)
 | opt k' w' e' x j o =>
  simp only [setEl, AV.cells, List.map_cons, List.map_nil]
  cases hq : setEl1 k w e i z (.opt k' w' e' x j o) <;> first | rfl | (have := h1 _ _ hq; cases this)
 | _ => rfl
theorem setEl1_cell {k w : Nat} {e : El} {i : Nat} {z : e.T} {a : AV} (h : (setEl1 k w e i z a).cell = true) : a.cell = true := by
 cases a with
 | own k' w' e' l => rfl
 | vw k' w' e' l => simp only [setEl1] at h; split at h <;> simp [AV.cell, AV.one] at h
 | vpt k' w' e' x o => simp only [setEl1] at h; split at h <;> simp [AV.cell, AV.one] at h
 | opt k' w' e' x j o => simp only [setEl1] at h; split at h <;> simp [AV.cell, AV.one] at h
 | _ => exact h
theorem writeL_map (f : AV → AV) (l m : List AV) (i : Nat) : (writeL l i m).map f = writeL (l.map f) i (m.map f) := by simp [writeL]
theorem comm_opt {N kk : Nat} {x y : Oper} (fx : opFine N x = true) (fy : opFine N y = true) (hp : parts2 all x y = true) (hx : gstep tab call τ all x σ = some σ1) (hy : gstep tab call τ all y σ1 = some σ2)
  (hA : gacc tab all x σ = .wrE kk) (hB : gacc tab all y σ1 = .plc ∨ ∃ i n, gacc tab all y σ1 = .wrF i n) (hgy : gd all y σ = gd all y σ1) :
  ∃ σ1' σ2', gstep tab call τ all y σ = some σ1' ∧ gstep tab call τ all x σ1' = some σ2' ∧ Eqv σ2 σ2' ∧ gacc tab all y σ = gacc tab all y σ1 ∧ gacc tab all x σ1' = gacc tab all x σ := by
 obtain ⟨p1, p2, p3⟩ := parts2_spec hp
 obtain ⟨hxd, k, w, e, i, z, e1, hx2⟩ := opt_form fx (isOpt_acc.2 ⟨kk, hA⟩) hx
 subst e1
 -- the second step's operation
 have hgd : gd all y (mapS k w e i z σ) = some true := by
  cases h : gd all y (mapS k w e i z σ) with
  | none => unfold gacc at hB; rw [h] at hB; simp at hB
  | some q => cases q with
   | true => rfl
   | false => unfold gacc at hB; rw [h] at hB; simp at hB
 have hgs : gd all y σ = some true := by rw [hgy, hgd]
 unfold gstep at hy ⊢
 unfold gacc at hB ⊢
 rw [hgd] at hy hB
 simp only [hgs, hgd]
 simp only at hy hB
 have hgx : ∀ (s : List AV), gd all x { σ with s := s } = gd all x σ := fun _ => rfl
 have hxg : gd all x σ = some true := by
  cases h : gd all x σ with
  | none => unfold gacc at hA; rw [h] at hA; simp at hA
  | some q => cases q with
   | true => rfl
   | false => unfold gacc at hA; rw [h] at hA; simp at hA
 have hplc : ∀ {o : Option Nat} {n : Nat}, y.dst = o → GL all x σ (σ.put o (.rdr n)) := by
  intro o n ho i hi
  rw [getT_put, if_neg (fun e => p2 i (ho.trans e) hi)]
 have hput : ∀ (o : Option Nat) (n : Nat), mapS k w e i z (σ.put o (.rdr n)) = (mapS k w e i z σ).put o (.rdr n) := by
  intro o n
  cases o <;> rfl
 have fin : ∀ n, y.dst = y.dst → σ2 = (mapS k w e i z σ).put y.dst (.rdr n) → ∃ σ2', (match gd all x (σ.put y.dst (.rdr n)) with
   | some true => stepOp tab call τ x (σ.put y.dst (.rdr n)) some
   | some false => some ((σ.put y.dst (.rdr n)).put x.dst .skip)
   | none => none) = some σ2' ∧ Eqv σ2 σ2' := by
  intro n _ h2
  have := hx2 _ (hplc (n := n) rfl) (put_v _ _ _) (put_fr _ _ _)
  unfold gstep at this
  exact ⟨_, this, by rw [h2, hput]; exact Eqv.refl _⟩
 obtain ⟨dst, op, type, pos, after, guard⟩ := y
 cases op <;> simp only [accOf] at hB ⊢ <;> try (simp at hB; done)
 case alloc T => cases dst <;> simp at hB
 case box T x => cases dst <;> simp at hB
 case buildSlice T n parts => split at hB <;> simp at hB
 case load T p => cases hp : getO (mapS k w e i z σ).t p <;> simp only [hp] at hB <;> first | (simp at hB; done) | (cases hT : tab.ty T <;> simp [hT] at hB)
 case slice T x lo hi mx => cases hp : getO (mapS k w e i z σ).t x <;> simp [hp, accLst] at hB
 case indexAddr T xx ii => cases hp : getO (mapS k w e i z σ).t xx <;> simp [hp, accLst] at hB
 case call cl =>
  cases hc : cl.callee with
  | invoke r m => simp [hc] at hB
  | builtin b =>
   simp only [hc] at hB
   cases b <;> simp at hB
   rcases ha : cl.args.toList with _ | ⟨x, _ | ⟨y, l⟩⟩ <;> simp [ha] at hB
   cases hp : getO (mapS k w e i z σ).t x <;> simp [hp, accLst] at hB
  | value f =>
   simp only [hc] at hB
   cases f <;> simp at hB
   split at hB <;> simp at hB
 case nilCheck q =>
  cases hq : getO (mapS k w e i z σ).t q <;> simp only [hq] at hB ⊢ <;> try (simp at hB; done)
  rename_i n
  have h0 := setEl_rdr ((getO_mapS (σ := σ) q).symm.trans hq)
  simp only [stepOp, hq, addPt, Option.some.injEq] at hy
  simp only [stepOp, h0, addPt]
  obtain ⟨σ2', r1, r2⟩ := fin (n + 0) rfl hy.symm
  exact ⟨_, σ2', rfl, r1, r2, trivial, by
   have := gacc_congr (tab := tab) (hplc (n := n + 0) rfl)
   unfold gacc at this
   exact this⟩
 case fieldAddr T q f =>
  cases hq : getO (mapS k w e i z σ).t q <;> simp only [hq] at hB ⊢ <;> try (simp at hB; done)
  rename_i n
  have h0 := setEl_rdr ((getO_mapS (σ := σ) q).symm.trans hq)
  simp only [stepOp] at hy
  split at hy
  rotate_left
  ·cases hy
  rename_i ty hT
  split at hy
  rotate_left
  ·cases hy
  rename_i m hm
  simp only [hq, addPt, Option.some.injEq] at hy
  simp only [stepOp, hT, hm, h0, addPt]
  obtain ⟨σ2', r1, r2⟩ := fin (n + m) rfl hy.symm
  exact ⟨_, σ2', rfl, r1, r2, trivial, by
   have := gacc_congr (tab := tab) (hplc (n := n + m) rfl)
   unfold gacc at this
   exact this⟩
 case store T q v =>
  cases hq : getO (mapS k w e i z σ).t q <;> simp only [hq] at hB ⊢ <;> try (simp at hB; done)
  rename_i n
  have h0 := setEl_rdr ((getO_mapS (σ := σ) q).symm.trans hq)
  simp only [stepOp] at hy
  split at hy
  rotate_left
  ·cases hy
  rename_i ty hT
  split at hy
  rotate_left
  ·cases hy
  rename_i τ1 hst
  simp only [Option.some.injEq] at hy
  subst hy
  have hdn : dst = none := by simp [opFine] at fy; exact fy.2
  subst hdn
  rw [hq] at hst
  unfold storeAV at hst
  split at hst
  rotate_left
  ·cases hst
  rename_i h1 h2
  simp only at hst
  split at hst
  rotate_left
  ·cases hst
  rename_i h3
  simp only [Option.some.injEq] at hst
  rw [getO_mapS, setEl_cells] at h1 h2
  have h1' : Nat.beq (getO σ.t v).cells.length ty.zero.length = true := by simpa using h1
  have h2' : (getO σ.t v).cells.all AV.cell = true := by
   rw [List.all_eq_true] at h2 ⊢
   intro a ha
   exact setEl1_cell (h2 _ (List.mem_map.2 ⟨a, ha, rfl⟩))
  have h3' : Nat.ble (n + ty.zero.length) σ.s.length = true := by
   have : (mapS k w e i z σ).s.length = σ.s.length := by simp [mapS]
   rw [this] at h3; exact h3
  simp only [stepOp, hT, h0, storeAV, h1', h2', h3']
  have hx3 := hx2 { σ with s := writeL σ.s n (getO σ.t v).cells } (fun _ _ => rfl) rfl rfl
  unfold gstep at hx3
  refine ⟨_, _, rfl, hx3, ?_, trivial, ?_⟩
  ·rw [← hst]
   have : mapS k w e i z { σ with s := writeL σ.s n (getO σ.t v).cells } = { mapS k w e i z σ with s := writeL (mapS k w e i z σ).s n (getO (mapS k w e i z σ).t v).cells } := by
    rw [getO_mapS, setEl_cells]
    unfold mapS
    simp only [writeL_map]
   rw [this]
   exact Eqv.refl _
  ·rw [hgx, hxg]
theorem comm (hTab : TabOK P tab) {N : Nat} {x y : Oper} (fx : opFine N x = true) (fy : opFine N y = true) (hp : parts2 all x y = true) (hap : Acc.apart (gacc tab all x σ) (gacc tab all y σ1) = true) (hx : gstep tab call τ all x σ = some σ1) (hy : gstep tab call τ all y σ1 = some σ2)
  (hgy : gIsOpt all x σ = true → gd all y σ = gd all y σ1) :
  ∃ σ1' σ2', gstep tab call τ all y σ = some σ1' ∧ gstep tab call τ all x σ1' = some σ2' ∧ Eqv σ2 σ2' ∧ gacc tab all y σ = gacc tab all y σ1 ∧ gacc tab all x σ1' = gacc tab all x σ := by
 by_cases hxo : gIsOpt all x σ = true
 ·obtain ⟨k, hA⟩ := isOpt_acc (tab := tab).1 hxo
  refine comm_opt fx fy hp hx hy hA ?_ (hgy hxo)
  rw [hA] at hap
  cases hB : gacc tab all y σ1 <;> rw [hB] at hap <;> simp [Acc.apart] at hap ⊢
 have hxo : gIsOpt all x σ = false := by simpa using hxo
 have hyo : gIsOpt all y σ1 = false := notOpt (tab := tab) (fun k hk => by
  rw [hk] at hap
  cases hA : gacc tab all x σ <;> rw [hA] at hap <;> simp [Acc.apart] at hap)
 have hself := gstep_loc hTab fx (σ' := σ) (fun i _ => rfl) (HE.refl σ) hxo hx
 obtain ⟨_, _, hR⟩ := hself
 obtain ⟨p1, p2, p3⟩ := parts2_spec hp
 have hLy : GL all y σ1 σ := by
  intro i hi
  rw [hR.o i (fun e => p1 i e hi)]
 have hay : gacc tab all y σ = gacc tab all y σ1 := gacc_congr hLy
 by_cases hr1 : (gacc tab all x σ).reads = true
 ·refine comm_rd_l hTab fx fy hp hx hy (gval_of_reads hr1) hyo fun σ1' g1 => ?_
  have := gstep_chg hTab g1
  rw [hay] at this
  exact agree_of_chg hr1 (.inl hap) this
 by_cases hr2 : (gacc tab all y σ1).reads = true
 ·refine comm_rd_r hTab fx fy hp hx hy (gval_of_reads hr2) hxo ?_
  have h1 := agree_of_chg hr2 (.inr hap) (gstep_chg hTab hx)
  cases hB : gacc tab all y σ1 <;> rw [hB] at h1 hr2 <;> first
   | trivial
   | exact h1.symm
   | exact ⟨h1.1.symm, fun j a b => (h1.2 j a b).symm⟩
   | (simp [Acc.reads] at hr2; done)
 by_cases hw1 : (gacc tab all x σ).writes = true
 ·by_cases hw2 : (gacc tab all y σ1).writes = true
  ·exact comm_wr fx fy hp hap hx hy hw1 hw2
  ·cases hA : gacc tab all x σ <;> rw [hA] at hap hr1 hw1 <;> first | (simp [Acc.writes] at hw1; done) | skip
   all_goals cases hB : gacc tab all y σ1 <;> rw [hB] at hap hr2 hw2 <;> first | (simp [Acc.apart] at hap; done) | exact absurd rfl hr2 | exact absurd rfl hw2 | skip
   have := comm_al_call hTab fx fy hp hx hy hA hB
   rw [hA, hB] at this
   exact this
 ·cases hA : gacc tab all x σ <;> rw [hA] at hap hr1 hw1 <;> first | exact absurd rfl hr1 | exact absurd rfl hw1 | exact absurd (isOpt_acc (tab := tab).2 ⟨_, hA⟩) (by rw [hxo]; simp) | skip
  all_goals cases hB : gacc tab all y σ1 <;> rw [hB] at hap hr2 <;> first | (simp [Acc.apart] at hap; done) | exact absurd rfl hr2 | skip
  have := comm_call_al hTab fx fy hp hx hy hA hB
  rw [hA, hB] at this
  exact this
end
end Go.AI
namespace Go.AI
section
variable {tab : Tab} {call : (τ : STy) → Nat → List AV → τ.T → Option (AV × τ.T)} {τ : STy} {σ σ' σ1 σ2 : St} {P : Program} {all : List Oper}
theorem setEl_bool {k w : Nat} {e : El} {i : Nat} {z : e.T} {a : AV} : (∀ b, setEl k w e i z a = .bool b ↔ a = .bool b) ∧ (setEl k w e i z a = .skip ↔ a = .skip) := by
 cases a with
 | own k' w' e' l =>
  simp only [setEl, setEl1]
  split
  ·split <;> simp
  ·simp
  ·simp
 | vw k' w' e' l => simp only [setEl, setEl1]; split <;> simp
 | vpt k' w' e' x o => simp only [setEl, setEl1]; split <;> simp
 | opt k' w' e' x j o => simp only [setEl, setEl1]; split <;> simp
 | _ => simp [setEl, setEl1]
theorem gd_mapS {k w : Nat} {e : El} {i : Nat} {z : e.T} (o : Oper) : gd all o (mapS k w e i z σ) = gd all o σ := by
 unfold gd
 cases o.guard with
 | none => rfl
 | some p =>
  obtain ⟨j, q⟩ := p
  simp only
  cases dstAt all j with
  | none => rfl
  | some d =>
   simp only
   have h : getT (mapS k w e i z σ).t d = setEl k w e i z (getT σ.t d) := getT_map _ rfl _ _
   rw [h]
   obtain ⟨h1, h2⟩ := setEl_bool (k := k) (w := w) (e := e) (i := i) (z := z) (a := getT σ.t d)
   cases hd : getT σ.t d with
   | bool b => rw [hd] at h1; rw [(h1 b).2 rfl]
   | skip => rw [hd] at h2; rw [h2.2 rfl]
   | _ =>
    rw [hd] at h1 h2
    split
    ·rename_i b hb; have := (h1 b).1 hb; cases this
    ·rename_i hb; have := h2.1 hb; cases this
    ·rfl
theorem gstep_eqv (hTab : TabOK P tab) {N : Nat} {o : Oper} (hfine : opFine N o = true) (he : Eqv σ σ') (hs : gstep tab call τ all o σ = some σ1) : ∃ σ1', gstep tab call τ all o σ' = some σ1' ∧ Eqv σ1 σ1' := by
 have hL : GL all o σ σ' := fun i _ => he.t i
 by_cases ho : gIsOpt all o σ = true
 ·obtain ⟨hd, k, w, e, i, z, rfl, h2⟩ := opt_form hfine ho hs
  refine ⟨_, h2 σ' hL he.h.v he.h.fr, ⟨fun j => ?_, ⟨fun j => ?_, ?_, he.h.v, he.h.c, he.h.fr⟩⟩⟩
  ·show getT (σ'.t.map fun p => (p.1, setEl k w e i z p.2)) j = getT (σ.t.map fun p => (p.1, setEl k w e i z p.2)) j
   rw [getT_map _ rfl, getT_map _ rfl, he.t]
  ·show getB (σ'.b.map fun p => (p.1, p.2.map (setEl1 k w e i z))) j = getB (σ.b.map fun p => (p.1, p.2.map (setEl1 k w e i z))) j
   rw [getB_map, getB_map, he.h.b]
  ·show σ'.s.map _ = σ.s.map _
   rw [he.h.s]
 ·obtain ⟨σ1', g1, g2⟩ := gstep_loc hTab hfine hL he.h (by simpa using ho) hs
  refine ⟨σ1', g1, ⟨fun i => ?_, g2.h⟩⟩
  rw [g2.t]
  split
  ·rfl
  ·rename_i h; rw [he.t, g2.o i h]
inductive RunL (tab : Tab) (call : (τ : STy) → Nat → List AV → τ.T → Option (AV × τ.T)) (τ : STy) (all : List Oper) : List (Oper × Acc) → St → St → Prop
 | nil (σ : St) : RunL tab call τ all [] σ σ
 | cons (q : Oper × Acc) (r : List (Oper × Acc)) (σ σ1 σe : St) (h1 : gstep tab call τ all q.1 σ = some σ1) (h2 : gacc tab all q.1 σ = q.2) (h3 : RunL tab call τ all r σ1 σe) : RunL tab call τ all (q :: r) σ σe
theorem RunL.eqv (hTab : TabOK P tab) {N : Nat} {l : List (Oper × Acc)} (hfine : ∀ q, q ∈ l → opFine N q.1 = true) {σe : St} (h : RunL tab call τ all l σ σe) : ∀ {σ'}, Eqv σ σ' → ∃ σe', RunL tab call τ all l σ' σe' ∧ Eqv σe σe' := by
 induction h with
 | nil σ => exact fun he => ⟨_, .nil _, he⟩
 | cons q r σ σ1 σe h1 h2 h3 ih =>
  intro σ' he
  obtain ⟨σ1', g1, g2⟩ := gstep_eqv hTab (hfine q (by simp)) he h1
  obtain ⟨σe', g3, g4⟩ := ih (fun q hq => hfine q (by simp [hq])) g2
  exact ⟨σe', .cons q r σ' σ1' σe' g1 (by rw [gacc_congr (fun i _ => he.t i)]; exact h2) g3, g4⟩
theorem RunL.bubble (hTab : TabOK P tab) {N : Nat} {q : Oper × Acc} {l2 : List (Oper × Acc)} : ∀ {l1 : List (Oper × Acc)} {σ σe : St}, (∀ p, p ∈ l1 ++ q :: l2 → opFine N p.1 = true) → (∀ p, p ∈ l1 → Acc.apart p.2 q.2 = true ∧ parts2 all p.1 q.1 = true) →
  RunL tab call τ all (l1 ++ q :: l2) σ σe → ∃ σe', RunL tab call τ all (q :: (l1 ++ l2)) σ σe' ∧ Eqv σe σe' := by
 intro l1
 induction l1 with
 | nil => exact fun _ _ h => ⟨_, h, .refl _⟩
 | cons p l1 ih =>
  intro σ σe hf hap h
  rw [List.cons_append] at h
  cases h with
  | cons _ _ _ σ1 _ h1 h2 h3 =>
   obtain ⟨σe', g1, g2⟩ := ih (fun p hp => hf p (by simp at hp ⊢; exact .inr hp)) (fun p hp => hap p (by simp [hp])) h3
   cases g1 with
   | cons _ _ _ σ2 _ k1 k2 k3 =>
    have hpq := hap p (by simp)
    obtain ⟨σ1', σ2', m1, m2, m3, m4, m5⟩ := comm hTab (hf p (by simp)) (hf q (by simp)) hpq.2 (by rw [h2, k2]; exact hpq.1) h1 k1 (fun ho => by
     obtain ⟨_, k, w, e, i, z, hx, _⟩ := opt_form (hf p (by simp)) ho h1
     rw [hx, gd_mapS])
    obtain ⟨σe'', n1, n2⟩ := k3.eqv hTab (N := N) (fun r hr => hf r (by simp at hr ⊢; rcases hr with hr | hr; exact .inr (.inl hr); exact .inr (.inr (.inr hr)))) m3
    exact ⟨σe'', .cons q _ σ σ1' σe'' m1 (by rw [m4]; exact k2) (.cons p _ σ1' σ2' σe'' m2 (by rw [m5]; exact h2) n1), g2.trans n2⟩
theorem gstep_put (hTab : TabOK P tab) {N : Nat} {o : Oper} (hfine : opFine N o = true) {d : Nat} {x : Bool} (hd : getT σ.t d = .bool x) (hg : gd all o σ = some true) {σ1 : St} (hs : stepOp tab call τ o (σ.put (some d) (.bool x)) some = some σ1) :
  ∃ σ1', gstep tab call τ all o σ = some σ1' ∧ Eqv σ1' σ1 := by
 have he : Eqv (σ.put (some d) (.bool x)) σ := by
  refine ⟨fun i => ?_, (put_HE _ _ _).symm⟩
  rw [getT_put]
  split
  ·rename_i e; cases e; exact hd
  ·rfl
 have hg' : gd all o (σ.put (some d) (.bool x)) = some true := by
  rw [← gd_congr (σ := σ.put (some d) (.bool x)) (σ' := σ) (fun i _ => he.t i)]; exact hg
 have : gstep tab call τ all o (σ.put (some d) (.bool x)) = some σ1 := by unfold gstep; rw [hg']; exact hs
 obtain ⟨σ1', g1, g2⟩ := gstep_eqv hTab hfine he this
 exact ⟨σ1', g1, g2.symm⟩
theorem runD_run (hTab : TabOK P tab) {N : Nat} {R : Type} {masks : List Nat} {K : St → Option R} {r : R} : ∀ (rest : List Oper) (acc : List (Oper × Acc)) (σ : St), (∀ o, o ∈ rest → opFine N o = true) → runD tab call τ all masks rest acc σ K = some r →
  ∃ σe σx, ∃ prs : List (Oper × Acc), prs.map (·.1) = rest ∧ RunL tab call τ all prs σ σe ∧ Eqv σe σx ∧ K σx = some r ∧
   ∀ p q, prs[p]? = some q → freeOf all q.1 q.2 (masks.getD (acc.length + p) 0) (acc ++ prs.take p) 0 = true
 | [], acc, σ, _, h => ⟨σ, σ, [], rfl, .nil _, .refl _, h, fun p q hq => by simp at hq⟩
 | o :: rest, acc, σ, hf, h => by
  have hfo := hf o (by simp)
  -- a step, and the rest
  have key : ∀ (A : Acc) (σ1 σ1x : St), gstep tab call τ all o σ = some σ1 → Eqv σ1 σ1x → gacc tab all o σ = A → freeOf all o A (masks.getD acc.length 0) acc 0 = true → runD tab call τ all masks rest (acc ++ [(o, A)]) σ1x K = some r →
    ∃ σe σx, ∃ prs : List (Oper × Acc), prs.map (·.1) = o :: rest ∧ RunL tab call τ all prs σ σe ∧ Eqv σe σx ∧ K σx = some r ∧
     ∀ p q, prs[p]? = some q → freeOf all q.1 q.2 (masks.getD (acc.length + p) 0) (acc ++ prs.take p) 0 = true := by
   intro A σ1 σ1x h1 h2 h3 h4 h5
   obtain ⟨σe, σx, prs, g1, g2, g3, g4, g5⟩ := runD_run hTab rest (acc ++ [(o, A)]) σ1x (fun o ho => hf o (by simp [ho])) h5
   have hfp : ∀ q, q ∈ prs → opFine N q.1 = true := fun q hq => hf q.1 (by rw [List.mem_cons]; right; rw [← g1]; exact List.mem_map.2 ⟨q, hq, rfl⟩)
   obtain ⟨σe', k1, k2⟩ := g2.eqv hTab hfp h2.symm
   refine ⟨σe', σx, (o, A) :: prs, by simp [g1], .cons (o, A) prs σ σ1 σe' h1 h3 k1, k2.symm.trans g3, g4, fun p q hq => ?_⟩
   cases p with
   | zero => simp at hq; subst hq; simpa using h4
   | succ p =>
    simp at hq
    have := g5 p q hq
    simp only [List.length_append, List.length_cons, List.length_nil] at this
    rw [List.take_succ_cons, show acc.length + (p + 1) = acc.length + (0 + 1) + p by omega]
    simpa using this
  simp only [runD] at h
  cases hgd : o.guard with
  | none =>
   simp only [hgd] at h
   have hg : gd all o σ = some true := by unfold gd; rw [hgd]
   have ha : gacc tab all o σ = accOf tab σ o := by unfold gacc; rw [hg]
   split at h
   rotate_left
   ·cases h
   rename_i hfree
   rw [stepOp_bind] at h
   cases hs : stepOp tab call τ o σ some with
   | none => rw [hs] at h; cases h
   | some σ1 =>
    rw [hs] at h
    exact key (accOf tab σ o) σ1 σ1 (by unfold gstep; rw [hg]; exact hs) (.refl _) ha hfree h
  | some jw =>
   obtain ⟨j, w⟩ := jw
   simp only [hgd] at h
   cases hda : dstAt all j with
   | none => simp only [hda] at h; cases h
   | some d =>
    simp only [hda] at h
    have hgu : gd all o σ = match getT σ.t d with | .bool x => some (x == w) | .skip => some false | _ => none := by
     unfold gd; simp only [hgd, hda] <;> cases getT σ.t d <;> rfl
    have skip : ∀ σx, gd all o σ = some false → Eqv (σ.put o.dst .skip) σx → (match freeOf all o .none_ (masks.getD acc.length 0) acc 0 with
      | true => runD tab call τ all masks rest (acc ++ [(o, .none_)]) σx K
      | false => none) = some r → ∃ σe σx, ∃ prs : List (Oper × Acc), prs.map (·.1) = o :: rest ∧ RunL tab call τ all prs σ σe ∧ Eqv σe σx ∧ K σx = some r ∧
       ∀ p q, prs[p]? = some q → freeOf all q.1 q.2 (masks.getD (acc.length + p) 0) (acc ++ prs.take p) 0 = true := by
     intro σx hg he h
     split at h
     rotate_left
     ·cases h
     rename_i hfree
     exact key .none_ (σ.put o.dst .skip) σx (by unfold gstep; rw [hg]) he (by unfold gacc; rw [hg]) hfree h
    have go : ∀ x, getT σ.t d = .bool x → gd all o σ = some true → (match freeOf all o (accOf tab σ o) (masks.getD acc.length 0) acc 0 with
      | true => stepOp tab call τ o (σ.put (some d) (.bool x)) fun σ' => runD tab call τ all masks rest (acc ++ [(o, accOf tab σ o)]) σ' K
      | false => none) = some r → ∃ σe σx, ∃ prs : List (Oper × Acc), prs.map (·.1) = o :: rest ∧ RunL tab call τ all prs σ σe ∧ Eqv σe σx ∧ K σx = some r ∧
       ∀ p q, prs[p]? = some q → freeOf all q.1 q.2 (masks.getD (acc.length + p) 0) (acc ++ prs.take p) 0 = true := by
     intro x hx hg h
     split at h
     rotate_left
     ·cases h
     rename_i hfree
     rw [stepOp_bind] at h
     cases hs : stepOp tab call τ o (σ.put (some d) (.bool x)) some with
     | none => rw [hs] at h; cases h
     | some σ1 =>
      rw [hs] at h
      obtain ⟨σ1', k1, k2⟩ := gstep_put hTab hfo hx hg hs
      exact key (accOf tab σ o) σ1' σ1 k1 k2 (by unfold gacc; rw [hg]) hfree h
    have pp : ∀ x, getT σ.t d = .bool x → Eqv (σ.put o.dst .skip) ((σ.put (some d) (.bool x)).put o.dst .skip) := by
     intro x hx
     refine ⟨fun i => ?_, ((put_HE σ o.dst .skip).symm.trans (put_HE σ (some d) (.bool x))).trans (put_HE _ _ _)⟩
     rw [getT_put, getT_put, getT_put]
     split
     ·rfl
     ·split
      ·rename_i e; cases e; exact hx.symm
      ·rfl
    split at h
    ·rename_i x hx
     rw [hx] at hgu
     cases x <;> cases w <;> simp only [if_true, if_false, Bool.false_eq_true] at h
     ·exact go false hx hgu h
     ·exact skip _ hgu (pp false hx) h
     ·exact skip _ hgu (pp true hx) h
     ·exact go true hx hgu h
    ·rename_i hx
     rw [hx] at hgu
     exact skip _ hgu (.refl _) h
    ·cases h
end
end Go.AI
namespace Go.AI
instance : Inhabited Acc := ⟨.big⟩
def regOK (N : Nat) : List Oper → Nat → Bool
 | [], _ => true
 | o :: r, i => (opFine N o && o.after.toList.all fun e => match e.ground with | .textOnly _ => true | .gcOnly _ => true | _ => Nat.blt e.on i) && regOK N r (i + 1)
theorem regOK_spec {N : Nat} : ∀ {l : List Oper} {i0 : Nat}, regOK N l i0 = true → ∀ i o, l[i]? = some o → opFine N o = true ∧ ∀ e, e ∈ o.after → Region.binds .any e = true → e.on < i0 + i
 | [], _, _, i, o, ho => by simp at ho
 | q :: r, i0, h, i, o, ho => by
  simp only [regOK, Bool.and_eq_true] at h
  cases i with
  | zero =>
   simp at ho; subst ho
   refine ⟨h.1.1, fun e he hb => ?_⟩
   have := List.all_eq_true.1 h.1.2 e (by simpa using he)
   unfold Region.binds at hb
   cases hg : e.ground <;> rw [hg] at this hb <;> first | (simp at hb; done) | (have := Nat.le_of_ble_eq_true this; omega)
  | succ i =>
   simp at ho
   have := regOK_spec h.2 i o ho
   exact ⟨this.1, fun e he hb => by have := this.2 e he hb; omega⟩
section
variable {tab : Tab} {call : (τ : STy) → Nat → List AV → τ.T → Option (AV × τ.T)} {τ : STy} {σ σ' σ1 σ2 : St} {P : Program} {B : Base} {N : Nat} {c : Cx} {a : Act} {w : World} {ops : Array Oper}
theorem dstAt_eq : ∀ (l : List Oper) (j : Nat), dstAt l j = (l[j]?).bind (·.dst)
 | [], j => by simp [dstAt]
 | o :: r, 0 => by simp [dstAt]
 | o :: r, j + 1 => by simp [dstAt, dstAt_eq r j]
theorem wanted_ok (h : Rel tab.tid B N c σ a w) {o : Oper} {q : Bool} (hg : gd ops.toList o σ = some q) : Region.wanted o (yielded ops a.tmps) = q := by
 unfold gd at hg
 unfold Region.wanted
 cases hgu : o.guard with
 | none => simp only [hgu] at hg; cases hg; rfl
 | some p =>
  obtain ⟨j, w'⟩ := p
  simp only [hgu] at hg ⊢
  have hda : dstAt ops.toList j = (ops[j]?).bind (·.dst) := by rw [dstAt_eq, Array.getElem?_toList]
  rw [hda] at hg
  cases hd : (ops[j]?).bind (·.dst) with
  | none => rw [hd] at hg; cases hg
  | some d =>
   rw [hd] at hg
   simp only at hg
   have ht := h.t d
   have hy : yielded ops a.tmps j = match a.tmps[d]? with | some (.bool b) => some b | _ => none := by
    unfold yielded; rw [hd]; rfl
   split at hg
   ·rename_i x hx
    rw [hx] at ht
    have hv : a.tmps.getD d Go.undef = .bool x := by
     generalize a.tmps.getD d Go.undef = v at ht
     cases ht.to_F tab.tid rfl; rfl
    have : a.tmps[d]? = some (.bool x) := by
     rw [Array.getD_eq_getD_getElem?] at hv
     cases hq : a.tmps[d]? with
     | none => rw [hq] at hv; cases hv
     | some v => rw [hq] at hv; exact congrArg some hv
    rw [hy, this]
    simp only [Option.some.injEq] at hg
    rw [← hg]
    cases x <;> cases w' <;> rfl
   ·rename_i hx
    rw [hx] at ht
    have hv : a.tmps.getD d Go.undef = Go.undef := by
     generalize a.tmps.getD d Go.undef = v at ht
     cases ht.to_F tab.tid rfl; rfl
    have : yielded ops a.tmps j = none := by
     rw [hy]
     rw [Array.getD_eq_getD_getElem?] at hv
     cases hq : a.tmps[d]? with
     | none => rfl
     | some v => rw [hq] at hv; simp only [Option.getD_some] at hv; rw [hv]; rfl
    rw [this]
    simp only [Option.some.injEq] at hg
    rw [← hg]; rfl
   ·cases hg
theorem wpOp_ok (hTab : TabOK P tab) (hcall : CallsOK tab.tid P call) {o : Oper} {i : Nat} (hi : ops[i]? = some o) (hfine : opFine N o = true) (h : Rel tab.tid B N c σ a w) (hs : gstep tab call τ ops.toList o σ = some σ1)
  {next : Act → World → Prop} {Q : Exit → Act → World → Prop} (hn : ∀ c' a' w', Rel tab.tid B N c' σ1 a' w' → next a' w') : wpOp P ops Q i next a w := by
 unfold wpOp
 simp only [hi]
 unfold gstep at hs
 rcases hg : gd ops.toList o σ with _ | (_ | _) <;> simp only [hg] at hs
 ·cases hs
 ·rw [wanted_ok h hg]
  simp only [Bool.false_eq_true, if_false]
  simp only [Option.some.injEq] at hs
  subst hs
  have hd : ∀ x, o.dst = some x → x < N := by
   intro x hx
   simp only [opFine, hx, Bool.and_eq_true] at hfine
   exact Nat.le_of_ble_eq_true hfine.1
  exact hn _ _ _ (h.put hd (AR.of_F tab.tid .skip))
 ·rw [wanted_ok h hg]
  simp only [if_true]
  exact .inl (op_ok hTab hcall hfine h hs hn)
theorem runOps_ok (hTab : TabOK P tab) (hcall : CallsOK tab.tid P call) {R : Type} {K : St → Option R} {r : R} {Q : Exit → Act → World → Prop} (hQ : ∀ σ' c' a' w', Rel tab.tid B N c' σ' a' w' → K σ' = some r → Q .normal a' w') :
  ∀ (rest : List Oper) (i : Nat) (σ : St) (c : Cx) (a : Act) (w : World), (∀ j, rest[j]? = ops[i + j]?) → (∀ o, o ∈ rest → opFine N o = true) → Rel tab.tid B N c σ a w → runOps tab call τ ops.toList rest σ K = some r → wpOps P ops Q (List.range' i rest.length) a w
 | [], i, σ, c, a, w, _, _, h, hs => hQ _ _ _ _ h hs
 | o :: rest, i, σ, c, a, w, hsub, hf, h, hs => by
  have hi : ops[i]? = some o := by have := hsub 0; simp at this; exact this.symm
  have hsub' : ∀ j, rest[j]? = ops[(i + 1) + j]? := fun j => by have := hsub (j + 1); simp at this; rw [this]; congr 1; omega
  have hfo := hf o (by simp)
  have hf' : ∀ o, o ∈ rest → opFine N o = true := fun o ho => hf o (by simp [ho])
  rw [List.length_cons, List.range'_succ, wpOps_cons]
  have go : ∀ (c' : Cx) (σ' : St), Rel tab.tid B N c' σ' a w → (gd ops.toList o σ' = some true) → stepOp tab call τ o σ' (fun σ' => runOps tab call τ ops.toList rest σ' K) = some r → wpOp P ops Q i (wpOps P ops Q (List.range' (i + 1) rest.length)) a w := by
   intro c' σ' h' hg hs
   rw [stepOp_bind] at hs
   cases hst : stepOp tab call τ o σ' some with
   | none => rw [hst] at hs; cases hs
   | some σ1 =>
    rw [hst] at hs
    exact wpOp_ok hTab hcall hi hfo h' (by unfold gstep; rw [hg]; exact hst) (fun c'' a'' w'' h'' => runOps_ok hTab hcall hQ rest (i + 1) σ1 c'' a'' w'' hsub' hf' h'' hs)
  have skip : ∀ (c' : Cx) (σ' : St), Rel tab.tid B N c' σ' a w → (gd ops.toList o σ' = some false) → runOps tab call τ ops.toList rest (σ'.put o.dst .skip) K = some r → wpOp P ops Q i (wpOps P ops Q (List.range' (i + 1) rest.length)) a w := by
   intro c' σ' h' hg hs
   exact wpOp_ok (τ := τ) hTab hcall hi hfo h' (by unfold gstep; rw [hg]) (fun c'' a'' w'' h'' => runOps_ok hTab hcall hQ rest (i + 1) _ c'' a'' w'' hsub' hf' h'' hs)
  simp only [runOps] at hs
  cases hgd : o.guard with
  | none =>
   simp only [hgd] at hs
   exact go c σ h (by unfold gd; rw [hgd]) hs
  | some jw =>
   obtain ⟨j, w'⟩ := jw
   simp only [hgd] at hs
   cases hda : dstAt ops.toList j with
   | none => simp only [hda] at hs; cases hs
   | some d =>
    simp only [hda] at hs
    have hgu : ∀ σ : St, gd ops.toList o σ = match getT σ.t d with | .bool x => some (x == w') | .skip => some false | _ => none := by
     intro σ; unfold gd; simp only [hgd, hda] <;> cases getT σ.t d <;> rfl
    have put : ∀ x, getT σ.t d = .bool x → Rel tab.tid B N c (σ.put (some d) (.bool x)) a w ∧ gd ops.toList o (σ.put (some d) (.bool x)) = some (x == w') := by
     intro x hx
     refine ⟨h.eqv ⟨fun i => ?_, put_HE _ _ _⟩, ?_⟩
     ·rw [getT_put]; split
      ·rename_i e; cases e; exact hx.symm
      ·rfl
     ·rw [hgu, getT_put, if_pos rfl]
    split at hs
    ·rename_i x hx
     obtain ⟨h', hg'⟩ := put x hx
     cases x <;> cases w' <;> simp only [if_true, if_false, Bool.false_eq_true] at hs
     ·exact go _ _ h' hg' hs
     ·exact skip _ _ h' hg' hs
     ·exact skip _ _ h' hg' hs
     ·exact go _ _ h' hg' hs
    ·rename_i hx
     exact skip _ _ h (by rw [hgu, hx]) hs
    ·cases hs
theorem foldl_bits (prev : List Nat) : ∀ (l : List Edge) (s i : Nat), (l.foldl (fun s e => match e.ground with | .textOnly _ | .gcOnly _ => s | _ => s ||| 2 ^ e.on ||| prev.getD e.on 0) s).testBit i = true →
  s.testBit i = true ∨ ∃ e, e ∈ l ∧ Region.binds .any e = true ∧ (e.on = i ∨ (prev.getD e.on 0).testBit i = true)
 | [], s, i, h => .inl h
 | e :: l, s, i, h => by
  rw [List.foldl_cons] at h
  rcases foldl_bits prev l _ i h with h1 | ⟨e', h1, h2, h3⟩
  ·have hb : (s ||| 2 ^ e.on ||| prev.getD e.on 0).testBit i = true → s.testBit i = true ∨ e.on = i ∨ (prev.getD e.on 0).testBit i = true := by
    intro hb
    rw [Nat.testBit_or, Nat.testBit_or, Nat.testBit_two_pow] at hb
    simp only [Bool.or_eq_true, decide_eq_true_eq] at hb
    rcases hb with (hb | hb) | hb
    ·exact .inl hb
    ·exact .inr (.inl hb)
    ·exact .inr (.inr hb)
   cases hg : e.ground <;> rw [hg] at h1 <;> simp only [] at h1 <;> first
    | exact .inl h1
    | (rcases hb h1 with h2 | h2 <;> first | exact .inl h2 | exact .inr ⟨e, by simp, by unfold Region.binds; rw [hg], h2⟩)
  ·exact .inr ⟨e', by simp [h1], h2, h3⟩
theorem depMasks_get : ∀ (l : List Oper) (acc : List Nat) (j : Nat) (o : Oper), l[j]? = some o → (depMasks l acc).getD (acc.length + j) 0 = depMask o ((depMasks l acc).take (acc.length + j)) ∧ (∀ i, i < acc.length → (depMasks l acc).getD i 0 = acc.getD i 0)
 | [], acc, j, o, h => by simp at h
 | q :: l, acc, 0, o, h => by
  simp at h; subst h
  have hpre : ∀ (l : List Oper) (acc : List Nat), (depMasks l acc).take acc.length = acc := by
   intro l
   induction l with
   | nil => intro acc; simp [depMasks]
   | cons q l ih =>
    intro acc
    simp only [depMasks]
    have := ih (acc ++ [depMask q acc])
    rw [List.length_append] at this
    have h2 := congrArg (List.take acc.length) this
    rw [List.take_take, Nat.min_eq_left (by simp), List.take_left'] at h2
    ·exact h2
    ·rfl
  have hp := hpre (q :: l) acc
  refine ⟨?_, fun i hi => ?_⟩
  ·rw [Nat.add_zero, hp]
   simp only [depMasks]
   have := hpre l (acc ++ [depMask q acc])
   have h2 : (depMasks l (acc ++ [depMask q acc])).getD acc.length 0 = ((depMasks l (acc ++ [depMask q acc])).take (acc ++ [depMask q acc]).length).getD acc.length 0 := by
    rw [getD_take _ _ _ _ (by simp)]
   rw [h2, this, List.getD_eq_getElem?_getD, List.getElem?_append_right (Nat.le_refl _)]
   simp
  ·rw [← getD_take _ _ acc.length i hi, hp]
 | q :: l, acc, j + 1, o, h => by
  simp at h
  obtain ⟨h1, h2⟩ := depMasks_get l (acc ++ [depMask q acc]) j o h
  rw [List.length_append, List.length_cons, List.length_nil] at h1 h2
  simp only [depMasks]
  refine ⟨?_, fun i hi => ?_⟩
  ·rw [show acc.length + (j + 1) = acc.length + (0 + 1) + j by omega]; exact h1
  ·rw [h2 i (by omega), List.getD_eq_getElem?_getD, List.getElem?_append_left hi, List.getD_eq_getElem?_getD]
theorem mask_bits {j i : Nat} {o : Oper} (ho : ops[j]? = some o) (hon : ∀ e, e ∈ o.after → Region.binds .any e = true → e.on < j) (h : ((depMasks ops.toList []).getD j 0).testBit i = true) :
  ∃ e, e ∈ o.after ∧ Region.binds .any e = true ∧ (e.on = i ∨ ((depMasks ops.toList []).getD e.on 0).testBit i = true) := by
 have h1 := (depMasks_get ops.toList [] j o (by rw [Array.getElem?_toList]; exact ho)).1
 rw [List.length_nil, Nat.zero_add] at h1
 rw [h1] at h
 unfold depMask at h
 rcases foldl_bits _ _ _ _ h with h2 | ⟨e, h2, h3, h4⟩
 ·simp at h2
 ·refine ⟨e, by simpa using h2, h3, ?_⟩
  rcases h4 with h4 | h4
  ·exact .inl h4
  ·rw [getD_take _ _ _ _ (hon e (by simpa using h2) h3)] at h4
   exact .inr h4
theorem freeOf_spec {all : List Oper} {o : Oper} {A : Acc} {m : Nat} : ∀ {l : List (Oper × Acc)} {i0 : Nat}, freeOf all o A m l i0 = true → ∀ p x b, l[p]? = some (x, b) → m.testBit (i0 + p) = true ∨ (Acc.apart b A = true ∧ parts2 all x o = true)
 | [], _, _, p, x, b, h => by simp at h
 | (y, d) :: l, i0, hf, p, x, b, h => by
  simp only [freeOf, Bool.and_eq_true, Bool.or_eq_true] at hf
  cases p with
  | zero => simp at h; obtain ⟨rfl, rfl⟩ := h; exact hf.1
  | succ p =>
   simp at h
   have := freeOf_spec hf.2 p x b h
   rwa [show i0 + 1 + p = i0 + (p + 1) by omega] at this
def U (n : Nat) (listed : Array Bool) : List Nat := (List.range n).filter fun i => !listed.getD i true
theorem mem_U {n : Nat} {listed : Array Bool} {i : Nat} : i ∈ U n listed ↔ i < n ∧ listed.getD i true = false := by
 unfold U; rw [List.mem_filter, List.mem_range]; simp
theorem U_sorted (n : Nat) (listed : Array Bool) : (U n listed).Pairwise (· < ·) := List.Pairwise.filter _ List.pairwise_lt_range
theorem U_set {n : Nat} {listed : Array Bool} {j : Nat} {l1 l2 : List Nat} (hsz : listed.size = n) (hj : j < n) (h : U n listed = l1 ++ j :: l2) : U n (listed.setIfInBounds j true) = l1 ++ l2 := by
 have h1 : U n (listed.setIfInBounds j true) = (U n listed).filter fun i => decide (i ≠ j) := by
  unfold U
  rw [List.filter_filter]
  apply List.filter_congr
  intro i hi
  by_cases e : i = j
  ·subst e; simp [hsz, hj]
  ·rw [getD_set_ne true (Ne.symm e)]; simp [e]
 have hs := U_sorted n listed
 rw [h] at hs
 rw [List.pairwise_append] at hs
 have a1 : ∀ i, i ∈ l1 → i ≠ j := fun i hi => Nat.ne_of_lt (hs.2.2 i hi j (by simp))
 have a2 : ∀ i, i ∈ l2 → i ≠ j := fun i hi => Nat.ne_of_gt ((List.pairwise_cons.1 hs.2.1).1 i hi)
 rw [h1, h, List.filter_append, List.filter_cons]
 simp only [ne_eq, not_true_eq_false, decide_false, Bool.false_eq_true, if_false]
 rw [List.filter_eq_self.2 (fun i hi => by simpa using a1 i hi), List.filter_eq_self.2 (fun i hi => by simpa using a2 i hi)]
theorem any_ok (hTab : TabOK P tab) (hcall : CallsOK tab.tid P call) (hreg : regOK N ops.toList 0 = true) {prs : List (Oper × Acc)} (hprs : prs.map (·.1) = ops.toList)
  (hpair : ∀ i j p q, i < j → prs[i]? = some p → prs[j]? = some q → ((depMasks ops.toList []).getD j 0).testBit i = true ∨ (Acc.apart p.2 q.2 = true ∧ parts2 ops.toList p.1 q.1 = true)) {Q : Exit → Act → World → Prop} {σe : St}
  (hQ : ∀ σe' c' a' w', Eqv σe σe' → Rel tab.tid B N c' σe' a' w' → Q .normal a' w') :
  ∀ (fuel : Nat) (listed : Array Bool) (σ σf : St) (c : Cx) (a : Act) (w : World), (U ops.size listed).length ≤ fuel → listed.size = ops.size →
   (∀ j, listed.getD j false = true → ∀ i, ((depMasks ops.toList []).getD j 0).testBit i = true → listed.getD i false = true) →
   RunL tab call τ ops.toList ((U ops.size listed).map fun i => prs.getD i default) σ σf → Eqv σe σf → Rel tab.tid B N c σ a w → wpAny P .any ops Q fuel listed a w := by
 have hlen : prs.length = ops.size := by have := congrArg List.length hprs; simpa using this
 have hop : ∀ i, i < ops.size → ∃ o A, ops[i]? = some o ∧ prs[i]? = some (o, A) := by
  intro i hi
  obtain ⟨p, hp⟩ : ∃ p, prs[i]? = some p := ⟨prs[i]'(by omega), List.getElem?_eq_getElem _⟩
  have h1 : (prs.map (·.1))[i]? = some p.1 := by rw [List.getElem?_map, hp]; rfl
  rw [hprs, Array.getElem?_toList] at h1
  exact ⟨p.1, p.2, h1, hp⟩
 have hgetD : ∀ i p, prs[i]? = some p → prs.getD i default = p := fun i p hp => by rw [List.getD_eq_getElem?_getD, hp]; rfl
 have hfine : ∀ i o, ops[i]? = some o → opFine N o = true ∧ ∀ e, e ∈ o.after → Region.binds .any e = true → e.on < i := by
  intro i o ho
  have := regOK_spec hreg i o (by rw [Array.getElem?_toList]; exact ho)
  simpa using this
 have hfalse : ∀ (listed : Array Bool) i, listed.size = ops.size → i < ops.size → listed.getD i true = true → listed.getD i false = true := by
  intro listed i hs hi h
  have : i < listed.size := by omega
  simpa [this] using h
 have nonempty : ∀ (listed : Array Bool), listed.size = ops.size → U ops.size listed ≠ [] → Region.ready .any ops listed ≠ [] := by
  intro listed hs hne
  obtain ⟨i, l, hl⟩ := List.exists_cons_of_ne_nil hne
  have hi : i ∈ U ops.size listed := by rw [hl]; simp
  obtain ⟨h1, h2⟩ := mem_U.1 hi
  obtain ⟨o, A, ho, _⟩ := hop i h1
  have : i ∈ Region.ready .any ops listed := by
   rw [mem_ready]
   refine ⟨h2, o, ho, fun e he hb => ?_⟩
   have hlt := (hfine i o ho).2 e he hb
   cases hL : listed.getD e.on true with
   | true => exact hfalse listed e.on hs (by omega) hL
   | false =>
    have hm : e.on ∈ U ops.size listed := mem_U.2 ⟨by omega, hL⟩
    have hs := U_sorted ops.size listed
    rw [hl] at hs hm
    rcases List.mem_cons.1 hm with hm | hm
    ·omega
    ·have := (List.pairwise_cons.1 hs).1 _ hm; omega
  intro e
  rw [e] at this; cases this
 intro fuel
 induction fuel with
 | zero =>
  intro listed σ σf c a w hl hs hI hR he h
  have hU : U ops.size listed = [] := List.eq_nil_of_length_eq_zero (by omega)
  rw [hU] at hR
  cases hR
  refine ⟨?_, hQ _ _ _ _ he h⟩
  cases hr : Region.ready .any ops listed with
  | nil => rfl
  | cons i r =>
   have hi : i ∈ Region.ready .any ops listed := by rw [hr]; simp
   obtain ⟨h1, o, ho, _⟩ := mem_ready.1 hi
   have : i ∈ U ops.size listed := mem_U.2 ⟨(Array.getElem?_eq_some_iff.1 ho).1, h1⟩
   rw [hU] at this; cases this
 | succ fuel ih =>
  intro listed σ σf c a w hl hs hI hR he h
  refine ⟨fun hr => ?_, fun j hj => ?_⟩
  ·have hU : U ops.size listed = [] := by
    cases hU : U ops.size listed with
    | nil => rfl
    | cons x l => exact absurd hr (nonempty listed hs (by rw [hU]; simp))
   rw [hU] at hR
   cases hR
   exact hQ _ _ _ _ he h
  ·obtain ⟨hj1, oj, hoj, hdeps⟩ := mem_ready.1 hj
   have hjn : j < ops.size := (Array.getElem?_eq_some_iff.1 hoj).1
   obtain ⟨_, Aj, hoj', hpj⟩ := hop j hjn
   rw [hoj] at hoj'; cases hoj'
   have hjU : j ∈ U ops.size listed := mem_U.2 ⟨hjn, hj1⟩
   obtain ⟨l1, l2, hU⟩ := List.append_of_mem hjU
   have hbits : ∀ i, ((depMasks ops.toList []).getD j 0).testBit i = true → listed.getD i false = true := by
    intro i hi
    obtain ⟨e, h1, h2, h3⟩ := mask_bits hoj (hfine j oj hoj).2 hi
    have h4 := hdeps e h1 h2
    rcases h3 with rfl | h3
    ·exact h4
    ·exact hI e.on h4 i h3
   have hsrt := U_sorted ops.size listed
   rw [hU, List.pairwise_append] at hsrt
   have hRU := hR
   rw [hU, List.map_append, List.map_cons, hgetD j _ hpj] at hRU
   obtain ⟨σf', g1, g2⟩ := RunL.bubble hTab (N := N) (fun p hp => by
    have : ∃ i, i ∈ U ops.size listed ∧ p = prs.getD i default := by
     rw [hU]
     simp only [List.mem_append, List.mem_map, List.mem_cons] at hp ⊢
     rcases hp with ⟨i, hi, rfl⟩ | rfl | ⟨i, hi, rfl⟩
     ·exact ⟨i, .inl hi, rfl⟩
     ·exact ⟨j, .inr (.inl rfl), (hgetD j _ hpj).symm⟩
     ·exact ⟨i, .inr (.inr hi), rfl⟩
    obtain ⟨i, hi, rfl⟩ := this
    obtain ⟨o, A, ho, hp⟩ := hop i (mem_U.1 hi).1
    rw [hgetD i _ hp]
    exact (hfine i o ho).1) (fun p hp => by
    obtain ⟨i, hi, rfl⟩ := List.mem_map.1 hp
    have hiU : i ∈ U ops.size listed := by rw [hU]; simp [hi]
    obtain ⟨o, A, ho, hp⟩ := hop i (mem_U.1 hiU).1
    rw [hgetD i _ hp]
    have hlt : i < j := hsrt.2.2 i hi j (by simp)
    rcases hpair i j _ _ hlt hp hpj with hm | hm
    ·have h1 := hbits i hm
     have h2 := (mem_U.1 hiU).2
     have : i < listed.size := by rw [hs]; exact (mem_U.1 hiU).1
     simp [this] at h1 h2
     rw [h1] at h2; cases h2
    ·exact hm) hRU
   cases g1 with
   | cons _ _ _ σ1 _ k1 k2 k3 =>
    refine wpOp_ok hTab hcall hoj (hfine j oj hoj).1 h k1 fun c' a' w' h' => ?_
    have hU' := U_set hs hjn hU
    refine ih (listed.setIfInBounds j true) σ1 σf' c' a' w' (by rw [hU']; rw [hU] at hl; simp at hl ⊢; omega) (by simp [hs]) (fun j' hj' i hi => ?_) (by rw [hU', List.map_append]; exact k3) (he.trans g2) h'
    by_cases e : j = j'
    ·subst e
     exact getD_set_true (hbits i hi)
    ·rw [getD_set_ne false e] at hj'
     exact getD_set_true (hI j' hj' i hi)
end
end Go.AI
namespace Go.AI
section
variable {tab : Tab} {call : (τ : STy) → Nat → List AV → τ.T → Option (AV × τ.T)} {τ : STy} {σ σ' σ1 σ2 : St} {P : Program} {B : Base} {N : Nat} {c : Cx} {a : Act} {w : World} {tid : El → Nat}
theorem wp_loop_n {co : Code} {Q : Exit → Act → World → Prop} (J : Nat → Act → World → Prop) (h0 : ∀ a w, ¬ J 0 a w) (round : ∀ n a w, J (n + 1) a w → co.wp P (Exit.then (J n) Q) a w) (n : Nat) (hJ : J n a w) : (Code.loop co).wp P Q a w := by
 intro b k cs
 have key : ∀ n a w, J n a w → ∃ e a' w', Q e a' w' ∧ Arrives P (lone (b.at a (.code co :: .inLoop co :: k)) cs w) b k cs e a' w' := by
  intro n
  induction n with
  | zero => intro a w h; exact (h0 a w h).elim
  | succ n ih =>
   intro a w h
   obtain ⟨e, a₁, w₁, hq, harr⟩ := round n a w h b (.inLoop co :: k) cs
   cases e with
   | normal =>
    obtain ⟨e₂, a₂, w₂, hq₂, harr₂⟩ := ih a₁ w₁ hq
    exact ⟨e₂, a₂, w₂, hq₂, .of_steps (Steps.trans harr (.one step_inLoop)) harr₂⟩
   | exit id => exact ⟨_, a₁, w₁, hq, .pass (x := .inLoop co) rfl (fun _ _ => .inl (by simp)) harr⟩
   | goto l => exact ⟨_, a₁, w₁, hq, .pass (x := .inLoop co) rfl (fun _ _ => .inl (by simp)) harr⟩
   | ret => exact ⟨_, a₁, w₁, hq, .pass (x := .inLoop co) rfl (fun _ _ => .inl (by simp)) harr⟩
   | panic ch => exact ⟨_, a₁, w₁, hq, .pass (x := .inLoop co) rfl (fun _ _ => .inl (by simp)) harr⟩
   | outgrown => exact ⟨_, a₁, w₁, hq, .pass (x := .inLoop co) rfl (fun _ _ => .inl (by simp)) harr⟩
 obtain ⟨e, a', w', hq, harr⟩ := key n a w hJ
 exact ⟨e, a', w', hq, .of_steps (.one step_loop) harr⟩
theorem getT_tab (f : Nat → AV) : ∀ (l : List Nat) (i : Nat), getT (l.map fun i => (i, f i)) i = f i ∨ getT (l.map fun i => (i, f i)) i = .undef
 | [], i => .inr rfl
 | j :: l, i => by
  rw [List.map_cons, getT_cons]
  split
  ·rename_i e; subst e; exact .inl rfl
  ·exact getT_tab f l i
theorem getB_tab {β : Type} (f : Nat × β → List AV) : ∀ (l : List (Nat × β)) (k : Nat), (∃ x, x ∈ l ∧ x.1 = k ∧ getB (l.map fun x => (x.1, f x)) k = f x) ∨ ((∀ x, x ∈ l → x.1 ≠ k) ∧ getB (l.map fun x => (x.1, f x)) k = [])
 | [], k => .inr ⟨fun x hx => by simp at hx, rfl⟩
 | y :: l, k => by
  rw [List.map_cons, getB_cons]
  by_cases e : y.1 = k
  ·rw [if_pos e]; exact .inl ⟨y, by simp, e, rfl⟩
  ·rw [if_neg e]
   rcases getB_tab f l k with ⟨x, h1, h2, h3⟩ | ⟨h1, h2⟩
   ·exact .inl ⟨x, by simp [h1], h2, h3⟩
   ·exact .inr ⟨fun x hx => by rcases List.mem_cons.1 hx with rfl | hx; exact e; exact h1 x hx, h2⟩
theorem mem_bad {k : Nat} : k ∈ badKeys τ σ ↔ (k ∈ ownKeys σ.s ∧ k ∉ τ.keys) ∨ (k ∈ τ.keys ∧ k ∉ ownKeys σ.s) := by
 unfold badKeys
 simp [List.mem_append, List.mem_filter]
theorem Rel.mask (h : Rel tid B N c σ a w) (m : Mask) : ∃ c', Rel tid B N c' (m.apply τ σ) a w := by
 have hw := h.hw
 -- the struct's lists, by their new keys
 obtain ⟨κ0, hκ0, hκi, hκs, hrow⟩ : ∃ κ0 : Nat → Option Nat, (∀ k b, κ0 k = some b → k ∈ τ.keys ∧ ∃ k', k' ∈ ownKeys σ.s ∧ k' ∉ σ.fr ∧ c.κ k' = some b) ∧ (∀ k k' b, κ0 k = some b → κ0 k' = some b → k = k') ∧
   (∀ k, k ∈ τ.keys → k ∈ ownKeys σ.s → k ∉ σ.fr → κ0 k = c.κ k) ∧
   ((m.apply τ σ).s ≠ [] → σ.s ≠ [] ∧ ∃ p, (m.apply τ σ).s = τ.enc 0 p ∧ ∃ vs T, Blk c.w c.g vs T ∧ (τ.enc 0 p).length = vs.length ∧ ∀ i, i < (τ.enc 0 p).length → A1 tid ⟨c.w, c.S, c.g, κ0, fun _ => 0⟩ st0 ((τ.enc 0 p).getD i .undef) (vs.getD i Go.undef)) := by
  cases hd : τ.dec σ.v σ.fr σ.s with
  | none =>
   refine ⟨fun k => if k ∈ τ.keys ∧ k ∈ ownKeys σ.s ∧ k ∉ σ.fr then c.κ k else none, fun k b hk => ?_, fun k k' b h1 h2 => ?_, fun k h1 h2 h3 => ?_, fun hne => ?_⟩
   ·dsimp only at hk
    split at hk
    ·rename_i hq; exact ⟨hq.1, k, hq.2.1, hq.2.2, hk⟩
    ·cases hk
   ·dsimp only at h1 h2
    split at h1
    ·rename_i q1
     split at h2
     ·rename_i q2
      exact h.inj k k' b q1.2.2 q2.2.2 h1 h2
     ·cases h2
    ·cases h1
   ·dsimp only; rw [if_pos ⟨h1, h2, h3⟩]
   ·exact absurd (show (m.apply τ σ).s = [] by unfold Mask.apply; simp only [hd]) hne
  | some p =>
   have hse : (m.apply τ σ).s = τ.enc 0 p := by unfold Mask.apply; simp only [hd]
   by_cases hs : σ.s = []
   ·refine ⟨fun k => none, fun k b hk => (by cases hk), fun k k' b hk => (by cases hk), fun k h1 h2 => ?_, fun hne => ?_⟩
    ·rw [hs] at h2; simp [ownKeys] at h2
    ·have : τ = .unit := (dec_unit hd).1 hs
     subst this
     rw [hse] at hne
     exact absurd rfl hne
   ·obtain ⟨vs, T, h1, h2, h3⟩ := h.s hs
    obtain ⟨κ0, g1, g2, g3, g4, g5⟩ := decRow (gb := c.g) h.inj h2 h3 hd
    exact ⟨κ0, g3, g4, fun k q1 q2 _ => g5 k q1 q2, fun _ => ⟨hs, p, hse, vs, T, h1, g1, g2⟩⟩
 -- what stays
 let S' : Nat → Nat → Prop := fun b o => c.S b o ∨ ∃ k, k ∈ τ.keys ∧ k ∉ ownKeys σ.s ∧ c.κ k = some b
 let κ' : Nat → Option Nat := fun k => if k ∈ τ.keys then κ0 k else if k ∈ ownKeys σ.s ∨ k ∈ σ.fr then none else c.κ k
 have hS' : ∀ b o, c.S b o → S' b o := fun _ _ h => .inl h
 have hκ' : ∀ k b, κ' k = some b → ∃ k', k' ∉ σ.fr ∧ c.κ k' = some b ∧ (k ∈ τ.keys → κ0 k = some b ∧ k' ∈ ownKeys σ.s) ∧ (k ∉ τ.keys → k' = k ∧ k ∉ ownKeys σ.s) := by
  intro k b hk
  by_cases hkt : k ∈ τ.keys
  ·simp only [κ', if_pos hkt] at hk
   obtain ⟨_, k', g1, g2, g3⟩ := hκ0 k b hk
   exact ⟨k', g2, g3, fun _ => ⟨hk, g1⟩, fun hn => absurd hkt hn⟩
  ·simp only [κ', if_neg hkt] at hk
   split at hk
   ·cases hk
   ·rename_i hq
    exact ⟨k, fun hf => hq (.inr hf), hk, fun hn => absurd hn hkt, fun _ => ⟨rfl, fun ho => hq (.inl ho)⟩⟩
 have hleft : ∀ b, (∃ k, k ∈ τ.keys ∧ k ∉ ownKeys σ.s ∧ c.κ k = some b) → (∀ o, c.S b o) ∨ ∃ k, k ∈ τ.keys ∧ k ∉ ownKeys σ.s ∧ k ∉ σ.fr ∧ c.κ k = some b := by
  intro b ⟨k, g1, g2, g3⟩
  by_cases hf : k ∈ σ.fr
  ·exact .inl (h.fz k b hf g3)
  ·exact .inr ⟨k, g1, g2, hf, g3⟩
 have hnS : ∀ k' b, k' ∉ σ.fr → c.κ k' = some b → (k' ∈ τ.keys → k' ∈ ownKeys σ.s) → ∀ o, ¬ S' b o := by
  intro k' b hf hb hin o hs
  have r := h.own k' b hf hb
  rcases hs with hs | hs
  ·exact r.2.2.1 o hs
  ·rcases hleft b hs with hs | ⟨k, g1, g2, g3, g4⟩
   ·exact r.2.2.1 o (hs o)
   ·have := h.inj k k' b g3 hf g4 hb
    subst this
    exact g2 (hin g1)
 have hF : ∀ {x v}, FRel c.w c.S c.g x v → FRel c.w S' c.g x v := fun r => r.stay (fun _ _ _ _ h => h) hS'
 have hC : ∀ {l vs}, CR c.w c.S c.g l vs → CR c.w S' c.g l vs := fun r => r.stay (fun _ _ _ _ h => h) hS'
 have hv0 : ∀ k, getV (m.apply τ σ).v k = 0 := fun _ => rfl
 -- a value, under its new name
 have hgood : ∀ k ver, (badKeys τ σ).contains k = false → σ.cur k ver = true → σ.fro k = false → ver = getV σ.v k ∧ κ' k = c.κ k := by
  intro k ver h1 h2 h3
  have hf : k ∉ σ.fr := not_fro (by rw [h3]; rfl)
  have hb : k ∉ badKeys τ σ := by simpa using h1
  rw [mem_bad] at hb
  refine ⟨cur_eq h2, ?_⟩
  by_cases hkt : k ∈ τ.keys
  ·have ho : k ∈ ownKeys σ.s := Classical.byContradiction fun hn => hb (.inr ⟨hkt, hn⟩)
   simp only [κ', if_pos hkt]
   exact hκs k hkt ho hf
  ·have ho : k ∉ ownKeys σ.s := fun hn => hb (.inl ⟨hn, hkt⟩)
   simp only [κ', if_neg hkt]
   rw [if_neg]
   rintro (hn | hn)
   ·exact ho hn
   ·exact hf hn
 have hfrS : ∀ k b, σ.fro k = true → c.κ k = some b → ∀ o, c.S b o := fun k b hf hb => h.fz k b (by simpa [St.fro] using hf) hb
 have hAle : ∀ {x v} (bs : List Nat), (∀ k, bs.contains k = true → getB σ.b k ≠ [] → getB (m.apply τ σ).b k ≠ []) → A1 tid c σ x v → A1 tid ⟨c.w, S', c.g, κ', c.β⟩ (m.apply τ σ) (retag1 σ bs (badKeys τ σ) x) v := by
  intro x v bs hbs r
  cases x with
  | own k ver e l =>
   simp only [retag1]
   split
   ·rename_i h1 h2 h3
    obtain ⟨g1, g2⟩ := hgood k ver h1 h2 h3
    refine ⟨r.1, Nat.zero_le _, fun _ => ?_⟩
    rcases r.2.2 g1 with r | ⟨b, vs, r1, r2, r3, r4⟩
    ·exact .inl r
    ·exact .inr ⟨b, vs, g2.trans r1, r2, r3, hC r4⟩
   ·rename_i h1 h2 h3
    have hO := r.2.2 (cur_eq h2)
    refine hF (FRel.ofSl ?_)
    rcases hO.cells with ⟨rfl, ad, rfl⟩ | ⟨b, q, vs, g1, rfl, g2, g3, g4⟩
    ·exact ⟨ad, 0, rfl, Nat.le_refl _, .inl rfl⟩
    ·exact ⟨_, q, rfl, g2, .inr ⟨b, 0, vs, rfl, g3, g4, fun j _ => hfrS k b h3 g1 _⟩⟩
   ·exact FRel.undef _
  | vw k ver e l =>
   simp only [retag1]
   split
   ·rename_i h1 h2 h3
    obtain ⟨g1, g2⟩ := hgood k ver h1 h2 h3
    refine ⟨Nat.zero_le _, fun _ => ?_⟩
    rcases r.2 g1 with r | ⟨b, off, q, vs, r1, r2, r3, r4, r5⟩
    ·exact .inl r
    ·exact .inr ⟨b, off, q, vs, g2.trans r1, r2, r3, r4, hC r5⟩
   ·rename_i h1 h2 h3
    refine hF (FRel.ofSl ?_)
    rcases r.2 (cur_eq h2) with ⟨rfl, ad, q, rfl⟩ | ⟨b, off, q, vs, r1, rfl, r3, r4, r5⟩
    ·exact ⟨ad, q, rfl, Nat.zero_le _, .inl rfl⟩
    ·exact ⟨_, q, rfl, r3, .inr ⟨b, off, vs, rfl, r4, r5, fun j _ => hfrS k b h3 r1 _⟩⟩
   ·exact FRel.undef _
  | vpt k ver e x o =>
   simp only [retag1]
   split
   ·rename_i h1 h2 h3
    obtain ⟨g1, g2⟩ := hgood k ver h1 h2 h3
    obtain ⟨ad, r0, r1, r2⟩ := r
    refine ⟨ad, r0, Nat.zero_le _, fun _ => ?_⟩
    obtain ⟨b, off, vs, q1, q2, q3, q4⟩ := r2 g1
    exact ⟨b, off, vs, g2.trans q1, q2, q3, hC q4⟩
   ·rename_i h1 h2 h3
    obtain ⟨ad, r0, r1, r2⟩ := r
    obtain ⟨b, off, vs, q1, rfl, q3, q4⟩ := r2 (cur_eq h2)
    have hl := q4.1
    rw [El.enc_length] at hl
    exact hF (.spt e x o b off (fun j => vs.getD j Go.undef) (fun j hj => q4.2 j (by rw [El.enc_length]; exact hj)) fun j hj => ⟨hfrS k b h3 q1 _, q3 j _ (get?_of_lt _ (by omega))⟩)
   ·exact FRel.undef _
  | opt k ver e x i o =>
   simp only [retag1]
   split
   ·rename_i h1 h2 h3
    obtain ⟨g1, g2⟩ := hgood k ver h1 h2 h3
    obtain ⟨ad, r0, r1, r2⟩ := r
    refine ⟨ad, r0, Nat.zero_le _, fun _ => ?_⟩
    obtain ⟨b, us, T, q1, q2, q3, q4, q5⟩ := r2 g1
    exact ⟨b, us, T, g2.trans q1, q2, q3, q4, hC q5⟩
   ·rename_i h1 h2 h3
    obtain ⟨ad, r0, r1, r2⟩ := r
    obtain ⟨b, us, T, q1, rfl, q3, q4, q5⟩ := r2 (cur_eq h2)
    have hl := q5.1
    rw [El.enc_length] at hl
    have q6 := ((Blk.cells q3).drop (i.toNat * e.sz)).take e.sz
    rw [Nat.zero_add] at q6
    exact hF (.spt e x o b (i.toNat * e.sz) (fun j => ((us.drop (i.toNat * e.sz)).take e.sz).getD j Go.undef) (fun j hj => q5.2 j (by rw [El.enc_length]; exact hj)) fun j hj => ⟨hfrS k b h3 q1 _, q6 j _ (get?_of_lt _ (by omega))⟩)
   ·exact FRel.undef _
  | lbox k i =>
   simp only [retag1]
   split
   ·rename_i h1
    exact ⟨r.1, hbs k h1 r.2⟩
   ·exact FRel.undef _
  | _ => exact hF r
 have hown : ∀ (own : List (Nat × Nat × El)) (i : Nat) {x v}, A1 tid ⟨c.w, S', c.g, κ', c.β⟩ (m.apply τ σ) x v → A1 tid ⟨c.w, S', c.g, κ', c.β⟩ (m.apply τ σ) (ownify own i x) v := by
  intro own i x v r
  cases x with
  | nil =>
   simp only [ownify]
   split
   ·have hf : FRel c.w S' c.g .nil v := r
    cases hf
    exact ⟨⟨_, _, _, rfl⟩, Nat.zero_le _, fun _ => .inl ⟨rfl, _, rfl⟩⟩
   ·exact r
  | _ => exact r
 have hlv : ∀ (i : Nat) {x v}, A1 tid c σ x v → A1 tid ⟨c.w, S', c.g, c.κ, c.β⟩ σ (leave τ σ m.fz i x) v := by
  intro i x v r
  have r' : A1 tid ⟨c.w, S', c.g, c.κ, c.β⟩ σ x v := r.step (c := c) (σ := σ) (c' := ⟨c.w, S', c.g, c.κ, c.β⟩) (σ' := σ) ⟨rfl, fun _ _ _ _ h => h, hS', Nat.le_refl _, fun _ h => ⟨h, rfl⟩, fun _ => .inl ⟨rfl, rfl, fun _ _ => rfl⟩⟩
  cases x with
  | own k ver e l =>
   simp only [leave]
   split
   ·rename_i h1 h2 h3
    simp only [Bool.and_eq_true] at h2
    have hk1 : k ∈ τ.keys := by simpa using h2.1
    have hk2 : k ∉ ownKeys σ.s := by simpa using h2.2
    have hO := r.2.2 (cur_eq h3)
    refine FRel.ofSl (w := c.w) (S := S') (g := c.g) ?_
    rcases hO.cells with ⟨rfl, ad, rfl⟩ | ⟨b, q, vs, g1, rfl, g2, g3, g4⟩
    ·exact ⟨ad, 0, rfl, Nat.le_refl _, .inl rfl⟩
    ·exact ⟨_, q, rfl, g2, .inr ⟨b, 0, vs, rfl, g3, hC g4, fun j _ => .inr ⟨k, hk1, hk2, g1⟩⟩⟩
   ·exact r'
  | _ => exact r'
 have hgb : ∀ k, getB (m.apply τ σ).b k ≠ [] → getB σ.b k ≠ [] := by
  intro k hk he
  rcases getB_tab (fun x : Nat × List (Nat × Nat × El) => (getB σ.b x.1).zipIdx.map fun (a, i) => ownify x.2 i (retag1 σ [] (badKeys τ σ) a)) m.b k with ⟨x, g1, g2, g3⟩ | ⟨g1, g2⟩
  ·have : getB (m.apply τ σ).b k = _ := g3
   rw [this] at hk
   subst g2
   dsimp only at hk
   rw [he] at hk; simp at hk
  ·exact hk g2
 have hbs : ∀ k, (m.b.map (·.1)).contains k = true → getB σ.b k ≠ [] → getB (m.apply τ σ).b k ≠ [] := by
  intro k hk hne
  have hk : k ∈ m.b.map (·.1) := by simpa using hk
  obtain ⟨y, hy, hy2⟩ := List.mem_map.1 hk
  rcases getB_tab (fun x : Nat × List (Nat × Nat × El) => (getB σ.b x.1).zipIdx.map fun (a, i) => ownify x.2 i (retag1 σ [] (badKeys τ σ) a)) m.b k with ⟨x, g1, g2, g3⟩ | ⟨g1, g2⟩
  ·have : getB (m.apply τ σ).b k = _ := g3
   rw [this]
   subst g2
   dsimp only
   intro he
   have := congrArg List.length he
   simp at this
   exact hne this
  ·exact absurd hy2 (g1 y hy)
 refine ⟨⟨c.w, S', c.g, κ', c.β⟩, { hw := hw, ds := h.ds, n := h.n, t := fun i => ?_, b := fun k hk => ?_, s := fun hs => ?_, ver := fun k => Nat.le_refl _, fz := fun k b hk => (by simp [Mask.apply] at hk), own := fun k b _ hb => ?_, inj := fun k k' b _ _ h1 h2 => ?_, box := fun k hk => ?_, gg := fun hs => ?_, old := fun b o hs => ?_, grow := fun b o hs => .inl (h.grow b o hs), stsz := fun b o hs => ?_, keep := h.keep }⟩
 ·have ht : getT (m.apply τ σ).t i = ownify m.own i (retag σ (m.b.map (·.1)) (badKeys τ σ) (leave τ σ m.fz i (getT σ.t i))) ∨ getT (m.apply τ σ).t i = .undef :=
   getT_tab (fun i => ownify m.own i (retag σ (m.b.map Prod.fst) (badKeys τ σ) (leave τ σ m.fz i (getT σ.t i)))) m.t i
  rcases ht with ht | ht
  ·rw [ht]
   have r := h.t i
   generalize hx : getT σ.t i = x at r
   by_cases ha : ∃ l, x = .agg l
   ·obtain ⟨l, rfl⟩ := ha
    obtain ⟨vs, r1, r2, r3⟩ := r
    refine ⟨vs, r1, by simp [r2], fun j hj => ?_⟩
    have hm : (l.map (retag1 σ (m.b.map (·.1)) (badKeys τ σ))).getD j .undef = retag1 σ (m.b.map (·.1)) (badKeys τ σ) (l.getD j .undef) := map_getD _ rfl _ _
    show A1 tid _ _ ((l.map (retag1 σ (m.b.map (·.1)) (badKeys τ σ))).getD j .undef) _
    rw [hm]
    exact hAle _ hbs (r3 j (by simpa using hj))
   ·have hna : ∀ l, x ≠ .agg l := fun l e => ha ⟨l, e⟩
    have r1 := r.to_A1 tid hna
    -- what left the struct, or what is as it was
    by_cases hlx : leave τ σ m.fz i x = x
    ·rw [hlx]
     have hr : retag σ (m.b.map (·.1)) (badKeys τ σ) x = retag1 σ (m.b.map (·.1)) (badKeys τ σ) x := by
      cases x <;> first | rfl | exact absurd rfl (hna _)
     rw [hr]
     exact AR.of_A1' (hown _ _ (hAle _ hbs r1))
    ·have r2 := hlv i r1
     cases x with
     | own k ver e l =>
      simp only [leave] at hlx r2 ⊢
      split at hlx
      ·rename_i h1 h2 h3
       simp only [h1, h2, h3] at r2 ⊢
       exact AR.of_A1' (show FRel c.w S' c.g (.sl e l) _ from r2)
      ·exact absurd rfl hlx
     | _ => exact absurd rfl hlx
  ·rw [ht]; exact FRel.undef _
 ·have hk0 := hgb k hk
  rcases getB_tab (fun x : Nat × List (Nat × Nat × El) => (getB σ.b x.1).zipIdx.map fun (a, i) => ownify x.2 i (retag1 σ [] (badKeys τ σ) a)) m.b k with ⟨x, g1, g2, g3⟩ | ⟨g1, g2⟩
  ·have hg : getB (m.apply τ σ).b k = _ := g3
   rw [hg]
   subst g2
   obtain ⟨vs, T, r1, r2, r3⟩ := h.b x.1 hk0
   refine ⟨vs, T, r1, by simp [r2], fun i hi => ?_⟩
   have hi : i < (getB σ.b x.1).length := by simpa using hi
   have : ((getB σ.b x.1).zipIdx.map fun (a, i) => ownify x.2 i (retag1 σ [] (badKeys τ σ) a)).getD i .undef = ownify x.2 i (retag1 σ [] (badKeys τ σ) ((getB σ.b x.1).getD i .undef)) := by
    rw [List.getD_eq_getElem?_getD, List.getElem?_map, List.getElem?_zipIdx, List.getElem?_eq_getElem hi, List.getD_eq_getElem?_getD, List.getElem?_eq_getElem hi]
    simp
   dsimp only
   rw [this]
   exact hown _ _ (hAle [] (fun k hk => by simp at hk) (r3 i hi))
  ·exact absurd g2 hk
 ·obtain ⟨hs0, p, hp, vs, T, r1, r2, r3⟩ := hrow hs
  rw [hp]
  refine ⟨vs, T, r1, r2, fun i hi => ?_⟩
  have r4 := (r3 i hi).step (c := ⟨c.w, c.S, c.g, κ0, fun _ => 0⟩) (σ := st0) (c' := ⟨c.w, S', c.g, κ0, fun _ => 0⟩) (σ' := st0) ⟨rfl, fun _ _ _ _ h => h, hS', Nat.le_refl _, fun _ h => ⟨h, rfl⟩, fun _ => .inl ⟨rfl, rfl, fun _ _ => rfl⟩⟩
  exact enc_ver τ 0 p ⟨c.w, S', c.g, κ0, fun _ => 0⟩ ⟨c.w, S', c.g, κ', c.β⟩ st0 (m.apply τ σ) rfl rfl rfl (fun k hk => by simp only [κ', if_pos hk]) (fun k _ => rfl) (Nat.zero_le _) r4
 ·obtain ⟨k', g1, g2, g3, g4⟩ := hκ' k b hb
  have r := h.own k' b g1 g2
  refine ⟨r.1, r.2.1, hnS k' b g1 g2 (fun hkt => ?_), fun hs => r.2.2.2.1 (hrow hs).1, fun j hj => r.2.2.2.2 j (hgb j hj)⟩
  by_cases hk : k ∈ τ.keys
  ·exact (g3 hk).2
  ·have := (g4 hk).1
   subst this
   exact absurd hkt hk
 ·obtain ⟨i, g1, g2, g3, g4⟩ := hκ' k b h1
  obtain ⟨i', g1', g2', g3', g4'⟩ := hκ' k' b h2
  have e := h.inj i i' b g1 g1' g2 g2'
  by_cases hk : k ∈ τ.keys <;> by_cases hk' : k' ∈ τ.keys
  ·exact hκi k k' b (g3 hk).1 (g3' hk').1
  ·have a1 := (g3 hk).2
   have a2 := g4' hk'
   rw [e, a2.1] at a1
   exact absurd a1 a2.2
  ·have a1 := (g3' hk').2
   have a2 := g4 hk
   rw [← e, a2.1] at a1
   exact absurd a1 a2.2
  ·rw [← (g4 hk).1, ← (g4' hk').1, e]
 ·have r := h.box k (hgb k hk)
  refine ⟨r.1, fun o hs => ?_, fun hs => r.2.2.1 (hrow hs).1, fun j hj => r.2.2.2 j (hgb j hj)⟩
  rcases hs with hs | hs
  ·exact r.2.1 o hs
  ·rcases hleft _ hs with hs | ⟨k', q1, q2, q3, q4⟩
   ·exact r.2.1 o (hs o)
   ·exact (h.own k' _ q3 q4).2.2.2.2 k (hgb k hk) rfl
 ·have r := h.gg (hrow hs).1
  refine ⟨r.1, fun o hs' => ?_⟩
  rcases hs' with hs' | hs'
  ·exact r.2 o hs'
  ·rcases hleft _ hs' with hs' | ⟨k', q1, q2, q3, q4⟩
   ·exact r.2 o (hs' o)
   ·exact (h.own k' _ q3 q4).2.2.2.1 (hrow hs).1 rfl
 ·rcases hs with hs | hs
  ·exact h.old b o hs
  ·rcases hleft _ hs with hs | ⟨k', q1, q2, q3, q4⟩
   ·exact h.old b o (hs o)
   ·exact .inr (h.own k' b q3 q4).1
 ·rcases hs with hs | hs
  ·exact h.stsz b o hs
  ·rcases hleft _ hs with hs | ⟨k', q1, q2, q3, q4⟩
   ·exact h.stsz b o (hs o)
   ·exact (h.own k' b q3 q4).2.1
end
end Go.AI
namespace Go.AI
def codeOK (N : Nat) : Code → Bool
 | .region _ ops _ => regOK N ops.toList 0
 | .seq a b => codeOK N a && codeOK N b
 | .cond _ a b => codeOK N a && codeOK N b
 | .block _ a => codeOK N a
 | .loop a => codeOK N a
 | .scope a => codeOK N a
 | _ => true
def exOf : Ex → Exit
 | .normal => .normal | .exit i => .exit i | .ret => .ret
section
variable {tab : Tab} {call : (τ : STy) → Nat → List AV → τ.T → Option (AV × τ.T)} {τ : STy} {σ σ' σ1 σ2 : St} {P : Program} {B : Base} {N : Nat} {c : Cx} {a : Act} {w : World}
theorem Rel.drew {tid : El → Nat} (h : Rel tid B N c σ a w) : ∃ c', Rel tid B N c' σ a { w with drawn := w.drawn + 1 } := by
 have hw := h.hw
 obtain ⟨hR, _⟩ := h.called (σ' := σ) (w' := { w with drawn := w.drawn + 1 }) (S' := c.S) (F := fun _ => False) (κ' := fun _ => none) (Ks := []) ⟨rfl, rfl, rfl, Nat.le_refl _, fun _ _ _ => rfl⟩ (fun _ _ h => h) (fun _ _ h => .inl h) h.stsz
  (fun b hb => hb.elim) (fun b o hb => hb.elim) (fun k b _ _ hb => hb.elim) (fun k b hk => (by cases hk)) (fun k k' b hk => (by cases hk)) rfl (Nat.le_refl _) (fun k hk => (by simp at hk)) (fun k _ => rfl) (fun k => by simp)
  (fun j hj => (h.box j hj).2.1) (fun hs => (h.gg hs).2) (fun j => Iff.rfl) (fun h => h) (fun _ => ⟨fun j _ => .inl ⟨rfl, id⟩, fun _ => .inl ⟨rfl, id⟩⟩)
 exact ⟨_, hR⟩
theorem exec_ok (hTab : TabOK P tab) (hcall : CallsOK tab.tid P call) (hmix : P.follows .mixedOrders = true) {R : Type} {r : R} (masks : Nat → Mask) (lim : Nat) (co : Code) :
  ∀ (bid : Nat) (σ : St) (K : Ex → St → Option R) (c : Cx) (a : Act) (w : World) (Q : Exit → Act → World → Prop), codeOK N co = true → Rel tab.tid B N c σ a w → exec tab call τ masks lim co bid σ K = some r →
   (∀ ex σ' c' a' w', Rel tab.tid B N c' σ' a' w' → K ex σ' = some r → Q (exOf ex) a' w') → co.wp P Q a w := by
 induction co with
 | skip => intro bid σ K c a w Q hc h hs hK; exact wp_skip (hK .normal _ _ _ _ h hs)
 | region id ops draw =>
  intro bid σ K c a w Q hc h hs hK
  simp only [codeOK] at hc
  simp only [exec] at hs
  cases draw with
  | false =>
   refine wp_region ?_
   rw [List.range_eq_range']
   have := runOps_ok (ops := ops) hTab hcall (K := K .normal) (r := r) (Q := Q) (B := B) (N := N) (τ := τ) (fun σ' c' a' w' h' hk => hK .normal σ' c' a' w' h' hk) ops.toList 0 σ c a w (fun j => by simp) (fun o ho => by
    obtain ⟨i, hi⟩ := List.mem_iff_getElem?.1 ho
    exact (regOK_spec hc i o hi).1) h hs
   simpa using this
  | true =>
   refine wp_region_any hmix ?_
   obtain ⟨c', h'⟩ := h.drew
   have hfine : ∀ o, o ∈ ops.toList → opFine N o = true := fun o ho => by
    obtain ⟨i, hi⟩ := List.mem_iff_getElem?.1 ho
    exact (regOK_spec hc i o hi).1
   obtain ⟨σe, σx, prs, g1, g2, g3, g4, g5⟩ := runD_run hTab (N := N) ops.toList [] σ hfine hs
   have hlen : prs.length = ops.size := by have := congrArg List.length g1; simpa using this
   have hU : U ops.size (Array.replicate ops.size false) = List.range ops.size := by
    unfold U
    refine List.filter_eq_self.2 fun i hi => ?_
    have := List.mem_range.1 hi
    simp [this]
   refine any_ok (τ := τ) hTab hcall hc g1 (fun i j p q hij hp hq => ?_) (Q := Q) (σe := σe) (fun σe' c'' a'' w'' he h'' => hK .normal σx c'' a'' w'' (h''.eqv (he.symm.trans g3)) g4) ops.size _ σ σe c' a _ (by rw [hU]; simp) (by simp) (fun j hj => ?_) ?_ (.refl _) h'
   ·have := g5 j q hq
    rw [List.length_nil, Nat.zero_add, List.nil_append] at this
    have h2 := freeOf_spec this i p.1 p.2 (by rw [List.getElem?_take_of_lt hij]; exact hp)
    rwa [Nat.zero_add] at h2
   ·have hj : (Array.replicate ops.size false)[j]?.getD false = true := by simpa using hj
    rw [Array.getElem?_replicate] at hj
    split at hj <;> cases hj
   ·rw [hU]
    have : (List.range ops.size).map (fun i => prs.getD i default) = prs := by
     apply List.ext_getElem?
     intro i
     rw [List.getElem?_map]
     by_cases hi : i < ops.size
     ·rw [List.getElem?_range hi, Option.map_some, List.getD_eq_getElem?_getD, List.getElem?_eq_getElem (by omega)]; rfl
     ·rw [List.getElem?_eq_none (by simp; omega), List.getElem?_eq_none (by omega)]; rfl
    rw [this]; exact g2
 | seq x y ihx ihy =>
  intro bid σ K c a w Q hc h hs hK
  simp only [codeOK, Bool.and_eq_true] at hc
  simp only [exec] at hs
  refine wp_seq (ihx bid σ _ c a w _ hc.1 h hs fun ex σ' c' a' w' h' hk => ?_)
  cases ex with
  | normal => exact ihy bid σ' K c' a' w' Q hc.2 h' hk hK
  | exit i => exact hK (.exit i) _ _ _ _ h' hk
  | ret => exact hK .ret _ _ _ _ h' hk
 | cond x y z ihy ihz =>
  intro bid σ K c a w Q hc h hs hK
  simp only [codeOK, Bool.and_eq_true] at hc
  simp only [exec] at hs
  split at hs
  rotate_left
  ·cases hs
  rename_i b hb
  have hr := h.getO x
  rw [hb] at hr
  have hv : a.eval x = .bool b := by generalize a.eval x = v at hr; cases hr.to_F tab.tid rfl; rfl
  cases b
  ·exact wp_cond_false hv (ihz bid σ K c a w Q hc.2 h hs hK)
  ·exact wp_cond_true hv (ihy bid σ K c a w Q hc.1 h hs hK)
 | block id x ih =>
  intro bid σ K c a w Q hc h hs hK
  simp only [codeOK] at hc
  simp only [exec] at hs
  refine wp_block (ih id σ _ c a w _ hc h hs fun ex σ' c' a' w' h' hk => ?_)
  cases ex with
  | normal => exact hK .normal _ _ _ _ h' hk
  | exit i =>
   simp only [exOf, Exit.inBlock]
   dsimp only at hk
   split at hk
   ·rename_i hb
    rw [if_pos (Nat.eq_of_beq_eq_true hb)]
    exact hK .normal _ _ _ _ h' hk
   ·rename_i hb
    rw [if_neg (fun e => by subst e; simp at hb)]
    exact hK (.exit i) _ _ _ _ h' hk
  | ret => exact hK .ret _ _ _ _ h' hk
 | loop x ih =>
  intro bid σ K c a w Q hc h hs hK
  simp only [codeOK] at hc
  simp only [exec] at hs
  obtain ⟨c', h'⟩ := h.mask (τ := τ) (masks bid)
  refine wp_loop_n (fun n a w => ∃ σ c, Rel tab.tid B N c σ a w ∧ loopN ((masks bid).apply τ) (fun σ' K' => exec tab call τ masks lim x bid σ' K') K n σ = some r) (fun a w ⟨σ, c, _, hl⟩ => by simp [loopN] at hl) (fun n a w ⟨σ, c, hr, hl⟩ => ?_) lim ⟨_, c', h', hs⟩
  simp only [loopN] at hl
  refine ih bid σ _ c a w _ hc hr hl fun ex σ' c' a' w' h' hk => ?_
  cases ex with
  | normal =>
   obtain ⟨c'', h''⟩ := h'.mask (τ := τ) (masks bid)
   exact ⟨_, c'', h'', hk⟩
  | exit i => exact hK (.exit i) _ _ _ _ h' hk
  | ret => exact hK .ret _ _ _ _ h' hk
 | exit id => intro bid σ K c a w Q hc h hs hK; exact wp_exit (hK (.exit id) _ _ _ _ h hs)
 | scope x ih =>
  intro bid σ K c a w Q hc h hs hK
  simp only [codeOK] at hc
  simp only [exec] at hs
  refine wp_scope_straight (ih bid σ K c a w _ hc h hs fun ex σ' c' a' w' h' hk => ?_)
  have := hK ex σ' c' a' w' h' hk
  cases ex <;> exact this
 | label l => intro bid σ K c a w Q hc h hs hK; exact wp_label (hK .normal _ _ _ _ h hs)
 | ret => intro bid σ K c a w Q hc h hs hK; exact wp_ret (hK .ret _ _ _ _ h hs)
 | _ => intro bid σ K c a w Q hc h hs hK; simp [exec] at hs
theorem resAV_ok (hTab : TabOK P tab) (h : Rel tab.tid B N c σ a w) {x : ResultVar} {y : AV} (hr : resAV tab σ x = some y) :
  ∃ v, (match x with | .tmp t => pure (a.tmps.getD t Go.undef) | .cell q t => do loadVar t (← asAddr (a.tmps.getD q Go.undef)) : Sem Value).run P w = .ok v w ∧ AR tab.tid c σ y v := by
 cases x with
 | tmp t =>
  simp only [resAV, Option.some.injEq] at hr
  subst hr
  exact ⟨_, rfl, h.t t⟩
 | cell q T =>
  simp only [resAV] at hr
  split at hr
  rotate_left
  ·cases hr
  rename_i ty hT
  obtain ⟨ad, v, r1, r2, r3⟩ := load_ok (hTab.ty T ty hT) h (h.t q) hr
  exact ⟨v, by simp only [r1, asAddr, Sem.run_bind, Sem.run_pure, Result.andThen_ok, r2], r3⟩
theorem resAll_ok (hTab : TabOK P tab) (h : Rel tab.tid B N c σ a w) : ∀ {xs : List ResultVar} {l : List AV}, resAll tab σ xs = some l →
  ∃ vs, (xs.mapM fun x => (match x with | .tmp t => pure (a.tmps.getD t Go.undef) | .cell q t => do loadVar t (← asAddr (a.tmps.getD q Go.undef)) : Sem Value)).run P w = .ok vs w ∧ l.length = vs.length ∧ ∀ i, i < l.length → AR tab.tid c σ (l.getD i .undef) (vs.getD i Go.undef)
 | [], l, hr => by
  simp only [resAll, Option.some.injEq] at hr
  subst hr
  exact ⟨[], by simp, rfl, fun i hi => by simp at hi⟩
 | x :: xs, l, hr => by
  simp only [resAll] at hr
  split at hr
  rotate_left
  ·cases hr
  rename_i y l' h1 h2
  simp only [Option.some.injEq] at hr
  subst hr
  obtain ⟨v, g1, g2⟩ := resAV_ok hTab h h1
  obtain ⟨vs, g3, g4, g5⟩ := resAll_ok hTab h h2
  refine ⟨v :: vs, ?_, by simp [g4], fun i hi => ?_⟩
  ·rw [List.mapM_cons]
   simp only [Sem.run_bind, g1, Result.andThen_ok, g3, Sem.run_pure]
  ·cases i with
   | zero => simpa using g2
   | succ i => simpa using g5 i (by simpa using hi)
theorem outs_ok (h : Rel tab.tid B N c σ a w) {l : List AV} {vs : List Value} {y : AV} (hl : l.length = vs.length) (hA : ∀ i, i < l.length → AR tab.tid c σ (l.getD i .undef) (vs.getD i Go.undef)) (ho : outs σ l = some (y, σ')) :
  ∃ c', Rel tab.tid B N c' σ' a w ∧ ∀ κ', (∀ k b, κ' k = some b → ∃ k', k' ∉ σ'.fr ∧ c'.κ k' = some b) → RetV w c'.S c'.g κ' B.w0.heap.size y (if h : vs.toArray.size = 1 then vs.toArray[0] else .tuple vs.toArray) := by
 have one : ∀ {x : AV} {v : Value} {y : AV}, AR tab.tid c σ x v → freeze σ x = some (y, σ') → ∃ c', Rel tab.tid B N c' σ' a w ∧ ∀ κ', (∀ k b, κ' k = some b → ∃ k', k' ∉ σ'.fr ∧ c'.κ k' = some b) → RetV w c'.S c'.g κ' B.w0.heap.size y v := by
  intro x v y hx hf
  obtain ⟨c1, s1, R1, F1⟩ := freeze_ok h hx hf
  refine ⟨c1, R1, fun κ' _ => ?_⟩
  rw [R1.hw] at F1
  cases y with
  | new l => cases F1
  | _ => exact F1
 have many : ∀ {l' : List AV}, freezeAll l σ = some (l', σ') → ∃ c', Rel tab.tid B N c' σ' a w ∧ ∀ κ', (∀ k b, κ' k = some b → ∃ k', k' ∉ σ'.fr ∧ c'.κ k' = some b) → RetV w c'.S c'.g κ' B.w0.heap.size (.tup l') (.tuple vs.toArray) := by
  intro l' hf
  obtain ⟨c1, s1, R1, C1⟩ := freezeAll_ok h hl hA hf
  refine ⟨c1, R1, fun κ' _ => ?_⟩
  rw [R1.hw] at C1
  exact FRel.tup l' vs C1.1 C1.2
 unfold outs at ho
 split at ho
 ·simp only [Option.some.injEq, Prod.mk.injEq] at ho
  obtain ⟨rfl, rfl⟩ := ho
  exact ⟨c, h, fun κ' _ => FRel.undef _⟩
 ·rename_i k
  split at ho
  rotate_left
  ·cases ho
  rename_i l' τ1 hf
  simp only [Option.some.injEq, Prod.mk.injEq] at ho
  obtain ⟨rfl, rfl⟩ := ho
  obtain ⟨v, rfl⟩ : ∃ v, vs = [v] := by
   cases vs with
   | nil => simp at hl
   | cons v vs => cases vs with
    | nil => exact ⟨v, rfl⟩
    | cons _ _ => simp at hl
  have hv : AR tab.tid c σ (.lbox k 0) v := by simpa using hA 0 (by simp)
  obtain ⟨rfl, hk⟩ := hv.to_A1 tab.tid (by intro l h; cases h)
  obtain ⟨us, T, r1, r2, r3⟩ := h.b k hk
  obtain ⟨c1, s1, R1, C1⟩ := freezeAll_ok h r2 (fun i hi => AR.of_A1' (r3 i hi)) hf
  have hk1 := s1.box k hk
  have hw1 := R1.hw
  have hw := h.hw
  have hb := R1.box k hk1.1
  rw [hk1.2] at hb
  rw [hw1] at C1
  rw [hw] at r1
  refine ⟨c1, R1, fun κ' hκ' => ⟨c.β k, us, T, rfl, r1, C1, hb.1, hb.2.1, fun k' hk' => ?_⟩⟩
  obtain ⟨k2, q1, q2⟩ := hκ' k' _ hk'
  exact (R1.own k2 _ q1 q2).2.2.2.2 k hk1.1 hk1.2.symm
 ·rename_i x hno
  obtain ⟨v, rfl⟩ : ∃ v, vs = [v] := by
   cases vs with
   | nil => simp at hl
   | cons v vs => cases vs with
    | nil => exact ⟨v, rfl⟩
    | cons _ _ => simp at hl
  exact one (by simpa using hA 0 (by simp)) ho
 ·rename_i hn0 hnb hn1
  have hn1 : ∀ x, l ≠ [x] := hn1
  split at ho
  rotate_left
  ·cases ho
  rename_i l' τ1 hf
  simp only [Option.some.injEq, Prod.mk.injEq] at ho
  obtain ⟨rfl, rfl⟩ := ho
  have hne : ¬ vs.toArray.size = 1 := by
   intro e
   rw [List.size_toArray] at e
   rw [← hl] at e
   obtain ⟨x, hx⟩ := List.length_eq_one_iff.1 e
   exact hn1 x hx
  rw [dif_neg hne]
  exact many hf
end
end Go.AI
namespace Go.AI
theorem opFine_mono {N M : Nat} (h : N ≤ M) {o : Oper} (hf : opFine N o = true) : opFine M o = true := by
 simp only [opFine, Bool.and_eq_true] at hf ⊢
 refine ⟨?_, hf.2⟩
 cases hd : o.dst with
 | none => rfl
 | some d =>
  rw [hd] at hf
  have := Nat.le_of_ble_eq_true hf.1
  exact Nat.ble_eq_true_of_le (by omega)
theorem regOK_mono {N M : Nat} (h : N ≤ M) : ∀ {l : List Oper} {i : Nat}, regOK N l i = true → regOK M l i = true
 | [], _, _ => rfl
 | o :: r, i, hr => by
  simp only [regOK, Bool.and_eq_true] at hr ⊢
  exact ⟨⟨opFine_mono h hr.1.1, hr.1.2⟩, regOK_mono h hr.2⟩
theorem codeOK_mono {N M : Nat} (h : N ≤ M) (c : Code) : codeOK N c = true → codeOK M c = true := by
 induction c with
 | region id ops draw => exact regOK_mono h
 | seq a b iha ihb => simp only [codeOK, Bool.and_eq_true]; exact fun hc => ⟨iha hc.1, ihb hc.2⟩
 | cond x a b iha ihb => simp only [codeOK, Bool.and_eq_true]; exact fun hc => ⟨iha hc.1, ihb hc.2⟩
 | block id a ih => exact ih
 | loop a ih => exact ih
 | scope a ih => exact ih
 | _ => exact fun _ => rfl
structure FnOK (P : Program) (f : Nat) (fi : FnI) : Prop where
 fn : P.funcs[f]? = some fi.fn
 name : (fi.fn.name == "runtime.NumGoroutine") = false
 body : ∃ co, fi.fn.body = some co
 code : codeOK fi.fn.ntmps fi.fn.code = true
theorem FnOK.goes {P : Program} {f : Nat} {fi : FnI} (h : FnOK P f fi) : Goes P f := by
 obtain ⟨co, hb⟩ := h.body
 exact ⟨fi.fn, h.fn, h.name, by rw [hb]; rfl⟩
section
variable {tab : Tab} {call : (τ : STy) → Nat → List AV → τ.T → Option (AV × τ.T)} {τ : STy} {P : Program}
theorem getT_start : ∀ (args : List AV) (i k : Nat), getT ((args.zipIdx i).map fun (a, i) => (i, a)) (i + k) = args.getD k .undef
 | [], i, k => rfl
 | x :: l, i, k => by
  simp only [List.zipIdx_cons, List.map_cons]
  rw [getT_cons]
  cases k with
  | zero => simp
  | succ k =>
   rw [if_neg (by omega)]
   have := getT_start l (i + 1) k
   rw [show i + (k + 1) = i + 1 + k by omega, this, List.getD_cons_succ]
theorem start_ok {tid : El → Nat} {w : World} {S : Nat → Nat → Prop} {g : Nat} {κ : Nat → Option Nat} {args : List AV} {vs : List Value} {p : τ.T} {n : Nat} (hs : SRep tid τ w S g κ p) (hC : CR w S g args vs) :
  Rel tid ⟨w, Foot τ g κ, S, g⟩ (vs.toArray ++ Array.replicate (n - vs.toArray.size) Go.undef).size ⟨w, S, g, κ, fun _ => 0⟩ (start args (τ.enc 0 p)) { tmps := vs.toArray ++ Array.replicate (n - vs.toArray.size) Go.undef, defers := [] } w := by
 have hb : ∀ k, getB (start args (τ.enc 0 p)).b k = [] := fun _ => rfl
 refine { hw := rfl, ds := ⟨rfl, rfl⟩, n := rfl, t := fun i => ?_, b := fun k hk => absurd (hb k) hk, s := fun hne => ?_, ver := fun k => Nat.le_refl _, fz := fun k b hk => (by simp [start] at hk), own := fun k b _ hk => ?_, inj := fun k k' b _ _ h1 h2 => hs.inj k k' b h1 h2, box := fun k hk => absurd (hb k) hk, gg := fun hne => ⟨.inl (.inl ⟨(enc_ne τ 0 p).1 hne, rfl⟩), hs.gs hne⟩, old := fun b o h => .inl h, grow := fun b o h => h, stsz := hs.st, keep := Keep.refl w _ }
 ·have ht : getT (start args (τ.enc 0 p)).t i = args.getD i .undef := by
   have := getT_start args 0 i
   rw [Nat.zero_add] at this
   exact this
  rw [ht]
  by_cases hi : i < args.length
  ·have : (vs.toArray ++ Array.replicate (n - vs.toArray.size) Go.undef).getD i Go.undef = vs.getD i Go.undef := by
    have hv : i < vs.length := by rw [← hC.1]; exact hi
    rw [Array.getD_eq_getD_getElem?, Array.getElem?_append_left (by simpa using hv), List.getD_eq_getElem?_getD]
    simp
   show AR tid _ _ _ ((vs.toArray ++ Array.replicate (n - vs.toArray.size) Go.undef).getD i Go.undef)
   rw [this]
   exact AR.of_F tid (hC.2 i hi)
  ·rw [getD_ge (by omega)]
   exact FRel.undef _
 ·obtain ⟨us, T, h1, h2, h3⟩ := hs.row hne
  exact ⟨us, T, h1, h2, fun i hi => (h3 i hi).step (.same rfl rfl rfl)⟩
 ·obtain ⟨h1, h2, h3, h4⟩ := hs.own k b hk
  exact ⟨.inl (.inr ⟨k, hk⟩), h2, h3, fun _ => h4, fun j hj => absurd (hb j) hj⟩
theorem evalBody_ok (hTab : TabOK P tab) (hcall : CallsOK tab.tid P call) (hmix : P.follows .mixedOrders = true) {f : Nat} {fi : FnI} (hf : FnOK P f fi) {lim : Nat} {args : List AV} {p : τ.T} {r : AV × τ.T} (he : evalBody tab call τ lim fi args p = some r)
  {w : World} {S : Nat → Nat → Prop} {g : Nat} {κ : Nat → Option Nat} {vs : List Value} (hs : SRep tab.tid τ w S g κ p) (hC : CR w S g args vs) : Calls P f vs.toArray w (RetOK tab.tid τ w S g κ r) := by
 obtain ⟨co, hb⟩ := hf.body
 have hco : fi.fn.code = co := by unfold Func.code; rw [hb]
 unfold evalBody at he
 rw [hco] at he
 refine calls_of_wp hf.fn hb ?_
 have h0 := start_ok (n := fi.fn.ntmps) hs hC
 refine exec_ok hTab hcall hmix fi.mask lim co 0 _ _ _ _ _ _ (codeOK_mono (N := fi.fn.ntmps) (by simp; omega) co (by rw [← hco]; exact hf.code)) h0 he ?_
 intro ex σ c a w' h hfin
 have main : ∀ {l : List AV} {y : AV} {σ' : St} {q : τ.T}, resAll tab σ fi.fn.results.toList = some l → outs σ l = some (y, σ') → τ.dec σ'.v σ'.fr σ'.s = some q → r = (y, q) →
   a.defers = [] ∧ ∃ v, (results fi.fn a.tmps).run P w' = .ok v w' ∧ RetOK tab.tid τ w S g κ r (.returned v) w' := by
  intro l y σ' q h1 h2 h3 hr
  subst hr
  obtain ⟨us, g1, g2, g3⟩ := resAll_ok hTab h h1
  obtain ⟨c', R, hv⟩ := outs_ok h g2 g3 h2
  have hw := R.hw
  have hg : c'.g = g := R.ds.2
  refine ⟨h.ds.1, (if h : us.toArray.size = 1 then us.toArray[0] else .tuple us.toArray), ?_, ?_⟩
  ·unfold results
   rw [Array.mapM_eq_mapM_toList]
   simp only [Sem.run_bind, Sem.run_map, Sem.run_pure]
   exact congrArg (fun q : Result (List Value) => (q.andThen fun a w' => Result.ok a.toArray w').andThen fun a w' => Result.ok (if h : a.size = 1 then a[0] else Value.tuple a) w') g1
  ·have hold : ∀ b o, c'.S b o → S b o ∨ Foot τ g κ b ∨ w.heap.size ≤ b := fun b o hs' => R.old b o hs'
   by_cases hsn : σ'.s = []
   ·have hτ : τ = .unit := (dec_unit h3).1 hsn
    refine ⟨c'.S, fun _ => none, ⟨fun hne => absurd hτ ((enc_ne τ 0 q).1 hne), R.stsz, fun hne => absurd hτ ((enc_ne τ 0 q).1 hne), fun k b hk => (by cases hk), fun k k' b hk => (by cases hk)⟩, R.keep, R.grow, hold, fun k b hk => (by cases hk), ?_⟩
    have := hv (fun _ => none) (fun k b hk => by cases hk)
    rw [hg] at this
    exact this
   ·obtain ⟨vs', T, r1, r2, r3⟩ := R.s hsn
    obtain ⟨κ0, k1, k2, k3, k4, _⟩ := decRow (gb := c'.g) R.inj r2 r3 h3
    obtain ⟨hm, hgS⟩ := R.gg hsn
    rw [hw, hg] at r1
    rw [hw, hg] at k2
    rw [hg] at hgS
    refine ⟨c'.S, κ0, ⟨fun _ => ⟨vs', T, r1, k1, k2⟩, R.stsz, fun _ => hgS, fun k b hk => ?_, k4⟩, R.keep, R.grow, hold, fun k b hk => ?_, ?_⟩
    ·obtain ⟨q1, k', q2, q3, q4⟩ := k3 k b hk
     have o := R.own k' b q3 q4
     exact ⟨q1, o.2.1, o.2.2.1, by rw [← hg]; exact o.2.2.2.1 hsn⟩
    ·obtain ⟨q1, k', q2, q3, q4⟩ := k3 k b hk
     exact (R.own k' b q3 q4).1
    ·have := hv κ0 (fun k b hk => by
      obtain ⟨q1, k', q2, q3, q4⟩ := k3 k b hk
      exact ⟨k', q3, q4⟩)
     rw [hg] at this
     exact this
 have split : (match resAll tab σ fi.fn.results.toList with
   | some l => match outs σ l with | some (a, σ') => (match τ.dec σ'.v σ'.fr σ'.s with | some p => some (a, p) | none => none) | none => none
   | none => none) = some r → a.defers = [] ∧ ∃ v, (results fi.fn a.tmps).run P w' = .ok v w' ∧ RetOK tab.tid τ w S g κ r (.returned v) w' := by
  intro hq
  split at hq
  rotate_left
  ·cases hq
  rename_i l h1
  split at hq
  rotate_left
  ·cases hq
  rename_i y σ' h2
  split at hq
  rotate_left
  ·cases hq
  rename_i q h3
  simp only [Option.some.injEq] at hq
  exact main h1 h2 h3 hq.symm
 cases ex with
 | exit i => simp [fin] at hfin
 | normal => exact split hfin
 | ret => exact split hfin
def OvrOK (tid : El → Nat) (P : Program) (ovr : Nat → Option Ovr) : Prop :=
 ∀ f g, ovr f = some g → ∀ call lim, CallsOK tid P call → ∀ τ args p r, g call lim τ args p = some r → Goes P f ∧ ∀ w S gb κ vs, SRep tid τ w S gb κ p → CR w S gb args vs → Calls P f vs.toArray w (RetOK tid τ w S gb κ r)
theorem evalF_ok (hTab : TabOK P tab) (hmix : P.follows .mixedOrders = true) {fns : List (Nat × FnI)} (hfn : ∀ f fi, findN fns f = some fi → FnOK P f fi) {ovr : Nat → Option Ovr} (hovr : OvrOK tab.tid P ovr) : ∀ n, CallsOK tab.tid P (evalF tab fns ovr n)
 | 0 => fun τ f args p r h => by simp [evalF] at h
 | n + 1 => by
  intro τ f args p r h
  simp only [evalF] at h
  split at h
  ·rename_i g hg
   exact hovr f g hg _ n (evalF_ok hTab hmix hfn hovr n) τ args p r h
  ·split at h
   ·rename_i fi hfi
    exact ⟨(hfn f fi hfi).goes, fun w S g κ vs hs hC => evalBody_ok hTab (evalF_ok hTab hmix hfn hovr n) hmix (hfn f fi hfi) h hs hC⟩
   ·cases h
end
end Go.AI
namespace Go.AI
abbrev Call1 := (τ : STy) → Nat → List AV → τ.T → Option (AV × τ.T)
def Ev (P : Nat → Prop) : Prop := ∃ N, ∀ n, N ≤ n → P n
theorem Ev.and {P Q : Nat → Prop} (h : Ev P) (k : Ev Q) : Ev fun n => P n ∧ Q n := by
 obtain ⟨N, h⟩ := h; obtain ⟨M, k⟩ := k
 exact ⟨max N M, fun n hn => ⟨h n (by omega), k n (by omega)⟩⟩
theorem Ev.imp {P Q : Nat → Prop} (h : Ev P) (k : ∀ n, P n → Q n) : Ev Q := by
 obtain ⟨N, h⟩ := h
 exact ⟨N, fun n hn => k n (h n hn)⟩
theorem Ev.all {P : Nat → Prop} (h : ∀ n, P n) : Ev P := ⟨0, fun n _ => h n⟩
theorem Ev.const {P : Prop} (h : Ev fun _ => P) : P := by obtain ⟨N, h⟩ := h; exact h N (Nat.le_refl _)
def Tends (cn : Nat → Call1) (c : Call1) : Prop := ∀ τ f args p r, c τ f args p = some r → Ev fun n => cn n τ f args p = some r
section
variable {tab : Tab} {c : Call1} {cn : Nat → Call1} {τ : STy}
theorem shaped_local {h : Sh} {P R : Type} {o : Option (AV × P)} {g : h.T × P → Option R} {r : R} (hs : (shaped h o).bind g = some r) : ∃ q, o = some q := by
 cases o with
 | none => simp [shaped] at hs
 | some q => exact ⟨q, rfl⟩
theorem callK_local {σ σ' : St} {o : Oper} {f : Nat} {fst args cap : List AV} {st : Bool} (hs : callK tab c τ σ o f fst args cap st some = some σ') :
  ∃ τ0 f0 a0 p0 r0, c τ0 f0 a0 p0 = some r0 ∧ ∀ c' : Call1, c' τ0 f0 a0 p0 = some r0 → callK tab c' τ σ o f fst args cap st some = some σ' := by
 unfold callK at hs ⊢
 cases hfz : freezeAll args σ with
 | none =>
  rw [hfz] at hs
  simp only at hs ⊢
  split at hs
  ·rename_i k rest
   split at hs
   ·rename_i rest' σ1 hr
    split at hs
    ·rename_i p hp hd
     obtain ⟨q, hq⟩ := shaped_local hs
     refine ⟨_, _, _, _, q, hq, fun c' hc' => ?_⟩
     rw [hq] at hs
     (try simp only [*]) <;> exact hs
    ·cases hs
   ·cases hs
  ·cases hs
 | some x =>
  obtain ⟨args', σ1⟩ := x
  rw [hfz] at hs
  simp only at hs ⊢
  generalize (if st = true then tab.sty f else τ) = τ1 at hs ⊢
  cases τ1 with
  | unit =>
   simp only at hs ⊢
   obtain ⟨q, hq⟩ := shaped_local hs
   refine ⟨_, _, _, _, q, hq, fun c' hc' => ?_⟩
   rw [hc']; rw [hq] at hs; exact hs
  | _ =>
   try simp only at hs ⊢
   split at hs
   ·rename_i he
    split at hs
    ·rename_i p hp
     obtain ⟨q, hq⟩ := shaped_local hs
     refine ⟨_, _, _, _, q, hq, fun c' hc' => ?_⟩
     rw [if_pos he]
     rw [hq] at hs
     (try simp only [*]) <;> exact hs
    ·cases hs
   ·cases hs
theorem callK_ev (hc : Tends cn c) {σ σ' : St} {o : Oper} {f : Nat} {fst args cap : List AV} {st : Bool} (hs : callK tab c τ σ o f fst args cap st some = some σ') :
  Ev fun n => callK tab (cn n) τ σ o f fst args cap st some = some σ' := by
 obtain ⟨τ0, f0, a0, p0, r0, h1, h2⟩ := callK_local hs
 exact (hc _ _ _ _ _ h1).imp fun n hn => h2 _ hn
theorem stepCall_ev (hc : Tends cn c) {o : Oper} {f : Operand} {args : List Operand} {σ σ' : St} (hs : stepCall tab c τ o f args σ some = some σ') : Ev fun n => stepCall tab (cn n) τ o f args σ some = some σ' := by
 have key : ∀ g : AV, (match g with | .clos f fst cap => callK tab c τ σ o f fst (args.map (getO σ.t)) cap false some | _ => none) = some σ' →
   Ev fun n => (match g with | .clos f fst cap => callK tab (cn n) τ σ o f fst (args.map (getO σ.t)) cap false some | _ => none) = some σ' := by
  intro g hg
  cases g with
  | clos f fst cap => exact callK_ev hc hg
  | _ => cases hg
 cases f with
 | func f => exact callK_ev hc hs
 | tmp i => exact key _ hs
 | const i => exact key _ hs
 | global i => exact key .undef hs
theorem stepOp_ev (hc : Tends cn c) {o : Oper} {σ σ' : St} (hs : stepOp tab c τ o σ some = some σ') : Ev fun n => stepOp tab (cn n) τ o σ some = some σ' := by
 obtain ⟨dst, op, type, pos, after, guard⟩ := o
 cases op with
 | call cl =>
  simp only [stepOp] at hs ⊢
  cases hcl : cl.callee with
  | builtin b => rw [hcl] at hs; exact Ev.all fun _ => hs
  | value f => rw [hcl] at hs; exact stepCall_ev hc hs
  | invoke => rw [hcl] at hs; cases hs
 | unOp uo T x => cases uo <;> exact Ev.all fun _ => hs
 | makeFunc fn fst cap => cases fn <;> exact Ev.all fun _ => hs
 | slice T x lo hi mx => cases mx <;> exact Ev.all fun _ => hs
 | _ => exact Ev.all fun _ => hs
variable {R : Type}
def KT (kn : Nat → Ex → St → Option R) (k : Ex → St → Option R) : Prop := ∀ ex σ r, k ex σ = some r → Ev fun n => kn n ex σ = some r
theorem stepOp_evK (hc : Tends cn c) {o : Oper} {σ : St} {K : St → Option R} {Kn : Nat → St → Option R} {r : R} (hK : ∀ σ', K σ' = some r → Ev fun n => Kn n σ' = some r) (hs : stepOp tab c τ o σ K = some r) :
  Ev fun n => stepOp tab (cn n) τ o σ (Kn n) = some r := by
 rw [stepOp_bind] at hs
 obtain ⟨σ', h1, h2⟩ := Option.bind_eq_some_iff.1 hs
 refine ((stepOp_ev hc h1).and (hK _ h2)).imp fun n hn => ?_
 rw [stepOp_bind, hn.1]; exact hn.2
theorem runOps_ev (hc : Tends cn c) {all : List Oper} {K : St → Option R} {Kn : Nat → St → Option R} {r : R} (hK : ∀ σ', K σ' = some r → Ev fun n => Kn n σ' = some r) : ∀ (l : List Oper) (σ : St), runOps tab c τ all l σ K = some r →
  Ev fun n => runOps tab (cn n) τ all l σ (Kn n) = some r
 | [], σ, hs => hK σ hs
 | o :: rest, σ, hs => by
  have ih := runOps_ev hc (all := all) hK rest
  unfold runOps at hs ⊢
  split at hs
  ·exact stepOp_evK hc (fun σ' h' => ih σ' h') hs
  ·rename_i j w hg
   try simp only at hs ⊢
   split at hs
   ·rename_i d hd
    split at hs
    ·rename_i x hx
     split at hs
     ·split at hs
      ·(try simp only [*, if_true]) <;> exact stepOp_evK hc (fun σ' h' => ih σ' h') hs
      ·(try simp only [*, if_true]) <;> exact ih _ hs
     ·split at hs
      ·(try simp only [*, if_false]) <;> exact stepOp_evK hc (fun σ' h' => ih σ' h') hs
      ·(try simp only [*, if_false]) <;> exact ih _ hs
    ·(try simp only [*]) <;> exact ih _ hs
    ·cases hs
   ·cases hs
theorem runD_ev (hc : Tends cn c) {all : List Oper} {masks : List Nat} {K : St → Option R} {Kn : Nat → St → Option R} {r : R} (hK : ∀ σ', K σ' = some r → Ev fun n => Kn n σ' = some r) : ∀ (l : List Oper) (acc : List (Oper × Acc)) (σ : St), runD tab c τ all masks l acc σ K = some r →
  Ev fun n => runD tab (cn n) τ all masks l acc σ (Kn n) = some r
 | [], acc, σ, hs => hK σ hs
 | o :: rest, acc, σ, hs => by
  have ih := runD_ev hc (all := all) (masks := masks) hK rest
  unfold runD at hs ⊢
  split at hs
  ·split at hs
   ·(try simp only [*]) <;> exact stepOp_evK hc (fun σ' h' => ih _ σ' h') hs
   ·cases hs
  ·rename_i j w hg
   try simp only at hs ⊢
   split at hs
   ·rename_i d hd
    split at hs
    ·rename_i x hx
     split at hs
     ·split at hs
      ·split at hs
       ·(try simp only [*, if_true]) <;> exact stepOp_evK hc (fun σ' h' => ih _ σ' h') hs
       ·cases hs
      ·split at hs
       ·(try simp only [*, if_true]) <;> exact ih _ _ hs
       ·cases hs
     ·split at hs
      ·split at hs
       ·(try simp only [*, if_false]) <;> exact stepOp_evK hc (fun σ' h' => ih _ σ' h') hs
       ·cases hs
      ·split at hs
       ·(try simp only [*, if_false]) <;> exact ih _ _ hs
       ·cases hs
    ·split at hs
     ·(try simp only [*]) <;> exact ih _ _ hs
     ·cases hs
    ·cases hs
   ·cases hs
theorem loopN_ev {m : St → St} {body : St → (Ex → St → Option R) → Option R} {bn : Nat → St → (Ex → St → Option R) → Option R} {K : Ex → St → Option R} {Kn : Nat → Ex → St → Option R} (hK : KT Kn K)
  (hb : ∀ σ k kn r, KT kn k → body σ k = some r → Ev fun n => bn n σ (kn n) = some r) : ∀ (L : Nat) (ls : Nat → Nat) (σ : St) (r : R), (Ev fun n => L ≤ ls n) → loopN m body K L σ = some r → Ev fun n => loopN m (bn n) (Kn n) (ls n) σ = some r
 | 0, ls, σ, r, _, hs => by simp [loopN] at hs
 | L + 1, ls, σ, r, hl, hs => by
  have := hb σ _ (fun n ex σ' => match ex with | .normal => loopN m (bn n) (Kn n) (ls n - 1) (m σ') | e => Kn n e σ') r (by
   intro ex σ' r' hr
   cases ex with
   | normal => exact loopN_ev hK hb L (fun n => ls n - 1) (m σ') r' (hl.imp fun n hn => by omega) hr
   | exit i => exact hK _ _ _ hr
   | ret => exact hK _ _ _ hr) hs
  refine (this.and hl).imp fun n hn => ?_
  obtain ⟨k, hk⟩ : ∃ k, ls n = k + 1 := ⟨ls n - 1, by omega⟩
  have h1 := hn.1
  rw [hk] at h1 ⊢
  exact h1
theorem exec_ev (hc : Tends cn c) {masks : Nat → Mask} {lim : Nat} {lims : Nat → Nat} (hl : Ev fun n => lim ≤ lims n) : ∀ (co : Code) (bid : Nat) (σ : St) (K : Ex → St → Option R) (Kn : Nat → Ex → St → Option R) (r : R), KT Kn K →
  exec tab c τ masks lim co bid σ K = some r → Ev fun n => exec tab (cn n) τ masks (lims n) co bid σ (Kn n) = some r := by
 intro co
 induction co with
 | region id ops draw =>
  intro bid σ K Kn r hK hs
  unfold exec at hs ⊢
  split at hs
  ·exact runOps_ev hc (fun σ' h' => hK _ _ _ h') _ _ hs
  ·exact runD_ev hc (fun σ' h' => hK _ _ _ h') _ _ _ hs
 | seq a b iha ihb =>
  intro bid σ K Kn r hK hs
  unfold exec at hs ⊢
  refine iha bid σ _ _ r ?_ hs
  intro ex σ' r' hr
  cases ex with
  | normal => exact ihb bid σ' _ _ r' hK hr
  | exit i => exact hK _ _ _ hr
  | ret => exact hK _ _ _ hr
 | cond x a b iha ihb =>
  intro bid σ K Kn r hK hs
  unfold exec at hs ⊢
  split at hs
  ·split at hs
   ·(try simp only [*, if_true]) <;> exact iha bid σ _ _ r hK hs
   ·(try simp only [*, if_false]) <;> exact ihb bid σ _ _ r hK hs
  ·cases hs
 | block id a ih =>
  intro bid σ K Kn r hK hs
  unfold exec at hs ⊢
  refine ih id σ _ _ r ?_ hs
  intro ex σ' r' hr
  cases ex with
  | normal => exact hK _ _ _ hr
  | exit i =>
   simp only at hr ⊢
   split at hr <;> exact hK _ _ _ hr
  | ret => exact hK _ _ _ hr
 | loop a ih =>
  intro bid σ K Kn r hK hs
  unfold exec at hs ⊢
  exact loopN_ev hK (fun σ' k kn r' hk hr => ih bid σ' k kn r' hk hr) lim lims _ r hl hs
 | scope a ih =>
  intro bid σ K Kn r hK hs
  unfold exec at hs ⊢
  exact ih bid σ _ _ r hK hs
 | skip => intro bid σ K Kn r hK hs; exact hK _ _ _ hs
 | exit id => intro bid σ K Kn r hK hs; exact hK _ _ _ hs
 | label id => intro bid σ K Kn r hK hs; exact hK _ _ _ hs
 | ret => intro bid σ K Kn r hK hs; exact hK _ _ _ hs
 | _ => intro bid σ K Kn r hK hs; unfold exec at hs; cases hs
theorem evalBody_ev (hc : Tends cn c) {lim : Nat} {lims : Nat → Nat} (hl : Ev fun n => lim ≤ lims n) {fi : FnI} {args : List AV} {p : τ.T} {r : AV × τ.T} (hs : evalBody tab c τ lim fi args p = some r) : Ev fun n => evalBody tab (cn n) τ (lims n) fi args p = some r :=
 exec_ev hc hl _ _ _ _ _ _ (fun ex σ r h => Ev.all fun _ => h) hs
end
abbrev EF (tab : Tab) (fns : List (Nat × FnI)) (n : Nat) : Call1 := evalF tab fns (fun _ => none) n
theorem EF_succ (tab : Tab) (fns : List (Nat × FnI)) (n : Nat) (τ : STy) (f : Nat) (args : List AV) (p : τ.T) {fi : FnI} (hf : findN fns f = some fi) : EF tab fns (n + 1) τ f args p = evalBody tab (EF tab fns n) τ n fi args p := by
 show evalF _ _ _ _ _ _ _ _ = _
 simp only [evalF, hf]
theorem EF_mono1 (tab : Tab) (fns : List (Nat × FnI)) : ∀ n τ f args p r, EF tab fns n τ f args p = some r → EF tab fns (n + 1) τ f args p = some r
 | 0, τ, f, args, p, r, h => by simp [EF, evalF] at h
 | n + 1, τ, f, args, p, r, h => by
  cases hf : findN fns f with
  | none => simp only [EF, evalF, hf] at h; cases h
  | some fi =>
   rw [EF_succ _ _ _ _ _ _ _ hf] at h ⊢
   exact Ev.const (evalBody_ev (cn := fun _ => EF tab fns (n + 1)) (lims := fun _ => n + 1) (fun τ f a p r hr => Ev.all fun _ => EF_mono1 tab fns n τ f a p r hr) (Ev.all fun _ => Nat.le_succ n) h)
theorem EF_mono (tab : Tab) (fns : List (Nat × FnI)) {n m : Nat} (hnm : n ≤ m) {τ : STy} {f : Nat} {args : List AV} {p : τ.T} {r : AV × τ.T} (h : EF tab fns n τ f args p = some r) : EF tab fns m τ f args p = some r := by
 induction hnm with
 | refl => exact h
 | step _ ih => exact EF_mono1 tab fns _ _ _ _ _ _ ih
open Classical in
noncomputable def Wc (tab : Tab) (fns : List (Nat × FnI)) : Call1 := fun τ f args p =>
 if h : ∃ r, ∃ n, EF tab fns n τ f args p = some r then some h.choose else none
theorem Wc_iff {tab : Tab} {fns : List (Nat × FnI)} {τ : STy} {f : Nat} {args : List AV} {p : τ.T} {r : AV × τ.T} : Wc tab fns τ f args p = some r ↔ ∃ n, EF tab fns n τ f args p = some r := by
 constructor
 ·intro h
  unfold Wc at h
  split at h
  ·rename_i hx
   simp only [Option.some.injEq] at h
   subst h
   exact hx.choose_spec
  ·cases h
 ·intro h
  unfold Wc
  have hx : ∃ r, ∃ n, EF tab fns n τ f args p = some r := ⟨r, h⟩
  rw [dif_pos hx]
  obtain ⟨n, hn⟩ := h
  obtain ⟨m, hm⟩ := hx.choose_spec
  have h1 := EF_mono tab fns (Nat.le_max_left n m) hn
  have h2 := EF_mono tab fns (Nat.le_max_right n m) hm
  rw [h1] at h2
  exact h2.symm
theorem Wc_tends (tab : Tab) (fns : List (Nat × FnI)) : Tends (EF tab fns) (Wc tab fns) := by
 intro τ f args p r h
 obtain ⟨n, hn⟩ := Wc_iff.1 h
 exact ⟨n, fun m hm => EF_mono tab fns hm hn⟩
theorem Wc_fix {tab : Tab} {fns : List (Nat × FnI)} {τ : STy} {f : Nat} {fi : FnI} (hf : findN fns f = some fi) {args : List AV} {p : τ.T} {r : AV × τ.T} (lim : Nat) (h : evalBody tab (Wc tab fns) τ lim fi args p = some r) : Wc tab fns τ f args p = some r := by
 obtain ⟨N, hN⟩ := evalBody_ev (Wc_tends tab fns) (lims := fun n => n) ⟨lim, fun n hn => hn⟩ h
 exact Wc_iff.2 ⟨N + 1, by rw [EF_succ _ _ _ _ _ _ _ hf]; exact hN N (Nat.le_refl _)⟩
theorem Wc_ok {P : Program} {tab : Tab} (hTab : TabOK P tab) (hmix : P.follows .mixedOrders = true) {fns : List (Nat × FnI)} (hfn : ∀ f fi, findN fns f = some fi → FnOK P f fi) : CallsOK tab.tid P (Wc tab fns) := by
 intro τ f args p r h
 obtain ⟨n, hn⟩ := Wc_iff.1 h
 exact evalF_ok hTab hmix hfn (ovr := fun _ => none) (fun f g h => by cases h) n τ f args p r hn
end Go.AI
