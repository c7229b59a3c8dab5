/- DERIVED. THE EVALUATOR, THE READER, THE SCANNER: lemmas for Lossless. -/
import Derived.Test.YtoppjmglhddleaaBa
import Derived.Laws.Append
import Derived.Laws.Sem
import Derived.RegionTactic
import Derived.Great.BuildSlice
set_option linter.unusedVariables false
set_option linter.unusedSimpArgs false
namespace Go.AI
def descAgg : TypeDesc → Bool
 | .struct _ | .array _ _ => true
 | _ => false
structure TyOK (P : Program) (tid : El → Nat) (T : Nat) (ty : Ty) : Prop where
 info : ∃ i z, P.info? T = some i ∧ i.zero = some z ∧ i.size = ty.zero.length ∧ (∀ w S g, CR w S g ty.zero z.cells.toList) ∧ True
 agg : ∃ d, P.underlying T = some d ∧ descAgg d = ty.agg
 pos : 0 < ty.zero.length
 one : ty.agg = false → ty.zero.length = 1
 pl : ty.offs ≠ [] → ∃ fs, P.underlying T = some (.struct fs) ∧ fs.toList.mapM (fun f => (P.info? f.type).map fun i => (f.offset, i.size)) = some (ty.offs.zip ty.szs) ∧ fs.toList.map (·.type) = ty.ftys ∧ ty.offs.length = ty.szs.length ∧ ∀ m ∈ ty.szs, 0 < m
 el : ∀ e, ty.el = some e → P.underlying T = some (.slice (tid e)) ∧ ∃ i z, P.info? (tid e) = some i ∧ i.zero = some z ∧ i.size = e.sz ∧ z.cells.size = e.sz ∧ 0 < i.bytes ∧ i.bytes ≤ 32768
section
variable (tid : El → Nat)
structure Step (c : Cx) (σ : St) (c' : Cx) (σ' : St) : Prop where
 g : c'.g = c.g
 cells : ∀ b o x, c.S b o → c.w.cell? ⟨b, o, none⟩ = some x → c'.w.cell? ⟨b, o, none⟩ = some x
 S : ∀ b o, c.S b o → c'.S b o
 cc : σ.c ≤ σ'.c
 box : ∀ k, getB σ.b k ≠ [] → getB σ'.b k ≠ [] ∧ c'.β k = c.β k
 key : ∀ k, (getV σ'.v k = getV σ.v k ∧ c'.κ k = c.κ k ∧ ∀ b, c.κ k = some b → c'.w.heap[b]? = c.w.heap[b]?) ∨ σ.c < getV σ'.v k
variable {tid} {c c' : Cx} {σ σ' : St}
theorem FRel.step (h : Step c σ c' σ') {a : AV} {v : Value} (k : FRel c.w c.S c.g a v) : FRel c'.w c'.S c'.g a v := by
 rw [h.g]; exact k.stay h.cells h.S
theorem CR.step (h : Step c σ c' σ') {l : List AV} {vs : List Value} (k : CR c.w c.S c.g l vs) : CR c'.w c'.S c'.g l vs := by
 rw [h.g]; exact k.stay h.cells h.S
theorem CellsAt.same {w w' : World} {b off : Nat} {vs : List Value} (h : CellsAt w b off vs) (hb : w'.heap[b]? = w.heap[b]?) : CellsAt w' b off vs :=
 fun j x hx => (World.cell?_of_block (w := w) (a := ⟨b, off + j, none⟩) hb).trans (h j x hx)
theorem ownsRow_same {w w' : World} {e : TypeId} {size n : Nat} {v : Value} {xs : List Value} (h : w.ownsRow 0 e size v n xs) (hb : ∀ b, v.ownBlock = some b → w'.heap[b]? = w.heap[b]?) : w'.ownsRow 0 e size v n xs := by
 refine ⟨h.1, ?_⟩
 rcases h.2 with h2 | ⟨g, cap, cur, rfl, hg, hh, r⟩
 ·exact .inl h2
 ·exact .inr ⟨g, cap, cur, rfl, hg, by rw [hb g rfl]; exact hh, r⟩
theorem OwnR.step (h : Step c σ c' σ') {k : Nat} {e : El} {l : List e.T} {v : Value} (hk : c'.κ k = c.κ k ∧ ∀ b, c.κ k = some b → c'.w.heap[b]? = c.w.heap[b]?) (r : OwnR tid c k e l v) : OwnR tid c' k e l v := by
 rcases r with r | ⟨b, vs, h1, h2, h3, h4⟩
 ·exact .inl r
 ·exact .inr ⟨b, vs, by rw [hk.1]; exact h1, h2, ownsRow_same h3 (fun b' hb' => by rw [h2] at hb'; cases hb'; exact hk.2 b h1), h4.step h⟩
theorem ViewR.step (h : Step c σ c' σ') {k : Nat} {e : El} {l : List e.T} {v : Value} (hk : c'.κ k = c.κ k ∧ ∀ b, c.κ k = some b → c'.w.heap[b]? = c.w.heap[b]?) (r : ViewR c k e l v) : ViewR c' k e l v := by
 rcases r with r | ⟨b, off, m, vs, h1, h2, h3, h4, h5⟩
 ·exact .inl r
 ·exact .inr ⟨b, off, m, vs, by rw [hk.1]; exact h1, h2, h3, h4.same (hk.2 b h1), h5.step h⟩
theorem PtR.step (h : Step c σ c' σ') {k : Nat} {e : El} {x : e.T} {o : Nat} {v : Value} (hk : c'.κ k = c.κ k ∧ ∀ b, c.κ k = some b → c'.w.heap[b]? = c.w.heap[b]?) (r : PtR c k e x o v) : PtR c' k e x o v := by
 obtain ⟨b, off, vs, h1, h2, h3, h4⟩ := r
 exact ⟨b, off, vs, by rw [hk.1]; exact h1, h2, h3.same (hk.2 b h1), h4.step h⟩
theorem OptR.step (h : Step c σ c' σ') {k : Nat} {e : El} {x : e.T} {i : Int} {o : Nat} {v : Value} (hk : c'.κ k = c.κ k ∧ ∀ b, c.κ k = some b → c'.w.heap[b]? = c.w.heap[b]?) (r : OptR c k e x i o v) : OptR c' k e x i o v := by
 obtain ⟨b, us, T, h1, h2, h3, h4, h5⟩ := r
 exact ⟨b, us, T, by rw [hk.1]; exact h1, h2, by unfold Blk; rw [hk.2 b h1]; exact h3, h4, h5.step h⟩
theorem ver_step (h : Step c σ c' σ') {k ver : Nat} {A B : Prop} (hAB : (c'.κ k = c.κ k ∧ ∀ b, c.κ k = some b → c'.w.heap[b]? = c.w.heap[b]?) → A → B) (r : ver ≤ σ.c ∧ (ver = getV σ.v k → A)) :
  ver ≤ σ'.c ∧ (ver = getV σ'.v k → B) := by
 refine ⟨Nat.le_trans r.1 h.cc, fun e => ?_⟩
 rcases h.key k with ⟨h1, h2⟩ | h1
 ·exact hAB h2 (r.2 (by rw [e, h1]))
 ·omega
theorem A1.step (h : Step c σ c' σ') {a : AV} {v : Value} (r : A1 tid c σ a v) : A1 tid c' σ' a v := by
 cases a with
 | lbox k i => exact ⟨by rw [(h.box k r.2).2]; exact r.1, (h.box k r.2).1⟩
 | own k ver e l => exact ⟨r.1, ver_step h (fun hk => OwnR.step h hk) r.2⟩
 | vw k ver e l => exact ver_step h (fun hk => ViewR.step h hk) r
 | vpt k ver e x o => obtain ⟨ad, r1, r2⟩ := r; exact ⟨ad, r1, ver_step h (fun hk => PtR.step h hk) r2⟩
 | opt k ver e x i o => obtain ⟨ad, r1, r2⟩ := r; exact ⟨ad, r1, ver_step h (fun hk => OptR.step h hk) r2⟩
 | _ => exact FRel.step h r
theorem AR.step (h : Step c σ c' σ') {a : AV} {v : Value} (r : AR tid c σ a v) : AR tid c' σ' a v := by
 cases a with
 | agg l => obtain ⟨vs, h1, h2, h3⟩ := r; exact ⟨vs, h1, h2, fun i hi => (h3 i hi).step h⟩
 | _ => exact AR.of_A1 tid (A1.step h (AR.to_A1 tid r (by intro l h; cases h))) (by intro l h; cases h)
theorem RowR.step (h : Step c σ c' σ') {b : Nat} {l : List AV} (hb : c'.w.heap[b]? = c.w.heap[b]?) (r : RowR tid c σ b l) : RowR tid c' σ' b l := by
 obtain ⟨vs, T, h1, h2, h3⟩ := r
 exact ⟨vs, T, by unfold Blk; rw [hb]; exact h1, h2, fun i hi => (h3 i hi).step h⟩
theorem Step.same (hb : σ'.b = σ.b) (hv : σ'.v = σ.v) (hc : σ'.c = σ.c) : Step c σ c σ' :=
 ⟨rfl, fun _ _ _ _ h => h, fun _ _ h => h, by rw [hc]; exact Nat.le_refl _, fun k h => ⟨by rw [hb]; exact h, rfl⟩, fun k => .inl ⟨by rw [hv], rfl, fun _ _ => rfl⟩⟩
theorem put_b (σ : St) (d : Option Nat) (a : AV) : (σ.put d a).b = σ.b := by cases d <;> rfl
theorem put_s (σ : St) (d : Option Nat) (a : AV) : (σ.put d a).s = σ.s := by cases d <;> rfl
theorem put_v (σ : St) (d : Option Nat) (a : AV) : (σ.put d a).v = σ.v := by cases d <;> rfl
theorem put_c (σ : St) (d : Option Nat) (a : AV) : (σ.put d a).c = σ.c := by cases d <;> rfl
theorem put_fr (σ : St) (d : Option Nat) (a : AV) : (σ.put d a).fr = σ.fr := by cases d <;> rfl
theorem beq_false {i k : Nat} (h : ¬ i = k) : Nat.beq i k = false := by
 cases hb : Nat.beq i k
 ·rfl
 ·exact absurd (Nat.eq_of_beq_eq_true hb) h
theorem getT_cons (i k : Nat) (a : AV) (t : List (Nat × AV)) : getT ((i, a) :: t) k = if i = k then a else getT t k := by
 show (match Nat.beq i k with | true => a | false => getT t k) = _
 by_cases h : i = k
 ·subst h; simp
 ·have : Nat.beq i k = false := beq_false h
  rw [this, if_neg h]
theorem getB_cons (i k : Nat) (a : List AV) (t : List (Nat × List AV)) : getB ((i, a) :: t) k = if i = k then a else getB t k := by
 show (match Nat.beq i k with | true => a | false => getB t k) = _
 by_cases h : i = k
 ·subst h; simp
 ·have : Nat.beq i k = false := beq_false h
  rw [this, if_neg h]
theorem getV_cons (i k : Nat) (a : Nat) (t : List (Nat × Nat)) : getV ((i, a) :: t) k = if i = k then a else getV t k := by
 show (match Nat.beq i k with | true => a | false => getV t k) = _
 by_cases h : i = k
 ·subst h; simp
 ·have : Nat.beq i k = false := beq_false h
  rw [this, if_neg h]
theorem tmps_put (a : Act) (d : Option Nat) (v : Value) (i : Nat) (hd : ∀ x, d = some x → x < a.tmps.size) : (a.put d v).tmps.getD i Go.undef = if d = some i then v else a.tmps.getD i Go.undef := by
 cases d with
 | none => simp [Act.put]
 | some d =>
  have := hd d rfl
  simp only [Act.put, Option.some.injEq]
  by_cases h : d = i
  ·subst h; simp [Array.getD, this]
  ·simp only [Array.getD, Array.size_setIfInBounds, h, if_false]
   split
   ·exact Array.getElem_setIfInBounds_ne _ h
   ·rfl
theorem getT_put (σ : St) (d : Option Nat) (a : AV) (i : Nat) : getT (σ.put d a).t i = if d = some i then a else getT σ.t i := by
 cases d with
 | none => simp [St.put]
 | some d => simp [St.put, getT_cons]
variable {B : Base} {N : Nat} {a : Act} {w : World}
theorem Rel.put (h : Rel tid B N c σ a w) {d : Option Nat} (hd : ∀ x, d = some x → x < N) {x : AV} {v : Value} (hx : AR tid c σ x v) : Rel tid B N c (σ.put d x) (a.put d v) w := by
 have st : Step c σ c (σ.put d x) := .same (put_b ..) (put_v ..) (put_c ..)
 refine { hw := h.hw, ds := ?_, n := ?_, t := ?_, b := ?_, s := ?_, ver := ?_, fz := ?_, own := ?_, inj := ?_, box := ?_, gg := ?_, old := h.old, grow := h.grow, stsz := h.stsz, keep := h.keep }
 ·cases d <;> simpa [Act.put] using h.ds
 ·cases d <;> simpa [Act.put] using h.n
 ·intro i
  rw [getT_put, tmps_put a d v i (by rw [h.n]; exact hd)]
  split
  ·exact hx.step st
  ·exact (h.t i).step st
 ·rw [put_b]; exact fun k hk => (h.b k hk).step st rfl
 ·rw [put_s]; exact fun hk => (h.s hk).step st rfl
 ·rw [put_v, put_c]; exact h.ver
 ·rw [put_fr]; exact h.fz
 ·rw [put_fr, put_b, put_s]; exact h.own
 ·rw [put_fr]; exact h.inj
 ·rw [put_b, put_s]; exact h.box
 ·rw [put_s]; exact h.gg
theorem A1.noAgg {x : AV} {v : Value} (h : A1 tid c σ x v) {l : List AV} (hx : x = .agg l) : FRel c.w c.S c.g (.agg l) v := by subst hx; exact h
theorem AR.of_A1' {x : AV} {v : Value} (h : A1 tid c σ x v) : AR tid c σ x v := by
 cases x with
 | agg l => exact AR.of_F tid h
 | _ => exact h
theorem ofConst_one (v : Value) (hn : ∀ cs, v ≠ .agg cs) : FRel c.w c.S c.g (ofConst v) v := by
 unfold ofConst
 split <;> first | exact .int _ | exact .bool _ | exact .ik _ _ | exact .str _ | exact .nil _ | exact absurd rfl (hn _) | exact .undef _
theorem AR_const (v : Value) : AR tid c σ (ofConst v) v := by
 by_cases hn : ∀ cs, v ≠ .agg cs
 ·exact AR.of_F tid (ofConst_one v hn)
 ·obtain ⟨cs, rfl⟩ : ∃ cs, v = .agg cs := by
   cases v with
   | agg cs => exact ⟨cs, rfl⟩
   | _ => exact absurd (fun _ h => by cases h) hn
  refine ⟨cs.toList, by simp, by simp, fun i hi => A1.of_F tid ?_⟩
  simp only [List.length_map] at hi
  rw [List.getD_eq_getElem?_getD, List.getElem?_map, List.getD_eq_getElem?_getD, List.getElem?_eq_getElem hi]
  simp only [Option.map_some, Option.getD_some]
  split <;> rename_i hq <;> first | (rw [hq]; exact .int _) | (rw [hq]; exact .bool _) | (rw [hq]; exact .nil _) | exact .undef _
theorem Rel.getO (h : Rel tid B N c σ a w) (x : Operand) : AR tid c σ (getO σ.t x) (a.eval x) := by
 cases x with
 | tmp i => exact h.t i
 | const v => exact AR_const v
 | func f => exact AR.of_F tid (.clos f [] [] [] [] rfl rfl rfl rfl (fun i hi => by simp at hi) (fun i hi => by simp at hi))
 | global g => exact AR.of_F tid (.undef _)
theorem AR.cells {x : AV} {v : Value} (h : AR tid c σ x v) (hc : x.cells.all AV.cell = true) :
  x.cells.length = v.cells.toList.length ∧ (∀ i, i < x.cells.length → A1 tid c σ (x.cells.getD i .undef) (v.cells.toList.getD i Go.undef)) ∧ ∀ u ∈ v.cells.toList, u.oneCell' = true := by
 cases x with
 | agg l =>
  obtain ⟨vs, rfl, hl, h⟩ := h
  have hc' : l.all AV.cell = true := hc
  refine ⟨by simpa [AV.cells, Value.cells] using hl, fun i hi => by simpa [AV.cells, Value.cells] using h i hi, fun u hu => ?_⟩
  simp only [Value.cells, List.mem_iff_getElem?] at hu
  obtain ⟨i, hi⟩ := hu
  have hi' : i < vs.length := (List.getElem?_eq_some_iff.1 hi).1
  have hu := h i (by omega)
  rw [getD_of_get? hi] at hu
  exact (hu.oneCell tid (one_of_all hc' i (by omega))).1
 | _ =>
  have hx := (h.to_A1 tid (by intro l h; cases h)).oneCell tid (by simpa [AV.cells] using hc)
  refine ⟨by simp [AV.cells, hx.2], fun i hi => ?_, fun u hu => ?_⟩
  ·simp [AV.cells] at hi
   subst hi
   simpa [AV.cells, hx.2] using h.to_A1 tid (by intro l h; cases h)
  ·rw [hx.2] at hu; simp at hu; subst hu; exact hx.1
section
variable {P : Program} {T : Nat} {ty : Ty} (hT : TyOK P tid T ty)
include hT
theorem run_isAgg : (isAgg T).run P w = .ok ty.agg w := by
 obtain ⟨d, h1, h2⟩ := hT.agg
 rw [← h2]
 simp only [isAgg, Sem.run_bind, run_underlying h1, Result.andThen_ok]
 cases d <;> rfl
theorem run_sizeOf : (sizeOf T).run P w = .ok ty.zero.length w := by
 obtain ⟨i, z, h1, h2, h3, _⟩ := hT.info
 simp [sizeOf, typeInfo, h1, h3]
theorem readAt_ok {l : List AV} {vs : List Value} {b off o : Nat} {x : AV} (hw : c.w = w) (hl : l.length = vs.length) (hc : CellsAt w b off vs)
  (hA : ∀ i, i < l.length → A1 tid c σ (l.getD i .undef) (vs.getD i Go.undef)) (hr : readAt ty l o = some x) :
  ∃ v, (loadVar T ⟨b, off + o, none⟩).run P w = .ok v w ∧ AR tid c σ x v := by
 unfold readAt at hr
 split at hr
 ·rename_i hb
  have hb := Nat.le_of_ble_eq_true hb
  cases hg : ty.agg
  ·rw [hg] at hr
   simp only [Bool.false_eq_true, if_false, Option.some.injEq] at hr
   subst hr
   have h1 := hT.one hg
   have ho : o < l.length := by omega
   have hcell := hc o _ (get?_of_lt Go.undef (by omega))
   refine ⟨vs.getD o Go.undef, ?_, AR.of_A1' (hA o ho)⟩
   simp only [loadVar, Sem.run_bind, run_isAgg hT, Result.andThen_ok, hg, Bool.false_eq_true, if_false, run_load, hcell]
  ·rw [hg] at hr
   simp only [if_true, Option.some.injEq] at hr
   subst hr
   have hcs := run_loadCells_list (P := P) (w := w) ⟨b, off + o, none⟩ ((vs.drop o).take ty.zero.length) (fun j v hv => by
    rw [Addr.add_at, Nat.add_assoc]
    refine hc (o + j) v ?_
    rw [List.getElem?_take] at hv
    split at hv
    ·rwa [List.getElem?_drop] at hv
    ·cases hv)
   have hlen : ((vs.drop o).take ty.zero.length).length = ty.zero.length := by simp; omega
   rw [hlen] at hcs
   refine ⟨.agg ((vs.drop o).take ty.zero.length).toArray, ?_, ⟨_, rfl, by simp [hl], fun i hi => ?_⟩⟩
   ·simp only [loadVar, Sem.run_bind, run_isAgg hT, Result.andThen_ok, hg, if_true, run_sizeOf hT, hcs, Sem.run_pure]
   ·have hi : i < ty.zero.length ∧ o + i < l.length := by simp at hi; omega
    rw [getD_take _ _ _ _ hi.1, getD_take _ _ _ _ hi.1, getD_drop, getD_drop]
    exact hA _ hi.2
 ·cases hr
end
theorem cur_eq {k ver : Nat} (h : σ.cur k ver = true) : ver = getV σ.v k := Nat.eq_of_beq_eq_true h
theorem load_ok {P : Program} {T : Nat} {ty : Ty} (hT : TyOK P tid T ty) (h : Rel tid B N c σ a w) {p x : AV} {pv : Value} (hp : AR tid c σ p pv) (hl : loadAV σ ty p = some x) :
  ∃ ad v, pv = .pointer (some ad) ∧ (loadVar T ad).run P w = .ok v w ∧ AR tid c σ x v := by
 have hw := h.hw
 cases p with
 | rdr i =>
  cases hp.to_A1 tid (by intro l h; cases h) with
  | rdr =>
   have hs : σ.s ≠ [] := by
    intro e
    simp only [loadAV, readAt, e] at hl
    have := hT.pos
    split at hl
    ·rename_i hb; have hb := Nat.le_of_ble_eq_true hb; simp only [List.length_nil] at hb; omega
    ·cases hl
   obtain ⟨vs, T', h1, h2, h3⟩ := h.s hs
   rw [hw] at h1
   obtain ⟨v, h4, h5⟩ := readAt_ok hT hw h2 h1.cells h3 hl
   exact ⟨_, v, rfl, by simpa using h4, h5⟩
 | lbox k i =>
  obtain ⟨rfl, hk⟩ := hp.to_A1 tid (by intro l h; cases h)
  obtain ⟨vs, T', h1, h2, h3⟩ := h.b k hk
  rw [hw] at h1
  obtain ⟨v, h4, h5⟩ := readAt_ok hT hw h2 h1.cells h3 hl
  exact ⟨_, v, rfl, by simpa using h4, h5⟩
 | cbox y =>
  have hp := hp.to_A1 tid (by intro l h; cases h)
  cases hp with
  | cbox _ v b hs hc ho hF =>
   rw [hw] at hc
   cases hg : ty.agg
   ·simp only [loadAV, hg, Bool.false_eq_true, if_false, Option.some.injEq] at hl
    subst hl
    exact ⟨_, v, rfl, by simp only [loadVar, Sem.run_bind, run_isAgg hT, Result.andThen_ok, hg, Bool.false_eq_true, if_false, run_load, hc], AR.of_F tid hF⟩
   ·simp [loadAV, hg] at hl
 | spt e y o =>
  have hp := hp.to_A1 tid (by intro l h; cases h)
  cases hp with
  | spt _ _ _ b off V hV hm =>
   rw [hw] at hm
   have hlen := El.enc_length e y
   obtain ⟨v, h4, h5⟩ := readAt_ok (P := P) (tid := tid) (c := c) (σ := σ) (vs := (List.range e.sz).map V) hT hw (by simp [hlen]) (b := b) (off := off) (fun j x hx => by
     rw [List.getElem?_map] at hx
     obtain ⟨j', hj', rfl⟩ := Option.map_eq_some_iff.1 hx
     have hj2 := List.getElem?_eq_some_iff.1 hj'
     obtain ⟨hj3, hj4⟩ := hj2
     simp at hj3 hj4
     subst hj4
     exact (hm j hj3).2) (fun i hi => A1.of_F tid (by
      rw [List.getD_eq_getElem?_getD (l := (List.range e.sz).map V), List.getElem?_map, List.getElem?_range (by omega)]
      exact hV i (by omega))) hl
   exact ⟨_, v, rfl, h4, h5⟩
 | vpt k ver e y o =>
  have hp := hp.to_A1 tid (by intro l h; cases h)
  simp only [loadAV] at hl
  split at hl
  ·rename_i hcur
   obtain ⟨_, _, hp⟩ := hp
   obtain ⟨b, off, vs, h1, rfl, h3, h4⟩ := hp.2 (cur_eq hcur)
   rw [hw] at h3
   obtain ⟨v, h5, h6⟩ := readAt_ok (tid := tid) (c := c) (σ := σ) hT hw h4.1 h3 (fun i hi => A1.of_F tid (h4.2 i hi)) hl
   exact ⟨_, v, rfl, h5, h6⟩
  ·cases hl
 | opt k ver e y i o =>
  have hp := hp.to_A1 tid (by intro l h; cases h)
  simp only [loadAV] at hl
  split at hl
  ·rename_i hcur
   obtain ⟨_, _, hp⟩ := hp
   obtain ⟨b, us, T', h1, rfl, h2, h3', h4⟩ := hp.2 (cur_eq hcur)
   have h3 := ((Blk.cells h2).drop (i.toNat * e.sz)).take e.sz
   rw [hw, Nat.zero_add] at h3
   obtain ⟨v, h5, h6⟩ := readAt_ok (tid := tid) (c := c) (σ := σ) hT hw h4.1 h3 (fun i hi => A1.of_F tid (h4.2 i hi)) hl
   exact ⟨_, v, rfl, h5, h6⟩
  ·cases hl
 | _ => simp [loadAV] at hl
theorem writeL_length {l m : List AV} {i : Nat} (h : i + m.length ≤ l.length) : (writeL l i m).length = l.length := by
 simp [writeL]; omega
theorem writeL_getD {α : Type} (l m : List α) (d : α) (i j : Nat) (h : i + m.length ≤ l.length) :
  (l.take i ++ (m ++ l.drop (i + m.length))).getD j d = if i ≤ j ∧ j < i + m.length then m.getD (j - i) d else l.getD j d := by
 by_cases h1 : j < i
 ·rw [getD_append_left _ _ _ _ (by simp; omega), getD_take _ _ _ _ h1, if_neg (by omega)]
 ·rw [getD_append_right _ _ _ _ (by simp; omega)]
  have : (l.take i).length = i := by simp; omega
  rw [this]
  by_cases h2 : j < i + m.length
  ·rw [getD_append_left _ _ _ _ (by omega), if_pos ⟨by omega, h2⟩]
  ·rw [getD_append_right _ _ _ _ (by omega), getD_drop, if_neg (by omega)]
   congr 1; omega
theorem run_storeVar {P : Program} {T : Nat} {ty : Ty} (hT : TyOK P tid T ty) {w : World} {b o : Nat} {vs us : List Value} {T' : TypeId} {v : Value} (hb : Blk w b vs T') (hv : v.cells.toList = us) (hl : us.length = ty.zero.length)
  (ho : o + us.length ≤ vs.length) (h1 : ∀ u ∈ us, u.oneCell' = true) :
  (storeVar T ⟨b, o, none⟩ v).run P w = .ok () (w.setRow b (vs.take o ++ (us ++ vs.drop (o + us.length))).toArray) := by
 have hsz : v.cells.size = ty.zero.length := by rw [← hl, ← hv]; simp
 have hr := run_storeCells_at (P := P) b o T' us 0 vs.toArray w hb (by simpa using ho) h1
 simp only [Nat.add_zero, List.append_assoc] at hr
 subst hv
 simp only [storeVar, Sem.run_bind, run_sizeOf hT, Result.andThen_ok, hsz, ne_eq, not_true, if_false, Sem.run_pure]
 simpa using hr
theorem setRow_blk {w : World} {b : Nat} {vs us : List Value} {T : TypeId} (h : Blk w b vs T) : Blk (w.setRow b us.toArray) b us T := setRow_heap w b _ _ T _ h
theorem AR.pieces {x : AV} {v : Value} (h : AR tid c σ x v) (hc : x.cells.all AV.cell = true) :
  ∃ us, v.cells.toList = us ∧ x.cells.length = us.length ∧ (∀ i, i < x.cells.length → A1 tid c σ (x.cells.getD i .undef) (us.getD i Go.undef)) ∧ ∀ u ∈ us, u.oneCell' = true :=
 ⟨_, rfl, (h.cells hc).1, (h.cells hc).2.1, (h.cells hc).2.2⟩
theorem cells_other {w : World} {b o x : Nat} {vs : List Value} (hne : b ≠ x) : (w.setRow x vs.toArray).cell? ⟨b, o, none⟩ = w.cell? ⟨b, o, none⟩ :=
 World.cell?_of_block (w := w) (a := ⟨b, o, none⟩) (setRow_other w x b _ hne)
theorem Step.write {b : Nat} {vs : List Value} (hw : c.w = w) (hS : ∀ o, ¬ c.S b o) (hκ : ∀ k, c.κ k = some b → σ.c < getV σ'.v k) (hv : ∀ k, getV σ'.v k = getV σ.v k ∨ σ.c < getV σ'.v k) (hc : σ.c ≤ σ'.c)
  (hB : ∀ k, getB σ.b k ≠ [] → getB σ'.b k ≠ []) : Step c σ { c with w := w.setRow b vs.toArray } σ' := by
 refine ⟨rfl, fun b' o x hs hx => ?_, fun _ _ h => h, hc, fun k hk => ⟨hB k hk, rfl⟩, fun k => ?_⟩
 ·rw [hw] at hx
  rw [show ({ c with w := w.setRow b vs.toArray } : Cx).w = w.setRow b vs.toArray from rfl, cells_other (fun e => hS o (by rw [← e]; exact hs))]
  exact hx
 ·rcases hv k with h1 | h1
  ·by_cases hb : c.κ k = some b
   ·exact .inr (hκ k hb)
   ·exact .inl ⟨h1, rfl, fun b' hb' => by
     rw [hw]; exact setRow_other w b b' _ (fun e => hb (by rw [← e]; exact hb'))⟩
  ·exact .inr h1
theorem Keep.write {w0 w : World} {F : Nat → Prop} {b : Nat} {vs : Array Value} (h : Keep w0 F w) (hb : F b ∨ w0.heap.size ≤ b) : Keep w0 F (w.setRow b vs) :=
 ⟨h.os, h.tape, h.output, by rw [setRow_size]; exact h.size, fun b' h1 h2 => by
  rw [setRow_other w b b' vs (fun e => by subst e; rcases hb with hb | hb; exact h2 hb; omega)]; exact h.block b' h1 h2⟩
theorem RowR.write {b o : Nat} {l m : List AV} {us : List Value} (r : RowR tid c σ b l) (hw : c.w = w) (hm : m.length = us.length) (ho : o + m.length ≤ l.length) (hA : ∀ i, i < m.length → A1 tid c σ (m.getD i .undef) (us.getD i Go.undef)) :
  ∃ vs T, Blk w b vs T ∧ o + us.length ≤ vs.length ∧ ∀ (c' : Cx) (σ' : St), ((∀ x v, A1 tid c σ x v → A1 tid c' σ' x v) → c'.w = w.setRow b (vs.take o ++ (us ++ vs.drop (o + us.length))).toArray → RowR tid c' σ' b (writeL l o m)) := by
 obtain ⟨vs, T, h1, h2, h3⟩ := r
 rw [hw] at h1
 refine ⟨vs, T, h1, by omega, fun c' σ' hs hw' => ⟨_, T, by rw [hw']; exact setRow_blk h1, ?_, fun i hi => ?_⟩⟩
 ·rw [writeL_length ho]; simp; omega
 ·rw [writeL_length ho] at hi
  unfold writeL
  rw [writeL_getD l m _ o i ho, writeL_getD vs us _ o i (by omega), ← hm]
  split
  ·exact hs _ _ (hA _ (by omega))
  ·exact hs _ _ (h3 i hi)
theorem store_ok {P : Program} {T : Nat} {ty : Ty} (hT : TyOK P tid T ty) (h : Rel tid B N c σ a w) {p x : AV} {pv v : Value} (hp : AR tid c σ p pv) (hx : AR tid c σ x v) (hn : ∀ k w e y i o, p ≠ .opt k w e y i o) (hl : storeAV σ ty p x = some σ') :
  ∃ ad w' c', pv = .pointer (some ad) ∧ (storeVar T ad v).run P w = .ok () w' ∧ Rel tid B N c' σ' a w' := by
 have hw := h.hw
 unfold storeAV at hl
 split at hl
 rotate_left
 ·cases hl
 rename_i hlen hcell
 have hlen := Nat.eq_of_beq_eq_true hlen
 obtain ⟨us, hu, hul, hA, h1⟩ := hx.pieces hcell
 cases p with
 | rdr i =>
  have hp := hp.to_A1 tid (by intro l h; cases h)
  cases hp with
  | rdr =>
  simp only at hl
  split at hl
  rotate_left
  ·cases hl
  rename_i hb
  have hb := Nat.le_of_ble_eq_true hb
  simp only [Option.some.injEq] at hl
  have hs : σ.s ≠ [] := by intro e; rw [e] at hb; have := hT.pos; simp only [List.length_nil] at hb; omega
  obtain ⟨vs, T', h2, h3, h4⟩ := (h.s hs).write (o := i) hw hul (by omega) hA
  have hst := run_storeVar (P := P) hT h2 hu (by omega) h3 h1
  have hgg := h.gg hs
  have hs' : σ'.s ≠ [] := by subst hl; intro e; have := congrArg List.length e; rw [show ({ σ with s := writeL σ.s i x.cells } : St).s = writeL σ.s i x.cells from rfl, writeL_length (by omega)] at this; exact hs (List.eq_nil_of_length_eq_zero this)
  have st : Step c σ { c with w := w.setRow c.g (vs.take i ++ (us ++ vs.drop (i + us.length))).toArray } σ' := by
   subst hl
   refine .write hw hgg.2 (fun k hk => ?_) (fun k => .inl rfl) (Nat.le_refl _) (fun k h => h)
   by_cases hf : k ∈ σ.fr
   ·exact absurd (h.fz k _ hf hk 0) (hgg.2 0)
   ·exact absurd rfl ((h.own k _ hf hk).2.2.2.1 hs)
  refine ⟨_, _, { c with w := w.setRow c.g (vs.take i ++ (us ++ vs.drop (i + us.length))).toArray }, rfl, hst, { hw := rfl, ds := h.ds, n := h.n, t := fun k => ?_, b := fun k hk => ?_, s := fun _ => ?_, ver := ?_, fz := ?_, own := ?_, inj := ?_, box := ?_, gg := ?_, old := h.old, grow := h.grow, stsz := ?_, keep := h.keep.write hgg.1 }⟩
  ·have := (h.t k).step st; subst hl; exact this
  ·have hk0 : getB σ.b k ≠ [] := by subst hl; exact hk
   have := (h.b k hk0).step st (by
    rw [hw]; exact setRow_other w c.g _ _ ((h.box k hk0).2.2.1 hs))
   subst hl; exact this
  ·have := h4 _ σ' (fun _ _ r => r.step st) rfl
   subst hl; exact this
  ·subst hl; exact h.ver
  ·subst hl; exact h.fz
  ·subst hl
   intro k b hk hb
   have := h.own k b hk hb
   exact ⟨this.1, by rw [setRow_size]; exact this.2.1, this.2.2.1, fun _ => this.2.2.2.1 hs, this.2.2.2.2⟩
  ·subst hl; exact h.inj
  ·subst hl
   intro k hk
   have := h.box k hk
   exact ⟨this.1, this.2.1, fun _ => this.2.2.1 hs, this.2.2.2⟩
  ·intro _; exact hgg
  ·intro b o hs; rw [setRow_size]; exact h.stsz b o hs
 | lbox k i =>
  obtain ⟨rfl, hk⟩ := hp.to_A1 tid (by intro l h; cases h)
  simp only at hl
  split at hl
  rotate_left
  ·cases hl
  rename_i hb
  have hb := Nat.le_of_ble_eq_true hb
  simp only [Option.some.injEq] at hl
  obtain ⟨vs, T', h2, h3, h4⟩ := (h.b k hk).write (o := i) hw hul (by omega) hA
  have hst := run_storeVar (P := P) hT h2 hu (by omega) h3 h1
  have hbx := h.box k hk
  have hgb : ∀ j, getB σ'.b j = if k = j then writeL (getB σ.b k) i x.cells else getB σ.b j := by subst hl; intro j; exact getB_cons ..
  have hne : ∀ j, getB σ'.b j ≠ [] ↔ getB σ.b j ≠ [] := by
   intro j
   rw [hgb]
   split
   ·rename_i e; subst e
    refine ⟨fun _ => hk, fun _ e => ?_⟩
    have := congrArg List.length e
    rw [writeL_length (by omega)] at this
    exact hk (List.eq_nil_of_length_eq_zero this)
   ·exact Iff.rfl
  have st : Step c σ { c with w := w.setRow (c.β k) (vs.take i ++ (us ++ vs.drop (i + us.length))).toArray } σ' := by
   refine .write hw hbx.2.1 (fun k' hk' => ?_) (fun k => .inl (by subst hl; rfl)) (by subst hl; exact Nat.le_refl _) (fun j hj => (hne j).2 hj)
   by_cases hf : k' ∈ σ.fr
   ·exact absurd (h.fz k' _ hf hk' 0) (hbx.2.1 0)
   ·exact absurd rfl ((h.own k' _ hf hk').2.2.2.2 k hk)
  refine ⟨_, _, { c with w := w.setRow (c.β k) (vs.take i ++ (us ++ vs.drop (i + us.length))).toArray }, rfl, hst, { hw := rfl, ds := h.ds, n := h.n, t := fun k => ?_, b := fun j hj => ?_, s := fun hs => ?_, ver := ?_, fz := ?_, own := ?_, inj := ?_, box := ?_, gg := ?_, old := h.old, grow := h.grow, stsz := ?_, keep := h.keep.write (.inr hbx.1) }⟩
  ·have := (h.t k).step st; subst hl; exact this
  ·have hj0 := (hne j).1 hj
   by_cases hjk : k = j
   ·subst hjk
    have := h4 _ σ' (fun _ _ r => r.step st) rfl
    rw [hgb, if_pos rfl]; exact this
   ·have := (h.b j hj0).step st (by
     rw [hw]; exact setRow_other w (c.β k) _ _ (fun e => hjk (hbx.2.2.2 j hj0 e).symm))
    rw [hgb, if_neg hjk]; exact this
  ·have hs0 : σ.s ≠ [] := by subst hl; exact hs
   have := (h.s hs0).step st (by rw [hw]; exact setRow_other w (c.β k) _ _ (Ne.symm (hbx.2.2.1 hs0)))
   subst hl; exact this
  ·subst hl; exact h.ver
  ·subst hl; exact h.fz
  ·intro k' b hk' hb'
   have := h.own k' b (by subst hl; exact hk') hb'
   exact ⟨this.1, by rw [setRow_size]; exact this.2.1, this.2.2.1, fun hs => this.2.2.2.1 (by subst hl; exact hs), fun j hj => this.2.2.2.2 j ((hne j).1 hj)⟩
  ·subst hl; exact h.inj
  ·intro j hj
   have := h.box j ((hne j).1 hj)
   exact ⟨this.1, this.2.1, fun hs => this.2.2.1 (by subst hl; exact hs), fun i hi => this.2.2.2 i ((hne i).1 hi)⟩
  ·intro hs; exact h.gg (by subst hl; exact hs)
  ·intro b o hs; rw [setRow_size]; exact h.stsz b o hs
 | opt k w e y i o => exact absurd rfl (hn _ _ _ _ _ _)
 | _ => simp at hl
def Cx.new (c : Cx) (w : World) (o : Obj) (st : Bool) : Cx := { c with w := w.alloc o, S := fun b x => c.S b x ∨ (st = true ∧ b = w.heap.size) }
theorem Rel.new_step (h : Rel tid B N c σ a w) (o : Obj) (st : Bool) : Step c σ (c.new w o st) σ := by
 have hw := h.hw
 refine ⟨rfl, fun b x v hs hx => ?_, fun _ _ h => .inl h, Nat.le_refl _, fun k hk => ⟨hk, rfl⟩, fun k => ?_⟩
 ·rw [hw] at hx
  exact (World.cell?_of_block (w := w) (a := ⟨b, x, none⟩) (heap_alloc_old w o b (h.stsz b x hs))).trans hx
 ·by_cases hf : k ∈ σ.fr
  ·refine .inl ⟨rfl, rfl, fun b hb => ?_⟩
   rw [hw]; exact heap_alloc_old w o b (h.stsz b 0 (h.fz k b hf hb 0))
  ·refine .inl ⟨rfl, rfl, fun b hb => ?_⟩
   rw [hw]; exact heap_alloc_old w o b (h.own k b hf hb).2.1
theorem RowR.lt {b : Nat} {l : List AV} (r : RowR tid c σ b l) : b < c.w.heap.size := by
 obtain ⟨vs, T, h1, _⟩ := r; exact h1.lt
theorem Keep.alloc {w0 w : World} {F : Nat → Prop} (h : Keep w0 F w) (o : Obj) : Keep w0 F (w.alloc o) :=
 ⟨h.os, h.tape, h.output, by have := h.size; simp; omega, fun b h1 h2 => by
  rw [heap_alloc_old w o b (by have := h.size; omega)]; exact h.block b h1 h2⟩
theorem Rel.new (h : Rel tid B N c σ a w) (o : Obj) (st : Bool) : Rel tid B N (c.new w o st) σ a (w.alloc o) := by
 have hw := h.hw
 have hs := h.new_step o st
 have hlt : ∀ b, b < w.heap.size → b ≠ w.heap.size := fun b hb => by omega
 refine { hw := rfl, ds := h.ds, n := h.n, t := fun k => (h.t k).step hs, b := fun k hk => ?_, s := fun hk => ?_, ver := h.ver, fz := fun k b h1 h2 x => .inl (h.fz k b h1 h2 x), own := fun k b h1 h2 => ?_, inj := h.inj, box := fun k hk => ?_, gg := fun hk => ?_, old := fun b x hx => ?_, grow := fun b x hx => .inl (h.grow b x hx), stsz := fun b x hx => ?_, keep := h.keep.alloc o }
 ·have r := h.b k hk
  exact r.step hs (by rw [hw]; exact heap_alloc_old w o _ (by have := r.lt; rw [hw] at this; exact this))
 ·have r := h.s hk
  exact r.step hs (by rw [hw]; exact heap_alloc_old w o _ (by have := r.lt; rw [hw] at this; exact this))
 ·have r := h.own k b h1 h2
  refine ⟨r.1, by have := r.2.1; simp; omega, fun x hx => ?_, r.2.2.2⟩
  rcases hx with hx | ⟨_, hx⟩
  ·exact r.2.2.1 x hx
  ·exact hlt b r.2.1 hx
 ·have r := h.box k hk
  refine ⟨r.1, fun x hx => ?_, r.2.2⟩
  rcases hx with hx | ⟨_, hx⟩
  ·exact r.2.1 x hx
  ·exact hlt _ (by have := (h.b k hk).lt; rw [hw] at this; exact this) hx
 ·have r := h.gg hk
  refine ⟨r.1, fun x hx => ?_⟩
  rcases hx with hx | ⟨_, hx⟩
  ·exact r.2 x hx
  ·exact hlt _ (by have := (h.s hk).lt; rw [hw] at this; exact this) hx
 ·rcases hx with hx | ⟨_, hx⟩
  ·exact h.old b x hx
  ·exact .inr (.inr (by have := h.keep.size; omega))
 ·rcases hx with hx | ⟨_, hx⟩
  ·have := h.stsz b x hx; simp; omega
  ·simp; omega
theorem Rel.box' (h : Rel tid B N c σ a w) {d nb : Nat} {l : List AV} (hd : getB σ.b d = []) (hl : l ≠ []) (hm : B.w0.heap.size ≤ nb) (hS : ∀ o, ¬ c.S nb o) (hg : σ.s ≠ [] → nb ≠ c.g) (hb : ∀ j, getB σ.b j ≠ [] → nb ≠ c.β j)
  (hκ : ∀ k, k ∉ σ.fr → c.κ k ≠ some nb) (r : RowR tid c σ nb l) :
  Rel tid B N { c with β := fun k => if k = d then nb else c.β k } { σ with b := (d, l) :: σ.b } a w := by
 have hβ : ∀ k, getB σ.b k ≠ [] → (if k = d then nb else c.β k) = c.β k := fun k hk => by rw [if_neg]; intro e; subst e; exact hk hd
 have hgb : ∀ k, getB ((d, l) :: σ.b) k = if d = k then l else getB σ.b k := fun k => getB_cons ..
 have hs : Step c σ { c with β := fun k => if k = d then nb else c.β k } { σ with b := (d, l) :: σ.b } :=
  ⟨rfl, fun _ _ _ _ h => h, fun _ _ h => h, Nat.le_refl _, fun k hk => ⟨by rw [hgb]; split; exact hl; exact hk, hβ k hk⟩, fun k => .inl ⟨rfl, rfl, fun _ _ => rfl⟩⟩
 refine { hw := h.hw, ds := h.ds, n := h.n, t := fun k => (h.t k).step hs, b := fun k hk => ?_, s := fun hk => (h.s hk).step hs rfl, ver := h.ver, fz := h.fz, own := fun k b h1 h2 => ?_, inj := h.inj, box := fun k hk => ?_, gg := h.gg, old := h.old, grow := h.grow, stsz := h.stsz, keep := h.keep }
 ·rw [hgb] at hk ⊢
  by_cases e : d = k
  ·subst e; simp only [if_true]; exact r.step hs rfl
  ·simp only [if_neg e] at hk ⊢
   simp only [if_neg (Ne.symm e)]
   exact (h.b k hk).step hs rfl
 ·have r' := h.own k b h1 h2
  refine ⟨r'.1, r'.2.1, r'.2.2.1, r'.2.2.2.1, fun j hj => ?_⟩
  rw [hgb] at hj
  by_cases e : d = j
  ·subst e; simp only [if_true]; intro e; subst e; exact hκ k h1 h2
  ·simp only [if_neg e] at hj; simp only [if_neg (Ne.symm e)]; exact r'.2.2.2.2 j hj
 ·rw [hgb] at hk
  by_cases e : d = k
  ·subst e
   simp only [if_true]
   refine ⟨hm, hS, hg, fun j hj e => ?_⟩
   rw [hgb] at hj
   by_cases e' : d = j
   ·exact e'.symm
   ·simp only [if_neg e'] at hj
    rw [if_neg (Ne.symm e')] at e
    exact absurd e.symm (hb j hj)
  ·simp only [if_neg e] at hk
   simp only [if_neg (Ne.symm e)]
   have r' := h.box k hk
   refine ⟨r'.1, r'.2.1, r'.2.2.1, fun j hj e2 => ?_⟩
   rw [hgb] at hj
   by_cases e' : d = j
   ·subst e'; simp only [if_true] at e2; exact absurd e2 (hb k hk)
   ·simp only [if_neg e'] at hj
    rw [if_neg (Ne.symm e')] at e2
    exact r'.2.2.2 j hj e2
theorem Rel.newBox (h : Rel tid B N c σ a w) {d : Nat} (hd : d < N) {l : List AV} {vs : List Value} {T : TypeId} (hb : getB σ.b d = []) (hl : l ≠ []) (hlen : l.length = vs.length)
  (hA : ∀ i, i < l.length → A1 tid c σ (l.getD i .undef) (vs.getD i Go.undef)) :
  ∃ c', Rel tid B N c' ({ σ with b := (d, l) :: σ.b }.put (some d) (.lbox d 0)) (a.put (some d) (.pointer (some ⟨w.heap.size, 0, none⟩))) (w.alloc (.cells vs.toArray T)) := by
 have hw := h.hw
 have h1 := h.new (.cells vs.toArray T) false
 have hs := h.new_step (.cells vs.toArray T) false
 have hS : ∀ o, ¬ (c.new w (.cells vs.toArray T) false).S w.heap.size o := by
  intro o hx
  rcases hx with hx | ⟨hx, _⟩
  ·have := h.stsz _ _ hx; omega
  ·cases hx
 have h2 := h1.box' (d := d) (nb := w.heap.size) (l := l) hb hl h.keep.size hS
  (fun hne e => by have := (h.s hne).lt; rw [hw] at this; exact absurd e (by show w.heap.size ≠ c.g; omega))
  (fun j hj e => by have := (h.b j hj).lt; rw [hw] at this; exact absurd e (by show w.heap.size ≠ c.β j; omega))
  (fun k hk e => by have := (h.own k _ hk e).2.1; omega)
  ⟨vs, T, heap_alloc_new w _, hlen, fun i hi => (hA i hi).step hs⟩
 refine ⟨_, h2.put (fun x hx => by cases hx; exact hd) (AR.of_A1' ?_)⟩
 refine ⟨by simp, ?_⟩
 show getB ((d, l) :: σ.b) d ≠ []
 rw [getB_cons, if_pos rfl]; exact hl
theorem Rel.newStay (h : Rel tid B N c σ a w) (vs : List Value) (T : TypeId) :
  Rel tid B N (c.new w (.cells vs.toArray T) true) σ a (w.alloc (.cells vs.toArray T)) ∧ (∀ o, (c.new w (.cells vs.toArray T) true).S w.heap.size o) ∧ CellsAt (w.alloc (.cells vs.toArray T)) w.heap.size 0 vs :=
 ⟨h.new _ _, fun o => .inr ⟨rfl, rfl⟩, Blk.cells (T := T) (heap_alloc_new w _)⟩
theorem CR.elem {w : World} {S : Nat → Nat → Prop} {g : Nat} {e : El} {l : List e.T} {vs : List Value} (h : CR w S g (encL e l) vs) (i : Nat) (hi : i < l.length) : CR w S g (e.enc (l.getD i e.dflt)) ((vs.drop (i * e.sz)).take e.sz) := by
 have hlen := encL_length e l
 have h1 := h.1
 have hle : i * e.sz + e.sz ≤ l.length * e.sz := by rw [← Nat.succ_mul]; exact Nat.mul_le_mul_right _ hi
 refine ⟨by rw [El.enc_length]; simp; omega, fun j hj => ?_⟩
 rw [El.enc_length] at hj
 rw [getD_take _ _ _ _ hj, getD_drop, ← encL_getD e l i j hi hj]
 exact h.2 _ (by omega)
def SlR (w : World) (S : Nat → Nat → Prop) (g : Nat) (e : El) (l : List e.T) (v : Value) : Prop :=
 ∃ ad m, v = .slice ad l.length m ∧ l.length ≤ m ∧ (l = [] ∨ ∃ b off vs, ad = some ⟨b, off, none⟩ ∧ CellsAt w b off vs ∧ CR w S g (encL e l) vs ∧ ∀ j, j < vs.length → S b (off + j))
theorem mul_lt {i j n k : Nat} (hi : i < n) (hj : j < k) : i * k + j < n * k := by
 have : i * k + k ≤ n * k := by rw [← Nat.succ_mul]; exact Nat.mul_le_mul_right _ hi
 omega
theorem FRel.toSl {w : World} {S : Nat → Nat → Prop} {g : Nat} {e : El} {l : List e.T} {v : Value} (h : FRel w S g (.sl e l) v) : SlR w S g e l v := by
 cases h with
 | sl0 e a c => exact ⟨a, c, rfl, Nat.zero_le _, .inl rfl⟩
 | sl e xs b off c V hc hn hV hm =>
  have hp := e.sz_pos
  have hx : ∀ j, j < l.length * e.sz → j / e.sz < l.length ∧ j % e.sz < e.sz := fun j hj => ⟨(Nat.div_lt_iff_lt_mul hp).2 hj, Nat.mod_lt _ hp⟩
  have hj : ∀ j, j / e.sz * e.sz + j % e.sz = j := fun j => by have := Nat.div_add_mod j e.sz; rw [Nat.mul_comm]; omega
  refine ⟨_, c, rfl, hc, .inr ⟨b, off, (List.range (l.length * e.sz)).map fun j => V (j / e.sz) (j % e.sz), rfl, fun j x hx' => ?_, ⟨by rw [encL_length]; simp, fun j hj' => ?_⟩, fun j hj' => ?_⟩⟩
  ·rw [List.getElem?_map] at hx'
   obtain ⟨j', h1, rfl⟩ := Option.map_eq_some_iff.1 hx'
   obtain ⟨h2, h3⟩ := List.getElem?_eq_some_iff.1 h1
   simp at h2 h3
   subst h3
   have := (hm (j / e.sz) (j % e.sz) (hx j h2).1 (hx j h2).2).2
   rw [Nat.add_assoc, hj] at this
   exact this
  ·rw [encL_length] at hj'
   have h4 := hV _ _ (hx j hj').1 (hx j hj').2
   rw [← encL_getD e l _ _ (hx j hj').1 (hx j hj').2, hj] at h4
   rw [List.getD_eq_getElem?_getD (l := List.map _ _), List.getElem?_map, List.getElem?_range hj']
   exact h4
  ·simp at hj'
   have := (hm (j / e.sz) (j % e.sz) (hx j hj').1 (hx j hj').2).1
   rw [Nat.add_assoc, hj] at this
   exact this
theorem FRel.ofSl {w : World} {S : Nat → Nat → Prop} {g : Nat} {e : El} {l : List e.T} {v : Value} (h : SlR w S g e l v) : FRel w S g (.sl e l) v := by
 obtain ⟨ad, m, rfl, hm, h⟩ := h
 rcases h with rfl | ⟨b, off, vs, rfl, h1, h2, h3⟩
 ·exact .sl0 e ad m
 ·by_cases hn : l = []
  ·subst hn; exact .sl0 e _ m
  ·have hlen := h2.1
   rw [encL_length] at hlen
   refine .sl e l b off m (fun i j => vs.getD (i * e.sz + j) Go.undef) hm (List.length_pos_iff.2 hn) (fun i j hi hj => ?_) fun i j hi hj => ⟨?_, ?_⟩
   ·rw [← encL_getD e l i j hi hj]
    exact h2.2 _ (by rw [encL_length]; exact mul_lt hi hj)
   ·rw [Nat.add_assoc]; exact h3 _ (by rw [← hlen]; exact mul_lt hi hj)
   ·rw [Nat.add_assoc]; exact h1 _ _ (get?_of_lt _ (by rw [← hlen]; exact mul_lt hi hj))
theorem OwnR.cells {k : Nat} {e : El} {l : List e.T} {v : Value} (h : OwnR tid c k e l v) :
  (l = [] ∧ ∃ a, v = .slice a 0 0) ∨ ∃ b m vs, c.κ k = some b ∧ v = .slice (some ⟨b, 0, none⟩) l.length m ∧ l.length ≤ m ∧ CellsAt c.w b 0 vs ∧ CR c.w c.S c.g (encL e l) vs := by
 rcases h with h | ⟨b, vs, h1, h2, h3, h4⟩
 ·exact .inl h
 ·refine .inr ?_
  have hc := h3.cells h2
  rcases h3.2 with ⟨rfl, _⟩ | ⟨g, cap, cur, rfl, _, hh, hn, _⟩
  ·simp [Value.ownBlock] at h2
  ·simp only [Value.ownBlock, Option.some.injEq] at h2
   subst h2
   exact ⟨g, cap, vs, h1, rfl, hn, fun j x hx => by have := hc j x hx; rwa [Addr.add_at] at this, h4⟩
theorem addPt_ok {p q : AV} {pv : Value} {n : Nat} (hp : AR tid c σ p pv) (h : addPt p n = some q) : ∃ ad, pv = .pointer (some ad) ∧ AR tid c σ q (.pointer (some (ad.add n))) := by
 cases p with
 | rdr i =>
  have hp := hp.to_A1 tid (by intro l h; cases h)
  cases hp
  simp only [addPt, Option.some.injEq] at h; subst h
  exact ⟨_, rfl, by rw [Addr.add_at]; exact AR.of_F tid (.rdr _)⟩
 | lbox k i =>
  obtain ⟨rfl, hk⟩ := hp.to_A1 tid (by intro l h; cases h)
  simp only [addPt, Option.some.injEq] at h; subst h
  exact ⟨_, rfl, by rw [Addr.add_at]; exact ⟨rfl, hk⟩⟩
 | cbox y =>
  cases n with
  | zero =>
   simp only [addPt, Option.some.injEq] at h; subst h
   have hp' := hp.to_A1 tid (by intro l h; cases h)
   cases hp' with
   | cbox _ v b hs hc ho hF => exact ⟨_, rfl, by rw [Addr.add_at]; exact hp⟩
  | succ n => simp [addPt] at h
 | spt e x o =>
  simp only [addPt, Option.some.injEq] at h; subst h
  have hp' := hp.to_A1 tid (by intro l h; cases h)
  cases hp' with
  | spt _ _ _ b off V hV hm => exact ⟨_, rfl, by rw [Addr.add_at, Nat.add_assoc]; exact AR.of_F tid (.spt e x (o + n) b off V hV hm)⟩
 | vpt k ver e x o =>
  simp only [addPt, Option.some.injEq] at h; subst h
  obtain ⟨ad, h1, h2, h3⟩ := hp.to_A1 tid (by intro l h; cases h)
  exact ⟨ad, h1, _, rfl, h2, fun hv => by
   obtain ⟨b, off, vs, h4, h5, h6⟩ := h3 hv
   rw [h1] at h5
   simp only [Value.pointer.injEq, Option.some.injEq] at h5
   subst h5
   exact ⟨b, off, vs, h4, by rw [Addr.add_at, Nat.add_assoc], h6⟩⟩
 | opt k ver e x i o =>
  simp only [addPt, Option.some.injEq] at h; subst h
  obtain ⟨ad, h1, h2, h3⟩ := hp.to_A1 tid (by intro l h; cases h)
  exact ⟨ad, h1, _, rfl, h2, fun hv => by
   obtain ⟨b, us, T, h4, h5, h6⟩ := h3 hv
   rw [h1] at h5
   simp only [Value.pointer.injEq, Option.some.injEq] at h5
   subst h5
   exact ⟨b, us, T, h4, by rw [Addr.add_at, Nat.add_assoc], h6⟩⟩
 | _ => simp [addPt] at h
theorem El.eqb_eq {e e' : El} (h : El.eqb e e' = true) : e = e' := by cases e <;> cases e' <;> first | rfl | cases h
structure ElOK (P : Program) (tid : El → Nat) (T : Nat) (e : El) : Prop where
 und : P.underlying T = some (.slice (tid e))
 info : ∃ i z, P.info? (tid e) = some i ∧ i.zero = some z ∧ i.size = e.sz ∧ z.cells.size = e.sz ∧ 0 < i.bytes ∧ i.bytes ≤ 32768
theorem run_indexAt {P : Program} {T : Nat} {e : El} (hE : ElOK P tid T e) {ad : Addr} {n m : Nat} {i : Int} (h0 : 0 ≤ i) (h1 : i < n) (w : World) :
  (Instr.indexAt T (.slice (some ad) n m) (.int .i64 i)).run P w = .ok (.pointer (some (ad.add (i.toNat * e.sz)))) w := by
 obtain ⟨ii, z, h2, h3, h4, _⟩ := hE.info
 simp [Instr.indexAt, asIntOf, run_underlying hE.und, h0, h1, sizeOf, typeInfo, h2, h4]
theorem idx_ok {P : Program} {T : Nat} {E : Option El} (hE : ∀ e, E = some e → ElOK P tid T e) (h : Rel tid B N c σ a w) {x : AV} {v : Value} {i : Int} (hx : AR tid c σ x v) {R : Type} {K : AV → Option R} {r : R} (hK : idxK E σ x i K = some r) :
  ∃ y ad, K y = some r ∧ (Instr.indexAt T v (.int .i64 i)).run P w = .ok (.pointer (some ad)) w ∧ AR tid c σ y (.pointer (some ad)) := by
 have isEl_eq : ∀ {e : El}, isEl E e = true → ElOK P tid T e := by
  intro e he
  unfold isEl at he
  split at he
  ·have := El.eqb_eq he; subst this; exact hE _ rfl
  ·cases he
 cases x with
 | sl e l =>
  simp only [idxK] at hK
  split at hK
  rotate_left
  ·cases hK
  rename_i he
  split at hK
  rotate_left
  ·cases hK
  rename_i h0
  split at hK
  rotate_left
  ·cases hK
  rename_i h1
  have hF : FRel c.w c.S c.g (.sl e l) v := hx.to_A1 tid (by intro l h; cases h)
  obtain ⟨ad, m, rfl, hm, hs⟩ := hF.toSl
  have hi : i.toNat < l.length := by omega
  rcases hs with rfl | ⟨b, off, vs, rfl, h2, h3, h4⟩
  ·simp at hi
  ·refine ⟨_, _, hK, run_indexAt (isEl_eq he) h0 h1 w, ?_⟩
   rw [Addr.add_at]
   have h5 := h3.elem i.toNat hi
   have h6 := (h2.drop (i.toNat * e.sz)).take e.sz
   have hlen := h5.1
   rw [El.enc_length] at hlen
   have hvl := h3.1
   rw [encL_length] at hvl
   refine AR.of_F tid (.spt e _ 0 b (off + i.toNat * e.sz) (fun j => ((vs.drop (i.toNat * e.sz)).take e.sz).getD j Go.undef) (fun j hj => h5.2 j (by rw [El.enc_length]; exact hj)) fun j hj => ⟨?_, ?_⟩)
   ·rw [Nat.add_assoc]; exact h4 _ (by rw [← hvl]; exact mul_lt hi hj)
   ·exact h6 j _ (get?_of_lt _ (by omega))
 | own k ver e l =>
  simp only [idxK] at hK
  split at hK
  rotate_left
  ·cases hK
  rename_i he
  simp only [Bool.and_eq_true] at he
  split at hK
  rotate_left
  ·cases hK
  rename_i h0
  split at hK
  rotate_left
  ·cases hK
  rename_i h1
  obtain ⟨_, hv, hO⟩ := hx.to_A1 tid (by intro l h; cases h)
  have hi : i.toNat < l.length := by omega
  rcases hO (cur_eq he.2) with ⟨rfl, _⟩ | ⟨b, vs, h2, h3, h4, h5⟩
  ·simp at hi
  ·rcases h4.2 with ⟨rfl, _⟩ | ⟨g, cap, cur, rfl, _, hh, hn, hcm, hcs, ht⟩
   ·simp [Value.ownBlock] at h3
   ·simp only [Value.ownBlock, Option.some.injEq] at h3
    subst h3
    have hle : i.toNat * e.sz + e.sz ≤ l.length * e.sz := by rw [← Nat.succ_mul]; exact Nat.mul_le_mul_right _ hi
    have hle2 : l.length * e.sz ≤ cap * e.sz := Nat.mul_le_mul_right _ hn
    refine ⟨_, _, hK, run_indexAt (isEl_eq he.1) h0 h1 w, ?_⟩
    rw [Addr.add_at, Nat.zero_add]
    refine ⟨_, rfl, hv, fun _ => ⟨g, cur.toList, tid e, h2, rfl, by unfold Blk; rw [Array.toArray_toList]; exact hh, by rw [Array.length_toList, hcs]; omega, ?_⟩⟩
    have h6 := h5.elem i.toNat hi
    rw [← ht, List.drop_take, List.take_take, Nat.min_eq_left (by omega)] at h6
    exact h6
 | vw k ver e l =>
  simp only [idxK] at hK
  split at hK
  rotate_left
  ·cases hK
  rename_i he
  simp only [Bool.and_eq_true] at he
  split at hK
  rotate_left
  ·cases hK
  rename_i h0
  split at hK
  rotate_left
  ·cases hK
  rename_i h1
  obtain ⟨hv, hO⟩ := hx.to_A1 tid (by intro l h; cases h)
  have hi : i.toNat < l.length := by omega
  rcases hO (cur_eq he.2) with ⟨rfl, _⟩ | ⟨b, off, m, vs, h2, rfl, hm, h3, h4⟩
  ·simp at hi
  ·refine ⟨_, _, hK, run_indexAt (isEl_eq he.1) h0 h1 w, ?_⟩
   rw [Addr.add_at]
   exact ⟨_, rfl, hv, fun _ => ⟨b, off + i.toNat * e.sz, (vs.drop (i.toNat * e.sz)).take e.sz, h2, rfl, (h3.drop _).take _, h4.elem i.toNat hi⟩⟩
 | _ => simp [idxK] at hK
theorem lst_len (h : Rel tid B N c σ a w) {x : AV} {v : Value} (hx : AR tid c σ x v) {e : El} {l : List e.T} (hr : rows σ x = some ⟨e, l⟩) : ∃ ad m, v = .slice ad l.length m := by
 unfold rows at hr
 split at hr
 ·simp only [Option.some.injEq] at hr
  cases hr
  have hF : FRel c.w c.S c.g (.sl _ _) v := hx.to_A1 tid (by intro l h; cases h)
  obtain ⟨ad, m, rfl, _⟩ := hF.toSl
  exact ⟨ad, m, rfl⟩
 ·split at hr
  ·rename_i he
   simp only [Option.some.injEq] at hr
   cases hr
   obtain ⟨_, hv, hO⟩ := hx.to_A1 tid (by intro l h; cases h)
   rcases (hO (cur_eq he)).cells with ⟨rfl, ad, rfl⟩ | ⟨b, m, vs, h2, rfl, _⟩
   ·exact ⟨ad, 0, rfl⟩
   ·exact ⟨_, m, rfl⟩
  ·cases hr
 ·split at hr
  ·rename_i he
   simp only [Option.some.injEq] at hr
   cases hr
   obtain ⟨hv, hO⟩ := hx.to_A1 tid (by intro l h; cases h)
   rcases hO (cur_eq he) with ⟨rfl, ad, m, rfl⟩ | ⟨b, off, m, vs, h2, rfl, _⟩
   ·exact ⟨ad, m, rfl⟩
   ·exact ⟨_, m, rfl⟩
  ·cases hr
 ·cases hr
theorem run_len {P : Program} {T ty : Nat} {e : El} (hE : ElOK P tid T e) {ad : Option Addr} {n m : Nat} (w : World) : (Builtin.len_ #[T] ty #[.slice ad n m]).run P w = .ok (.int .i64 n) w := by
 simp [Builtin.len_, run_underlying hE.und, goInt]
theorem len_ok {P : Program} {T ty : Nat} {E : Option El} (hE : ∀ e, E = some e → ElOK P tid T e) (h : Rel tid B N c σ a w) {x : AV} {v : Value} (hx : AR tid c σ x v) {R : Type} {K : AV → Option R} {r : R} (hK : lenK E σ x K = some r) :
  ∃ n : Int, K (.int n) = some r ∧ (Builtin.len_ #[T] ty #[v]).run P w = .ok (.int .i64 n) w := by
 unfold lenK at hK
 split at hK
 ·cases hK
 ·rename_i e0
  have hE := hE e0 rfl
  cases x with
  | sl e l =>
   obtain ⟨ad, m, rfl⟩ := lst_len h hx (e := e) (l := l) rfl
   exact ⟨_, hK, run_len hE w⟩
  | nil =>
   have hF : FRel c.w c.S c.g .nil v := hx.to_A1 tid (by intro l h; cases h)
   cases hF
   exact ⟨_, hK, run_len hE w⟩
  | own k ver e l =>
   simp only at hK
   split at hK
   ·rename_i he
    obtain ⟨ad, m, rfl⟩ := lst_len h hx (e := e) (l := l) (by simp [rows, he])
    exact ⟨_, hK, run_len hE w⟩
   ·cases hK
  | vw k ver e l =>
   simp only at hK
   split at hK
   ·rename_i he
    obtain ⟨ad, m, rfl⟩ := lst_len h hx (e := e) (l := l) (by simp [rows, he])
    exact ⟨_, hK, run_len hE w⟩
   ·cases hK
  | _ => simp at hK
def loOf : Option AV → Int | some (.int a) => a | _ => 0
def hiOf (n : Nat) : Option AV → Int | some (.int a) => a | _ => n
def BoundR (c : Cx) : Option AV → Option Value → Prop
 | none, none => True
 | some (.int n), some v => v = .int .i64 n
 | _, _ => False
theorem run_slice {P : Program} {T : Nat} {e : El} (hE : ElOK P tid T e) {ad : Option Addr} {n m : Nat} {lo hi : Option AV} {vl vh : Option Value} (h1 : BoundR c lo vl) (h2 : BoundR c hi vh)
  (h0 : 0 ≤ loOf lo) (h3 : loOf lo ≤ hiOf n hi) (h4 : hiOf n hi ≤ m) (w : World) :
  (Instr.sliceAt T (.slice ad n m) vl vh none).run P w = .ok (.slice (if m = (loOf lo).toNat then ad else ad.map (·.add ((loOf lo).toNat * e.sz))) ((hiOf n hi).toNat - (loOf lo).toNat) (m - (loOf lo).toNat)) w := by
 obtain ⟨ii, z, h5, h6, h7, _⟩ := hE.info
 cases lo with
 | none =>
  cases vl with
  | some v => simp [BoundR] at h1
  | none =>
   cases hi with
   | none =>
    cases vh with
    | some v => simp [BoundR] at h2
    | none => simp [Instr.sliceAt, Instr.slice, Instr.sliceBounds, run_underlying hE.und, sizeOf, typeInfo, h5, h7, loOf, hiOf]
   | some y =>
    cases vh with
    | none => cases y <;> simp [BoundR] at h2
    | some v =>
     cases y <;> simp only [BoundR] at h2
     rename_i q
     subst h2
     simp only [hiOf] at h3 h4 ⊢
     simp only [loOf] at h0 h3 ⊢
     simp [Instr.sliceAt, Instr.slice, Instr.sliceBounds, Instr.sliceBound, asIntOf, run_underlying hE.und, sizeOf, typeInfo, h5, h7, h3, h4]
 | some x =>
  cases vl with
  | none => cases x <;> simp [BoundR] at h1
  | some v =>
   cases x <;> simp only [BoundR] at h1
   rename_i p
   subst h1
   simp only [loOf] at h0 h3 ⊢
   cases hi with
   | none =>
    cases vh with
    | some v => simp [BoundR] at h2
    | none =>
     simp only [hiOf] at h3 h4 ⊢
     simp [Instr.sliceAt, Instr.slice, Instr.sliceBounds, Instr.sliceBound, asIntOf, run_underlying hE.und, sizeOf, typeInfo, h5, h7, h0, h3]
     by_cases hmp : m = p.toNat <;> simp [hmp]
   | some y =>
    cases vh with
    | none => cases y <;> simp [BoundR] at h2
    | some v =>
     cases y <;> simp only [BoundR] at h2
     rename_i q
     subst h2
     simp only [hiOf] at h3 h4 ⊢
     obtain ⟨q, rfl⟩ := Int.eq_ofNat_of_zero_le (show 0 ≤ q by omega)
     have h8 : q ≤ m := by omega
     have h9 : p ≤ (q : Int) := h3
     simp [Instr.sliceAt, Instr.slice, Instr.sliceBounds, Instr.sliceBound, asIntOf, run_underlying hE.und, sizeOf, typeInfo, h5, h7, h0, h8, h4, h9]
     by_cases hmp : m = p.toNat <;> simp [hmp]
theorem piece_len {α : Type} (l : List α) (p q : Nat) (h : q ≤ l.length) : ((l.take q).drop p).length = q - p := by simp; omega
theorem slice_ok {P : Program} {T : Nat} {E : Option El} (hE : ∀ e, E = some e → ElOK P tid T e) (h : Rel tid B N c σ a w) {x : AV} {v : Value} {lo hi : Option AV} {vl vh : Option Value} (hx : AR tid c σ x v) (h1 : BoundR c lo vl) (h2 : BoundR c hi vh) {R : Type} {K : AV → Option R} {r : R} (hK : sliceK E σ x lo hi K = some r) :
  ∃ y u, K y = some r ∧ (Instr.sliceAt T v vl vh none).run P w = .ok u w ∧ AR tid c σ y u := by
 have isEl_eq : ∀ {e : El}, isEl E e = true → ElOK P tid T e := by
  intro e he
  unfold isEl at he
  split at he
  ·have := El.eqb_eq he; subst this; exact hE _ rfl
  ·cases he
 -- what is to be shown of a piece
 have stay : ∀ (e : El) (l : List e.T) (v : Value) (q p : Int), isEl E e = true → AR tid c σ (.sl e l) v → loOf lo = p → hiOf l.length hi = q → 0 ≤ p → p ≤ q → q ≤ l.length →
   ∃ u, (Instr.sliceAt T v vl vh none).run P w = .ok u w ∧ AR tid c σ (.sl e ((l.take q.toNat).drop p.toNat)) u := by
  intro e l v q p he hx hp hq h3 h4 h5
  have hF : FRel c.w c.S c.g (.sl e l) v := hx.to_A1 tid (by intro l h; cases h)
  obtain ⟨ad, m, rfl, hm, hs⟩ := hF.toSl
  have hr := run_slice (isEl_eq he) (ad := ad) (n := l.length) (m := m) h1 h2 (by omega) (by omega) (by omega) w
  rw [hp, hq] at hr
  refine ⟨_, hr, AR.of_F tid (.ofSl ⟨_, m - p.toNat, by rw [piece_len _ _ _ (by omega)], by rw [piece_len _ _ _ (by omega)]; omega, ?_⟩)⟩
  rcases hs with rfl | ⟨b, off, vs, rfl, h6, h7, h8⟩
  ·simp
  ·by_cases hmp : m = p.toNat
   ·refine .inl (List.eq_nil_of_length_eq_zero ?_)
    rw [piece_len _ _ _ (by omega)]; omega
   ·refine .inr ⟨b, off + p.toNat * e.sz, (vs.take (q.toNat * e.sz)).drop (p.toNat * e.sz), by rw [if_neg hmp]; simp [Addr.add_at], (h6.take _).drop _, ?_, fun j hj => ?_⟩
    ·rw [encL_drop, encL_take]; exact (h7.take _).drop _
    ·simp at hj
     rw [Nat.add_assoc]; exact h8 _ (by omega)
 have view : ∀ (k ver : Nat) (e : El) (l : List e.T) (v : Value) (q p : Int), (isEl E e && σ.cur k ver) = true → AR tid c σ (.own k ver e l) v → loOf lo = p → hiOf l.length hi = q → 0 ≤ p → p ≤ q → q ≤ l.length →
   ∃ u, (Instr.sliceAt T v vl vh none).run P w = .ok u w ∧ AR tid c σ (.vw k ver e ((l.take q.toNat).drop p.toNat)) u := by
  intro k ver e l v q p he hx hp hq h3 h4 h5
  simp only [Bool.and_eq_true] at he
  obtain ⟨_, hv, hO⟩ := hx.to_A1 tid (by intro l h; cases h)
  have hlen := piece_len l p.toNat q.toNat (by omega)
  rcases (hO (cur_eq he.2)).cells with ⟨rfl, ad, rfl⟩ | ⟨b, m, vs, h6, rfl, hm, h7, h8⟩
  ·have hq0 : hiOf 0 hi = q := hq
   have h50 : q ≤ 0 := h5
   have hr := run_slice (isEl_eq he.1) (ad := ad) (n := 0) (m := 0) h1 h2 (by omega) (by omega) (by omega) w
   exact ⟨_, hr, hv, fun _ => .inl ⟨by simp, _, _, by
    have e1 : (loOf lo).toNat = 0 := by omega
    have e2 : (hiOf 0 hi).toNat = 0 := by omega
    rw [e1, e2]⟩⟩
  ·have hr := run_slice (isEl_eq he.1) (ad := some ⟨b, 0, none⟩) (n := l.length) (m := m) h1 h2 (by omega) (by omega) (by omega) w
   rw [hp, hq] at hr
   refine ⟨_, hr, hv, fun _ => ?_⟩
   by_cases hmp : m = p.toNat
   ·exact .inl ⟨List.eq_nil_of_length_eq_zero (by rw [hlen]; omega), _, _, by rw [show q.toNat - p.toNat = 0 by omega]⟩
   ·refine .inr ⟨b, 0 + p.toNat * e.sz, m - p.toNat, (vs.take (q.toNat * e.sz)).drop (p.toNat * e.sz), h6, by rw [hlen, if_neg hmp]; simp [Addr.add_at], by omega, (h7.take _).drop _, ?_⟩
    rw [encL_drop, encL_take]; exact (h8.take _).drop _
 cases x with
 | sl e l =>
  simp only [sliceK] at hK
  split at hK
  rotate_left
  ·cases hK
  rename_i he
  split at hK
  ·split at hK
   rotate_left
   ·cases hK
   split at hK
   rotate_left
   ·cases hK
   obtain ⟨u, h3, h4⟩ := stay e l v _ 0 he hx rfl rfl (by omega) ‹_› ‹_›
   exact ⟨_, u, hK, h3, by simpa [hiOf] using h4⟩
  ·split at hK
   rotate_left
   ·cases hK
   split at hK
   rotate_left
   ·cases hK
   obtain ⟨u, h3, h4⟩ := stay e l v l.length _ he hx rfl rfl ‹_› ‹_› (by omega)
   exact ⟨_, u, hK, h3, by simpa [loOf] using h4⟩
  ·split at hK
   rotate_left
   ·cases hK
   split at hK
   rotate_left
   ·cases hK
   split at hK
   rotate_left
   ·cases hK
   split at hK
   rotate_left
   ·cases hK
   obtain ⟨u, h3, h4⟩ := stay e l v _ _ he hx rfl rfl ‹_› ‹_› ‹_›
   exact ⟨_, u, hK, h3, by simpa [loOf, hiOf] using h4⟩
  ·cases hK
 | own k ver e l =>
  simp only [sliceK] at hK
  split at hK
  rotate_left
  ·cases hK
  rename_i he
  split at hK
  ·rename_i q
   split at hK
   rotate_left
   ·cases hK
   rename_i h3
   split at hK
   rotate_left
   ·cases hK
   rename_i h4
   simp only [Bool.and_eq_true] at he
   obtain ⟨_, hv, hO⟩ := hx.to_A1 tid (by intro l h; cases h)
   have hO := hO (cur_eq he.2)
   rcases hO with ⟨rfl, ad, rfl⟩ | ⟨b, vs, h6, h7, h8, h9⟩
   ·have hr := run_slice (isEl_eq he.1) (ad := ad) (n := 0) (m := 0) h1 h2 (by simp [loOf]) (by simp [loOf, hiOf]; omega) (by simp [hiOf]; simpa using h4) w
    have hq : q = 0 := by simp at h4; omega
    subst hq
    simp only [loOf, hiOf] at hr
    exact ⟨_, _, hK, by simpa using hr, ⟨_, _, _, rfl⟩, hv, fun _ => .inl ⟨by simp, _, rfl⟩⟩
   ·rcases h8.2 with ⟨rfl, _⟩ | ⟨g, cap, cur, rfl, hg, hh, hn, hcm, hcs, ht⟩
    ·simp [Value.ownBlock] at h7
    ·have hr := run_slice (isEl_eq he.1) (ad := some ⟨g, 0, none⟩) (n := l.length) (m := cap) h1 h2 (by simp [loOf]) (by simpa [loOf, hiOf] using h3) (by simp only [hiOf]; omega) w
     simp only [loOf, hiOf, Int.toNat_zero, Nat.sub_zero, Nat.zero_mul] at hr
     have hlt : (l.take q.toNat).length = q.toNat := by simp; omega
     refine ⟨_, _, hK, hr, ⟨_, _, _, rfl⟩, hv, fun _ => .inr ⟨b, vs.take (q.toNat * e.sz), h6, ?_, ⟨?_, .inr ⟨g, cap, cur, ?_, hg, hh, by rw [hlt]; omega, hcm, hcs, ?_⟩⟩, ?_⟩⟩
     ·rw [← h7]; split <;> simp [Value.ownBlock, Addr.add_at]
     ·rw [hlt, List.length_take, h8.1]
      exact Nat.min_eq_left (Nat.mul_le_mul_right _ (by omega))
     ·rw [hlt]; split <;> simp [Addr.add_at]
     ·rw [hlt, ← ht, List.take_take, Nat.min_eq_left (Nat.mul_le_mul_right _ (by omega))]
     ·rw [encL_take]; exact h9.take _
  ·split at hK
   rotate_left
   ·cases hK
   split at hK
   rotate_left
   ·cases hK
   obtain ⟨u, h3, h4⟩ := view k ver e l v l.length _ he hx rfl rfl ‹_› ‹_› (by omega)
   exact ⟨_, u, hK, h3, by simpa [loOf] using h4⟩
  ·split at hK
   rotate_left
   ·cases hK
   split at hK
   rotate_left
   ·cases hK
   split at hK
   rotate_left
   ·cases hK
   split at hK
   rotate_left
   ·cases hK
   obtain ⟨u, h3, h4⟩ := view k ver e l v _ _ he hx rfl rfl ‹_› ‹_› ‹_›
   exact ⟨_, u, hK, h3, by simpa [loOf, hiOf] using h4⟩
  ·cases hK
 | _ => simp [sliceK] at hK
end
end Go.AI
namespace Go.AI
section
variable {tid : El → Nat} {c c' : Cx} {σ σ' : St} {B : Base} {N : Nat} {a : Act} {w : World}
theorem Step.trans {c'' : Cx} {σ'' : St} (h : Step c σ c' σ') (k : Step c' σ' c'' σ'') : Step c σ c'' σ'' := by
 refine ⟨k.g.trans h.g, fun b o x hs hx => k.cells b o x (h.S b o hs) (h.cells b o x hs hx), fun b o hs => k.S b o (h.S b o hs), Nat.le_trans h.cc k.cc, fun i hi => ?_, fun i => ?_⟩
 ·have h1 := h.box i hi; have h2 := k.box i h1.1; exact ⟨h2.1, h2.2.trans h1.2⟩
 ·rcases k.key i with ⟨k1, k2, k3⟩ | k1
  ·rcases h.key i with ⟨h1, h2, h3⟩ | h1
   ·exact .inl ⟨k1.trans h1, k2.trans h2, fun b hb => (k3 b (by rw [h2]; exact hb)).trans (h3 b hb)⟩
   ·exact .inr (by rw [k1]; exact h1)
  ·exact .inr (by have := h.cc; omega)
theorem Step.refl (c : Cx) (σ : St) : Step c σ c σ := .same rfl rfl rfl
def Cx.frz (c : Cx) (k : Nat) : Cx := { c with S := fun b o => c.S b o ∨ c.κ k = some b }
theorem Rel.frz (h : Rel tid B N c σ a w) (k : Nat) : Rel tid B N (c.frz k) { σ with fr := k :: σ.fr } a w ∧ Step c σ (c.frz k) { σ with fr := k :: σ.fr } := by
 have st : Step c σ (c.frz k) { σ with fr := k :: σ.fr } := ⟨rfl, fun _ _ _ _ h => h, fun _ _ h => .inl h, Nat.le_refl _, fun _ h => ⟨h, rfl⟩, fun _ => .inl ⟨rfl, rfl, fun _ _ => rfl⟩⟩
 have hk : ∀ b, c.κ k = some b → (B.mine b ∨ B.S0 b 0) ∧ b < w.heap.size ∧ (σ.s ≠ [] → b ≠ c.g) ∧ (∀ j, getB σ.b j ≠ [] → b ≠ c.β j) ∧ (∀ o, B.S0 b o ∨ B.mine b) := by
  intro b hb
  by_cases hf : k ∈ σ.fr
  ·have hs := h.fz k b hf hb
   refine ⟨(h.old b 0 (hs 0)).symm, h.stsz b 0 (hs 0), fun hne e => (h.gg hne).2 0 (by rw [← e]; exact hs 0), fun j hj e => (h.box j hj).2.1 0 (by rw [← e]; exact hs 0), fun o => h.old b o (hs o)⟩
  ·have := h.own k b hf hb
   exact ⟨.inl this.1, this.2.1, this.2.2.2.1, this.2.2.2.2, fun o => .inr this.1⟩
 refine ⟨{ hw := h.hw, ds := h.ds, n := h.n, t := fun i => (h.t i).step st, b := fun i hi => (h.b i hi).step st rfl, s := fun hs => (h.s hs).step st rfl, ver := h.ver, fz := fun i b hi hb o => ?_, own := fun i b hi hb => ?_, inj := fun i j b hi hj => ?_, box := fun i hi => ?_, gg := fun hs => ?_, old := fun b o hs => ?_, grow := fun b o hs => .inl (h.grow b o hs), stsz := fun b o hs => ?_, keep := h.keep }, st⟩
 ·rcases List.mem_cons.1 hi with rfl | hi
  ·exact .inr hb
  ·exact .inl (h.fz i b hi hb o)
 ·have hi' : i ≠ k ∧ i ∉ σ.fr := by simpa using hi
  have r := h.own i b hi'.2 hb
  refine ⟨r.1, r.2.1, fun o hs => ?_, r.2.2.2⟩
  rcases hs with hs | hs
  ·exact r.2.2.1 o hs
  ·by_cases hf : k ∈ σ.fr
   ·exact r.2.2.1 o (h.fz k b hf hs o)
   ·exact hi'.1 (h.inj i k b hi'.2 hf hb hs)
 ·have hi' : i ≠ k ∧ i ∉ σ.fr := by simpa using hi
  have hj' : j ≠ k ∧ j ∉ σ.fr := by simpa using hj
  exact h.inj i j b hi'.2 hj'.2
 ·have r := h.box i hi
  refine ⟨r.1, fun o hs => ?_, r.2.2⟩
  rcases hs with hs | hs
  ·exact r.2.1 o hs
  ·exact (hk _ hs).2.2.2.1 i hi rfl
 ·have r := h.gg hs
  refine ⟨r.1, fun o hs' => ?_⟩
  rcases hs' with hs' | hs'
  ·exact r.2 o hs'
  ·exact (hk _ hs').2.2.1 hs rfl
 ·rcases hs with hs | hs
  ·exact h.old b o hs
  ·exact (hk b hs).2.2.2.2 o
 ·rcases hs with hs | hs
  ·exact h.stsz b o hs
  ·exact (hk b hs).2.1
theorem freeze1_ok (h : Rel tid B N c σ a w) {x y : AV} {v : Value} (hx : A1 tid c σ x v) (hf : freeze1 σ x = some (y, σ')) :
  ∃ c', Step c σ c' σ' ∧ Rel tid B N c' σ' a w ∧ FRel c'.w c'.S c'.g y v ∧ y.fz1 = true ∧ (x.cell = true → y.one = true) := by
 unfold freeze1 at hf
 split at hf
 ·rename_i k ver e l
  split at hf
  ·rename_i hcur hk
   simp only [Option.some.injEq, Prod.mk.injEq] at hf
   obtain ⟨rfl, rfl⟩ := hf
   obtain ⟨h1, h2⟩ := h.frz k
   obtain ⟨_, hv, hO⟩ := hx
   have hO := hO (cur_eq hcur)
   refine ⟨_, h2, h1, FRel.ofSl ?_, rfl, fun _ => rfl⟩
   rcases hO.cells with ⟨rfl, ad, rfl⟩ | ⟨b, m, vs, h3, rfl, hm, h4, h5⟩
   ·exact ⟨ad, 0, rfl, Nat.le_refl _, .inl rfl⟩
   ·exact ⟨_, m, rfl, hm, .inr ⟨b, 0, vs, rfl, h4, h5.step h2, fun j hj => .inr h3⟩⟩
  ·cases hf
 ·split at hf
  ·rename_i hfz
   simp only [Option.some.injEq, Prod.mk.injEq] at hf
   obtain ⟨rfl, rfl⟩ := hf
   refine ⟨c, .refl c σ, h, hx.to_F tid hfz, hfz, fun hc => ?_⟩
   cases x <;> first | rfl | (simp [AV.cell, AV.one] at hc; done) | (simp [AV.one, AV.fz1] at hfz; done)
  ·cases hf
theorem freezeL_ok {l : List AV} : ∀ {c : Cx} {σ : St} {vs : List Value} {l' : List AV} {σ' : St}, Rel tid B N c σ a w → l.length = vs.length → (∀ i, i < l.length → A1 tid c σ (l.getD i .undef) (vs.getD i Go.undef)) → freezeL l σ = some (l', σ') →
  ∃ c', Step c σ c' σ' ∧ Rel tid B N c' σ' a w ∧ CR c'.w c'.S c'.g l' vs ∧ l'.all AV.one = true := by
 induction l with
 | nil =>
  intro c σ vs l' σ' h hl hA hf
  simp only [freezeL, Option.some.injEq, Prod.mk.injEq] at hf
  obtain ⟨rfl, rfl⟩ := hf
  have : vs = [] := List.eq_nil_of_length_eq_zero (by simpa using hl.symm)
  subst this
  exact ⟨c, .refl c σ, h, .nil _ _ _, rfl⟩
 | cons x l ih =>
  intro c σ vs l' σ' h hl hA hf
  cases vs with
  | nil => simp at hl
  | cons v vs =>
   simp only [freezeL] at hf
   split at hf
   rotate_left
   ·cases hf
   rename_i y σ1 h1
   split at hf
   rotate_left
   ·cases hf
   rename_i r' σ2 h2
   simp only [Option.some.injEq, Prod.mk.injEq] at hf
   obtain ⟨rfl, rfl⟩ := hf
   unfold freezeC at h1
   split at h1
   rotate_left
   ·cases h1
   rename_i hcell
   have hx : A1 tid c σ x v := by simpa using hA 0 (by simp)
   obtain ⟨c1, s1, R1, F1, _, o1⟩ := freeze1_ok h hx h1
   obtain ⟨c2, s2, R2, C2, o2⟩ := ih R1 (by simpa using hl) (fun i hi => (by
    have := hA (i + 1) (by simp; omega)
    simp only [List.getD_cons_succ] at this
    exact this.step s1)) h2
   refine ⟨c2, s1.trans s2, R2, ⟨by simp [C2.1], fun i hi => ?_⟩, by simp [o1 hcell]; simpa using o2⟩
   cases i with
   | zero => simpa using F1.step s2
   | succ i => simpa using C2.2 i (by simpa using hi)
theorem freeze_ok (h : Rel tid B N c σ a w) {x y : AV} {v : Value} (hx : AR tid c σ x v) (hf : freeze σ x = some (y, σ')) :
  ∃ c', Step c σ c' σ' ∧ Rel tid B N c' σ' a w ∧ FRel c'.w c'.S c'.g y v := by
 cases x with
 | agg l =>
  simp only [freeze] at hf
  split at hf
  rotate_left
  ·cases hf
  rename_i l' σ1 h1
  simp only [Option.some.injEq, Prod.mk.injEq] at hf
  obtain ⟨rfl, rfl⟩ := hf
  obtain ⟨vs, rfl, hl, hA⟩ := hx
  obtain ⟨c1, s1, R1, C1, o1⟩ := freezeL_ok h hl hA h1
  exact ⟨c1, s1, R1, .agg _ _ C1.1 o1 C1.2⟩
 | _ =>
  obtain ⟨c1, s1, R1, F1, _⟩ := freeze1_ok h (hx.to_A1 tid (by intro l h; cases h)) hf
  exact ⟨c1, s1, R1, F1⟩
theorem freezeAll_ok {l : List AV} : ∀ {c : Cx} {σ : St} {vs : List Value} {l' : List AV} {σ' : St}, Rel tid B N c σ a w → l.length = vs.length → (∀ i, i < l.length → AR tid c σ (l.getD i .undef) (vs.getD i Go.undef)) → freezeAll l σ = some (l', σ') →
  ∃ c', Step c σ c' σ' ∧ Rel tid B N c' σ' a w ∧ CR c'.w c'.S c'.g l' vs := by
 induction l with
 | nil =>
  intro c σ vs l' σ' h hl hA hf
  simp only [freezeAll, Option.some.injEq, Prod.mk.injEq] at hf
  obtain ⟨rfl, rfl⟩ := hf
  have : vs = [] := List.eq_nil_of_length_eq_zero (by simpa using hl.symm)
  subst this
  exact ⟨c, .refl c σ, h, .nil _ _ _⟩
 | cons x l ih =>
  intro c σ vs l' σ' h hl hA hf
  cases vs with
  | nil => simp at hl
  | cons v vs =>
   simp only [freezeAll] at hf
   split at hf
   rotate_left
   ·cases hf
   rename_i y σ1 h1
   split at hf
   rotate_left
   ·cases hf
   rename_i r' σ2 h2
   simp only [Option.some.injEq, Prod.mk.injEq] at hf
   obtain ⟨rfl, rfl⟩ := hf
   have hx : AR tid c σ x v := by simpa using hA 0 (by simp)
   obtain ⟨c1, s1, R1, F1⟩ := freeze_ok h hx h1
   obtain ⟨c2, s2, R2, C2⟩ := ih R1 (by simpa using hl) (fun i hi => (by
    have := hA (i + 1) (by simp; omega)
    simp only [List.getD_cons_succ] at this
    exact this.step s1)) h2
   refine ⟨c2, s1.trans s2, R2, ⟨by simp [C2.1], fun i hi => ?_⟩⟩
   cases i with
   | zero => simpa using F1.step s2
   | succ i => simpa using C2.2 i (by simpa using hi)
theorem rows_ok (h : Rel tid B N c σ a w) {x : AV} {v : Value} (hx : AR tid c σ x v) {e : El} {l : List e.T} (hr : rows σ x = some ⟨e, l⟩) :
  ∃ ad m, v = .slice ad l.length m ∧ (l = [] ∨ ∃ b off vs, ad = some ⟨b, off, none⟩ ∧ CellsAt w b off vs ∧ CR c.w c.S c.g (encL e l) vs) := by
 have hw := h.hw
 unfold rows at hr
 split at hr
 ·simp only [Option.some.injEq] at hr
  cases hr
  have hF : FRel c.w c.S c.g (.sl _ _) v := hx.to_A1 tid (by intro l h; cases h)
  obtain ⟨ad, m, rfl, _, hs⟩ := hF.toSl
  rcases hs with rfl | ⟨b, off, vs, rfl, h1, h2, _⟩
  ·exact ⟨ad, m, rfl, .inl rfl⟩
  ·exact ⟨_, m, rfl, .inr ⟨b, off, vs, rfl, by rw [← hw]; exact h1, h2⟩⟩
 ·split at hr
  ·rename_i he
   simp only [Option.some.injEq] at hr
   cases hr
   obtain ⟨_, hv, hO⟩ := hx.to_A1 tid (by intro l h; cases h)
   rcases (hO (cur_eq he)).cells with ⟨rfl, ad, rfl⟩ | ⟨b, m, vs, h2, rfl, hm, h3, h4⟩
   ·exact ⟨ad, 0, rfl, .inl rfl⟩
   ·exact ⟨_, m, rfl, .inr ⟨b, 0, vs, rfl, by rw [← hw]; exact h3, h4⟩⟩
  ·cases hr
 ·split at hr
  ·rename_i he
   simp only [Option.some.injEq] at hr
   cases hr
   obtain ⟨hv, hO⟩ := hx.to_A1 tid (by intro l h; cases h)
   rcases hO (cur_eq he) with ⟨rfl, ad, m, rfl⟩ | ⟨b, off, m, vs, h2, rfl, hm, h3, h4⟩
   ·exact ⟨ad, m, rfl, .inl rfl⟩
   ·exact ⟨_, m, rfl, .inr ⟨b, off, vs, rfl, by rw [← hw]; exact h3, h4⟩⟩
  ·cases hr
 ·cases hr
theorem CR.ones {w : World} {S : Nat → Nat → Prop} {g : Nat} {l : List AV} {vs : List Value} (h : CR w S g l vs) (ho : l.all AV.one = true) : ∀ u ∈ vs, u.oneCell' = true := by
 intro u hu
 obtain ⟨i, hi⟩ := List.mem_iff_getElem?.1 hu
 have hi' := (List.getElem?_eq_some_iff.1 hi).1
 have := (h.2 i (by rw [h.1]; exact hi')).oneCell (one_of_all ho i (by rw [h.1]; exact hi'))
 rwa [getD_of_get? hi] at this
theorem encL_one (e : El) (l : List e.T) : (encL e l).all AV.one = true := by
 induction l with
 | nil => rfl
 | cons x l ih => simp only [encL, List.flatMap_cons, List.all_append, Bool.and_eq_true]; exact ⟨El.enc_one e x, ih⟩
theorem run_append_m0 {P : Program} {T ty : Nat} {e : El} (hE : ElOK P tid T e) {ad y : Option Addr} {n m k : Nat} (hnm : n ≤ m) (w : World) :
  (Builtin.append_ #[T, T] ty #[.slice ad n m, .slice y 0 k]).run P w = .ok (.slice ad n m) w := by
 obtain ⟨ii, z, h2, h3, h4, _⟩ := hE.info
 cases ad <;> cases y <;> simp [Builtin.append_, run_underlying hE.und, sizeOf, typeInfo, h2, h4, Builtin.lenOf, Builtin.firstCells, hnm, loadCells, loadCellsFrom, storeCells]
theorem run_append_zero {P : Program} {T ty : Nat} {e : El} (hE : ElOK P tid T e) {ad : Option Addr} {b off m k : Nat} {news : List Value} (hl : news.length = m * e.sz) (hc : CellsAt w b off news) (h0 : 0 < m) (hm : m < 4294967296) :
  ∃ v' w', (Builtin.append_ #[T, T] ty #[.slice ad 0 0, .slice (some ⟨b, off, none⟩) m k]).run P w = .ok v' w' ∧ w'.ownsRow 0 (tid e) e.sz v' m news ∧ w.grownBy w' none ∧ v'.ownBlock = some w.heap.size := by
 obtain ⟨ii, z, h2, h3, h4, h5, h6, h7⟩ := hE.info
 have hb : m * ii.bytes ≤ 140737488355328 := Nat.le_trans (Nat.mul_le_mul_left _ h7) (by omega)
 have hnews : ∀ j v, news[j]? = some v → w.cell? ((⟨b, off, none⟩ : Addr).add j) = some v := fun j v hv => by rw [Addr.add_at]; exact hc j v hv
 have hl' : news.length = m * ii.size := by rw [h4]; exact hl
 have grown : ∀ (old : Nat), old < m → (w.drew.alloc (.cells (news.toArray ++ Builtin.zeroCells z.cells (grownCap w m old (tid e) - m)) (tid e))).ownsRow 0 (tid e) e.sz (.slice (some ⟨w.heap.size, 0, none⟩) m (grownCap w m old (tid e))) m news ∧
   w.grownBy (w.drew.alloc (.cells (news.toArray ++ Builtin.zeroCells z.cells (grownCap w m old (tid e) - m)) (tid e))) none := by
  intro old ho
  have hge := grownCap_ge w m old (tid e)
  have hcm : grownCap w m old (tid e) ≤ maxLen := grownCap_le_maxLen w m old (tid e) (by simp only [maxLen]; omega)
  refine ⟨⟨hl, .inr ⟨w.heap.size, _, _, rfl, Nat.zero_le _, heap_alloc_new w.drew _, hge, hcm, ?_, ?_⟩⟩, ⟨rfl, rfl, rfl, by simp, fun k hk _ => heap_alloc_old w.drew _ k hk⟩⟩
  ·simp only [Array.size_append, List.size_toArray, size_zeroCells, h5, hl, ← Nat.add_mul]
   congr 1
   omega
  ·simp only [Array.toList_append]
   rw [← hl]
   exact List.take_left
 cases ad with
 | none =>
  have hr := run_append_nil (P := P) w T ty (tid e) ii z hE.und h2 h3 ⟨b, off, none⟩ m k news hl' hnews h0 (by omega) (by omega)
  exact ⟨_, _, hr, (grown 0 h0).1, (grown 0 h0).2, rfl⟩
 | some ad =>
  have hr := run_append_grow (P := P) w T ty (tid e) ii z hE.und h2 h3 ad 0 0 [] (by simp) (by simp) ⟨b, off, none⟩ m k news hl' hnews (by omega) (by omega) (growslice_fits (by omega) (by simpa using hb))
  simp only [Nat.zero_add, Array.empty_append] at hr
  exact ⟨_, _, hr, (grown 0 h0).1, (grown 0 h0).2, rfl⟩
theorem Rel.grown (h : Rel tid B N c σ a w) {k b' : Nat} {w' : World} {row : Option Nat} (hg : w.grownBy w' row) (hrow : ∀ r, row = some r → c.κ k = some r ∧ k ∉ σ.fr) (hb : (c.κ k = some b' ∧ k ∉ σ.fr) ∨ b' = w.heap.size) (hlt : b' < w'.heap.size)
  (hsb : σ'.b = σ.b) (hst : σ'.t = σ.t) (hss : σ'.s = σ.s) (hv : ∀ i, i ≠ k → getV σ'.v i = getV σ.v i) (hk : getV σ'.v k = σ.c + 1) (hc : σ'.c = σ.c + 1) (hfr : ∀ i, i ∈ σ'.fr ↔ i ∈ σ.fr ∧ i ≠ k) :
  Rel tid B N { c with w := w', κ := fun i => if i = k then some b' else c.κ i } σ' a w' ∧ Step c σ { c with w := w', κ := fun i => if i = k then some b' else c.κ i } σ' := by
 have hw := h.hw
 have hblk : ∀ b, b < w.heap.size → (∀ r, row = some r → b ≠ r) → w'.heap[b]? = w.heap[b]? := fun b h1 h2 => hg.block b h1 (fun e => h2 b e.symm rfl)
 have hrS : ∀ r o, row = some r → ¬ c.S r o := fun r o hr => (h.own k r (hrow r hr).2 (hrow r hr).1).2.2.1 o
 have hSb : ∀ b o, c.S b o → w'.heap[b]? = w.heap[b]? := fun b o hs => hblk b (h.stsz b o hs) (fun r hr e => hrS r o hr (by rw [← e]; exact hs))
 have hκ : ∀ i b, i ≠ k → c.κ i = some b → w'.heap[b]? = w.heap[b]? := by
  intro i b hi hb'
  by_cases hf : i ∈ σ.fr
  ·exact hSb b 0 (h.fz i b hf hb' 0)
  ·exact hblk b (h.own i b hf hb').2.1 (fun r hr e => hi (h.inj i k r hf (hrow r hr).2 (by rw [← e]; exact hb') (hrow r hr).1))
 have st : Step c σ { c with w := w', κ := fun i => if i = k then some b' else c.κ i } σ' := by
  refine ⟨rfl, fun b o x hs hx => ?_, fun _ _ h => h, by omega, fun i hi => ⟨by rw [hsb]; exact hi, rfl⟩, fun i => ?_⟩
  ·rw [hw] at hx
   exact (World.cell?_of_block (w := w) (a := ⟨b, o, none⟩) (hSb b o hs)).trans hx
  ·by_cases hi : i = k
   ·subst hi; exact .inr (by rw [hk]; omega)
   ·refine .inl ⟨hv i hi, if_neg hi, fun b hb' => ?_⟩
    rw [hw]; exact hκ i b hi hb'
 have hbx : ∀ j, getB σ.b j ≠ [] → w'.heap[c.β j]? = w.heap[c.β j]? := fun j hj => hblk _ (by have := (h.b j hj).lt; rwa [hw] at this) (fun r hr e => (h.own k r (hrow r hr).2 (hrow r hr).1).2.2.2.2 j hj e.symm)
 have hgx : σ.s ≠ [] → w'.heap[c.g]? = w.heap[c.g]? := fun hs => hblk _ (by have := (h.s hs).lt; rwa [hw] at this) (fun r hr e => (h.own k r (hrow r hr).2 (hrow r hr).1).2.2.2.1 hs e.symm)
 have hnew : B.mine b' ∧ (∀ o, ¬ c.S b' o) ∧ (σ.s ≠ [] → b' ≠ c.g) ∧ (∀ j, getB σ.b j ≠ [] → b' ≠ c.β j) ∧ (∀ i, i ∉ σ.fr → i ≠ k → c.κ i ≠ some b') := by
  rcases hb with ⟨h1, h2⟩ | h1
  ·have := h.own k b' h2 h1
   exact ⟨this.1, this.2.2.1, this.2.2.2.1, this.2.2.2.2, fun i hi hik e => hik (h.inj i k b' hi h2 e h1)⟩
  ·subst h1
   refine ⟨.inr h.keep.size, fun o hs => by have := h.stsz _ _ hs; omega, fun hs e => ?_, fun j hj e => ?_, fun i hi _ e => by have := (h.own i _ hi e).2.1; omega⟩
   ·have := (h.s hs).lt; rw [hw, ← e] at this; omega
   ·have := (h.b j hj).lt; rw [hw, ← e] at this; omega
 refine ⟨{ hw := rfl, ds := h.ds, n := h.n, t := fun i => by rw [hst]; exact (h.t i).step st, b := fun i hi => ?_, s := fun hs => ?_, ver := fun i => ?_, fz := fun i b hi hb' o => ?_, own := fun i b hi hb' => ?_, inj := fun i j b hi hj h1 h2 => ?_, box := fun i hi => ?_, gg := fun hs => h.gg (by rw [← hss]; exact hs), old := h.old, grow := h.grow, stsz := fun b o hs => by have := h.stsz b o hs; have := hg.size; omega, keep := ?_ }, st⟩
 ·rw [hsb] at hi ⊢
  exact (h.b i hi).step st (by rw [hw]; exact hbx i hi)
 ·rw [hss] at hs ⊢
  exact (h.s hs).step st (by rw [hw]; exact hgx hs)
 ·by_cases hi : i = k
  ·subst hi; rw [hk, hc]; exact Nat.le_refl _
  ·rw [hv i hi, hc]; have := h.ver i; omega
 ·have hi := (hfr i).1 hi
  simp only [if_neg hi.2] at hb'
  exact h.fz i b hi.1 hb' o
 ·by_cases hik : i = k
  ·subst hik
   simp only [if_true, Option.some.injEq] at hb'
   subst hb'
   exact ⟨hnew.1, hlt, hnew.2.1, fun hs => hnew.2.2.1 (by rw [← hss]; exact hs), fun j hj => hnew.2.2.2.1 j (by rw [← hsb]; exact hj)⟩
  ·simp only [if_neg hik] at hb'
   have hi' : i ∉ σ.fr := fun hf => hi ((hfr i).2 ⟨hf, hik⟩)
   have r := h.own i b hi' hb'
   exact ⟨r.1, by have := r.2.1; have := hg.size; omega, r.2.2.1, fun hs => r.2.2.2.1 (by rw [← hss]; exact hs), fun j hj => r.2.2.2.2 j (by rw [← hsb]; exact hj)⟩
 ·by_cases hik : i = k <;> by_cases hjk : j = k
  ·rw [hik, hjk]
  ·subst hik
   simp only [if_true, Option.some.injEq] at h1
   simp only [if_neg hjk] at h2
   subst h1
   exact absurd h2 (hnew.2.2.2.2 j (fun hf => hj ((hfr j).2 ⟨hf, hjk⟩)) hjk)
  ·subst hjk
   simp only [if_true, Option.some.injEq] at h2
   simp only [if_neg hik] at h1
   subst h2
   exact absurd h1 (hnew.2.2.2.2 i (fun hf => hi ((hfr i).2 ⟨hf, hik⟩)) hik)
  ·simp only [if_neg hik] at h1
   simp only [if_neg hjk] at h2
   exact h.inj i j b (fun hf => hi ((hfr i).2 ⟨hf, hik⟩)) (fun hf => hj ((hfr j).2 ⟨hf, hjk⟩)) h1 h2
 ·rw [hsb] at hi
  have r := h.box i hi
  exact ⟨r.1, r.2.1, fun hs => r.2.2.1 (by rw [← hss]; exact hs), fun j hj => r.2.2.2 j (by rw [← hsb]; exact hj)⟩
 ·refine ⟨hg.os.trans h.keep.os, hg.tape.trans h.keep.tape, hg.output.trans h.keep.output, Nat.le_trans h.keep.size hg.size, fun b h1 h2 => ?_⟩
  rw [hblk b (by have := h.keep.size; omega) (fun r hr e => ?_)]
  ·exact h.keep.block b h1 h2
  ·subst e
   rcases (h.own k b (hrow b hr).2 (hrow b hr).1).1 with hm | hm
   ·exact h2 hm
   ·omega
theorem getV_bump (σ : St) (k i : Nat) : getV (σ.bump k).v i = if k = i then σ.c + 1 else getV σ.v i := getV_cons ..
theorem getV_fresh (σ : St) (k i : Nat) : getV (σ.fresh k).v i = if k = i then σ.c + 1 else getV σ.v i := getV_cons ..
theorem Rel.drop (h : Rel tid B N c σ a w) (k : Nat) (hsb : σ'.b = σ.b) (hst : σ'.t = σ.t) (hss : σ'.s = σ.s) (hv : ∀ i, i ≠ k → getV σ'.v i = getV σ.v i) (hk : getV σ'.v k = σ.c + 1) (hc : σ'.c = σ.c + 1) (hfr : ∀ i, i ∈ σ'.fr ↔ i ∈ σ.fr ∧ i ≠ k) :
  Rel tid B N { c with κ := fun i => if i = k then none else c.κ i } σ' a w ∧ Step c σ { c with κ := fun i => if i = k then none else c.κ i } σ' := by
 have st : Step c σ { c with κ := fun i => if i = k then none else c.κ i } σ' := ⟨rfl, fun _ _ _ _ h => h, fun _ _ h => h, by omega, fun i hi => ⟨by rw [hsb]; exact hi, rfl⟩, fun i => by
  by_cases hi : i = k
  ·subst hi; exact .inr (by rw [hk]; omega)
  ·exact .inl ⟨hv i hi, if_neg hi, fun _ _ => rfl⟩⟩
 have hκ : ∀ i b, (if i = k then none else c.κ i) = some b → i ≠ k ∧ c.κ i = some b := by
  intro i b hb
  by_cases hi : i = k
  ·simp [hi] at hb
  ·rw [if_neg hi] at hb; exact ⟨hi, hb⟩
 have hfr' : ∀ i, i ∉ σ'.fr → i ≠ k → i ∉ σ.fr := fun i hi hik hf => hi ((hfr i).2 ⟨hf, hik⟩)
 refine ⟨{ hw := h.hw, ds := h.ds, n := h.n, t := fun i => by rw [hst]; exact (h.t i).step st, b := fun i hi => ?_, s := fun hs => ?_, ver := fun i => ?_, fz := fun i b hi hb' o => h.fz i b ((hfr i).1 hi).1 (hκ i b hb').2 o, own := fun i b hi hb' => ?_, inj := fun i j b hi hj h1 h2 => h.inj i j b (hfr' i hi (hκ i b h1).1) (hfr' j hj (hκ j b h2).1) (hκ i b h1).2 (hκ j b h2).2, box := fun i hi => ?_, gg := fun hs => h.gg (by rw [← hss]; exact hs), old := h.old, grow := h.grow, stsz := h.stsz, keep := h.keep }, st⟩
 ·rw [hsb] at hi ⊢; exact (h.b i hi).step st rfl
 ·rw [hss] at hs ⊢; exact (h.s hs).step st rfl
 ·by_cases hi : i = k
  ·subst hi; rw [hk, hc]; exact Nat.le_refl _
  ·rw [hv i hi, hc]; have := h.ver i; omega
 ·have r := h.own i b (hfr' i hi (hκ i b hb').1) (hκ i b hb').2
  exact ⟨r.1, r.2.1, r.2.2.1, fun hs => r.2.2.2.1 (by rw [← hss]; exact hs), fun j hj => r.2.2.2.2 j (by rw [← hsb]; exact hj)⟩
 ·rw [hsb] at hi
  have r := h.box i hi
  exact ⟨r.1, r.2.1, fun hs => r.2.2.1 (by rw [← hss]; exact hs), fun j hj => r.2.2.2 j (by rw [← hsb]; exact hj)⟩
theorem own_lt {w : World} {e : TypeId} {size n b : Nat} {v : Value} {xs : List Value} (h : w.ownsRow 0 e size v n xs) (hb : v.ownBlock = some b) : b < w.heap.size := by
 rcases h.2 with ⟨rfl, _⟩ | ⟨g, cap, cur, rfl, _, hh, _⟩
 ·simp [Value.ownBlock] at hb
 ·simp only [Value.ownBlock, Option.some.injEq] at hb; subst hb; exact (Array.getElem?_eq_some_iff.1 hh).1
theorem mem_fresh (σ : St) (k i : Nat) : i ∈ (σ.fresh k).fr ↔ i ∈ σ.fr ∧ i ≠ k := by
 show i ∈ σ.fr.filter (fun x => !Nat.beq x k) ↔ _
 rw [List.mem_filter]
 refine and_congr_right fun _ => ?_
 constructor
 ·intro h e; subst e; simp at h
 ·intro h; rw [beq_false h]; rfl
theorem not_fro {k : Nat} (h : (!σ.fro k) = true) : k ∉ σ.fr := by
 intro hk
 have : σ.fro k = true := by simpa [St.fro] using hk
 rw [this] at h; cases h
theorem nil_ok {v : Value} (hx : AR tid c σ .nil v) : ∃ ad, v = .slice ad 0 0 := by
 have hF : FRel c.w c.S c.g .nil v := hx.to_A1 tid (by intro l h; cases h)
 cases hF; exact ⟨_, rfl⟩
theorem own_put {k : Nat} {e : El} {l : List e.T} {v : Value} (hc : getV σ'.v k = σ'.c) (h : OwnR tid c' k e l v) : AR tid c' σ' (.own k σ'.c e l) v :=
 ⟨own_slice tid h, Nat.le_refl _, fun _ => h⟩
theorem append_own {P : Program} {T ty : Nat} {e : El} (hE : ElOK P tid T e) (h : Rel tid B N c σ a w) {k : Nat} {l m : List e.T} {v y : Value} (hO : OwnR tid c k e l v) (hf : k ∉ σ.fr)
  (hy : ∃ ad q, y = .slice ad m.length q ∧ (m = [] ∨ ∃ b off vs, ad = some ⟨b, off, none⟩ ∧ CellsAt w b off vs ∧ CR c.w c.S c.g (encL e m) vs)) (hlen' : m = [] ∨ l.length + m.length < maxRow) :
  ∃ v' w' c', (Builtin.append_ #[T, T] ty #[v, y]).run P w = .ok v' w' ∧ Rel tid B N c' (σ.bump k) a w' ∧ OwnR tid c' k e (l ++ m) v' := by
 have hw := h.hw
 have hfr : ∀ i, i ∈ (σ.bump k).fr ↔ i ∈ σ.fr ∧ i ≠ k := fun i => ⟨fun hi => ⟨hi, fun e => hf (by rw [← e]; exact hi)⟩, fun hi => hi.1⟩
 have hv : ∀ i, i ≠ k → getV (σ.bump k).v i = getV σ.v i := fun i hi => by rw [getV_bump, if_neg (Ne.symm hi)]
 have hk : getV (σ.bump k).v k = σ.c + 1 := by rw [getV_bump, if_pos rfl]
 obtain ⟨ii, z, h2, h3, h4, h5, h6, h7⟩ := hE.info
 obtain ⟨ad, q, rfl, hm⟩ := hy
 by_cases hm0 : m = []
 ·subst hm0
  rw [List.append_nil]
  rcases hO with ⟨rfl, ad', rfl⟩ | ⟨b, vs, o1, o2, o3, o4⟩
  ·obtain ⟨R, st⟩ := h.drop (σ' := σ.bump k) k rfl rfl rfl hv hk rfl hfr
   exact ⟨_, _, _, run_append_m0 hE (Nat.le_refl _) w, R, .inl ⟨rfl, _, rfl⟩⟩
  ·obtain ⟨R, st⟩ := h.grown (σ' := σ.bump k) (k := k) (b' := b) (row := none) ⟨rfl, rfl, rfl, Nat.le_refl _, fun _ _ _ => rfl⟩ (fun r hr => by cases hr) (.inl ⟨o1, hf⟩) (by rw [← hw]; exact own_lt o3 o2) rfl rfl rfl hv hk rfl hfr
   rw [hw] at o3
   rcases o3.2 with ⟨rfl, _⟩ | ⟨g, cap, cur, rfl, o5, o6, o7, o8⟩
   ·simp [Value.ownBlock] at o2
   ·exact ⟨_, _, _, run_append_m0 hE o7 w, R, .inr ⟨b, vs, if_pos rfl, o2, o3, o4.step st⟩⟩
 ·have hlen := hlen'.resolve_left hm0
  obtain ⟨b0, off, us, rfl, hc, hC⟩ := hm.resolve_left hm0
  have hul : us.length = m.length * e.sz := by rw [← hC.1, encL_length]
  have hmp : 0 < m.length := List.length_pos_iff.2 hm0
  rcases hO with ⟨rfl, ad', rfl⟩ | ⟨b, vs, o1, o2, o3, o4⟩
  ·obtain ⟨v', w', r1, r2, r3, r4⟩ := run_append_zero (T := T) (ty := ty) (ad := ad') (k := q) hE hul hc hmp (by simpa [maxRow] using hlen)
   obtain ⟨R, st⟩ := h.grown (σ' := σ.bump k) (k := k) (b' := w.heap.size) r3 (fun r hr => by cases hr) (.inr rfl) (own_lt r2 r4) rfl rfl rfl hv hk rfl hfr
   exact ⟨v', w', _, r1, R, .inr ⟨_, us, if_pos rfl, r4, by simpa using r2, by simpa using hC.step st⟩⟩
  ·have hE2 := hE
   rw [hw] at o3
   obtain ⟨v', w', r1, r2, r3, _, r5⟩ := run_append_own_at (P := P) w 0 T ty (tid e) ii z e.sz ii.bytes hE.und h2 h3 h4 rfl h5 e.sz_pos v l.length vs o3 ⟨b0, off, none⟩ m.length q us hul (fun j u hu => by rw [Addr.add_at]; exact hc j u hu) (hC.ones (encL_one e m)) (by simp only [maxLen]; have : maxRow = 4294967296 := rfl; omega)
    (Nat.le_trans (Nat.mul_le_mul_left _ h7) (by have : maxRow = 4294967296 := rfl; omega)) (Nat.zero_le _)
   have hv' : ∃ b', v'.ownBlock = some b' ∧ ((c.κ k = some b' ∧ k ∉ σ.fr) ∨ b' = w.heap.size) := by
    rcases r5 with r5 | r5
    ·exact ⟨b, by rw [r5]; exact o2, .inl ⟨o1, hf⟩⟩
    ·exact ⟨_, r5, .inr rfl⟩
   obtain ⟨b', hb1, hb2⟩ := hv'
   obtain ⟨R, st⟩ := h.grown (σ' := σ.bump k) (k := k) (b' := b') r3 (fun r hr => by rw [o2] at hr; cases hr; exact ⟨o1, hf⟩) hb2 (own_lt r2 hb1) rfl rfl rfl hv hk rfl hfr
   exact ⟨v', w', _, r1, R, .inr ⟨b', vs ++ us, if_pos rfl, hb1, by simpa using r2, by rw [encL_append]; exact (o4.step st).append (hC.step st)⟩⟩
theorem append_nil {P : Program} {T ty : Nat} {e : El} (hE : ElOK P tid T e) (h : Rel tid B N c σ a w) {k : Nat} {m : List e.T} {ad' : Option Addr} {y : Value}
  (hy : ∃ ad q, y = .slice ad m.length q ∧ (m = [] ∨ ∃ b off vs, ad = some ⟨b, off, none⟩ ∧ CellsAt w b off vs ∧ CR c.w c.S c.g (encL e m) vs)) (hlen : m.length < maxRow) :
  ∃ v' w' c', (Builtin.append_ #[T, T] ty #[.slice ad' 0 0, y]).run P w = .ok v' w' ∧ Rel tid B N c' (σ.fresh k) a w' ∧ OwnR tid c' k e m v' := by
 have hv : ∀ i, i ≠ k → getV (σ.fresh k).v i = getV σ.v i := fun i hi => by rw [getV_fresh, if_neg (Ne.symm hi)]
 have hk : getV (σ.fresh k).v k = σ.c + 1 := by rw [getV_fresh, if_pos rfl]
 obtain ⟨ad, q, rfl, hm⟩ := hy
 by_cases hm0 : m = []
 ·subst hm0
  obtain ⟨R, st⟩ := h.drop (σ' := σ.fresh k) k rfl rfl rfl hv hk rfl (mem_fresh σ k)
  exact ⟨_, _, _, run_append_m0 hE (Nat.le_refl _) w, R, .inl ⟨rfl, _, rfl⟩⟩
 ·obtain ⟨b0, off, us, rfl, hc, hC⟩ := hm.resolve_left hm0
  have hul : us.length = m.length * e.sz := by rw [← hC.1, encL_length]
  obtain ⟨v', w', r1, r2, r3, r4⟩ := run_append_zero (T := T) (ty := ty) (ad := ad') (k := q) hE hul hc (List.length_pos_iff.2 hm0) (by simpa [maxRow] using hlen)
  obtain ⟨R, st⟩ := h.grown (σ' := σ.fresh k) (k := k) (b' := w.heap.size) r3 (fun r hr => by cases hr) (.inr rfl) (own_lt r2 r4) rfl rfl rfl hv hk rfl (mem_fresh σ k)
  exact ⟨v', w', _, r1, R, .inr ⟨_, us, if_pos rfl, r4, r2, hC.step st⟩⟩
theorem El.cast_eq {e e' : El} {l : List e'.T} {m : List e.T} (h : El.cast e e' l = some m) : e' = e ∧ HEq l m := by
 cases e <;> cases e' <;> simp [El.cast] at h <;> exact ⟨rfl, heq_of_eq h⟩
theorem append_ok {P : Program} {T ty : Nat} {E : Option El} (hE : ∀ e, E = some e → ElOK P tid T e) (h : Rel tid B N c σ a w) {d : Nat} (hd : d < N) {x y : AV} {v u : Value} (hx : AR tid c σ x v) (hy : AR tid c σ y u) {R : Type} {K : St → Option R} {r : R} (hK : appendK E σ d x y K = some r) :
  ∃ σ' v' w' c', K σ' = some r ∧ (Builtin.append_ #[T, T] ty #[v, u]).run P w = .ok v' w' ∧ Rel tid B N c' σ' (a.put (some d) v') w' := by
 unfold appendK at hK
 split at hK
 ·cases hK
 rename_i e0
 have hE := hE e0 rfl
 split at hK
 ·rename_i k ver e l
  split at hK
  rotate_left
  ·cases hK
  rename_i hcond
  simp only [Bool.and_eq_true] at hcond
  obtain ⟨he, hcur, hfro⟩ := hcond
  have := El.eqb_eq he; subst this
  have hf := not_fro hfro
  have hO := (hx.to_A1 tid (by intro l h; cases h)).2.2 (cur_eq hcur)
  have hkc : getV (σ.bump k).v k = (σ.bump k).c := by rw [getV_bump, if_pos rfl]; rfl
  split at hK
  ·obtain ⟨ad, rfl⟩ := nil_ok hy
   obtain ⟨v', w', c', r1, R1, O1⟩ := append_own (ty := ty) (m := []) hE h hO hf ⟨ad, 0, rfl, .inl rfl⟩ (.inl rfl)
   rw [List.append_nil] at O1
   exact ⟨_, v', w', c', hK, r1, R1.put (fun x hx => by cases hx; exact hd) (own_put hkc O1)⟩
  ·split at hK
   rotate_left
   ·cases hK
   rename_i e' m hr
   split at hK
   rotate_left
   ·cases hK
   rename_i m' hcast
   obtain ⟨rfl, hm⟩ := El.cast_eq hcast
   have hm := eq_of_heq hm; subst hm
   split at hK
   rotate_left
   ·cases hK
   rename_i hlen
   obtain ⟨ad, q, hu, hrow⟩ := rows_ok h hy hr
   obtain ⟨v', w', c', r1, R1, O1⟩ := append_own (ty := ty) (m := m) hE h hO hf ⟨ad, q, hu, hrow⟩ (.inr hlen)
   exact ⟨_, v', w', c', hK, r1, R1.put (fun x hx => by cases hx; exact hd) (own_put hkc O1)⟩
 ·obtain ⟨ad', rfl⟩ := nil_ok hx
  split at hK
  ·obtain ⟨ad, rfl⟩ := nil_ok hy
   exact ⟨_, _, _, c, hK, run_append_m0 hE (Nat.le_refl _) w, h.put (fun x hx => by cases hx; exact hd) (AR.of_F tid (.nil _))⟩
  ·split at hK
   rotate_left
   ·cases hK
   rename_i e' m hr
   split at hK
   rotate_left
   ·cases hK
   rename_i he
   have := El.eqb_eq he; subst this
   split at hK
   rotate_left
   ·cases hK
   rename_i hlen
   obtain ⟨ad, q, hu, hrow⟩ := rows_ok h hy hr
   obtain ⟨v', w', c', r1, R1, O1⟩ := append_nil (ty := ty) (k := d) (ad' := ad') hE h ⟨ad, q, hu, hrow⟩ hlen
   exact ⟨_, v', w', c', hK, r1, R1.put (fun x hx => by cases hx; exact hd) (own_put (by rw [getV_fresh, if_pos rfl]; rfl) O1)⟩
 ·cases hK
end
end Go.AI
namespace Go.AI
section
variable {tid : El → Nat} {c c' : Cx} {σ σ' : St} {B : Base} {N : Nat} {a : Act} {w : World} {P : Program}
theorem mapM_get {α β : Type} (f : α → Option β) : ∀ (l : List α) (m : List β), l.mapM f = some m → ∀ (i : Nat) (y : β), m[i]? = some y → ∃ x, l[i]? = some x ∧ f x = some y
 | [], m, h, i, y, hy => by simp at h; subst h; simp at hy
 | x :: l, m, h, i, y, hy => by
  simp only [List.mapM_cons, Option.bind_eq_bind, Option.pure_def] at h
  cases hx : f x with
  | none => simp [hx] at h
  | some z =>
   cases hl : l.mapM f with
   | none => simp [hx, hl] at h
   | some r =>
    simp [hx, hl] at h
    subst h
    cases i with
    | zero => simp at hy; subst hy; exact ⟨x, rfl, hx⟩
    | succ i => simp at hy; simpa using mapM_get f l r hl i y hy
theorem TyOK.fld {T : Nat} {ty : Ty} (hT : TyOK P tid T ty) {f n : Nat} (hf : ty.offs[f]? = some n) :
  ∃ fs fd i m, P.underlying T = some (.struct fs) ∧ fs[f]? = some fd ∧ fd.offset = n ∧ P.info? fd.type = some i ∧ i.size = m ∧ 0 < m ∧ ty.szs[f]? = some m := by
 have hne : ty.offs ≠ [] := by intro e; rw [e] at hf; simp at hf
 obtain ⟨fs, h1, h2, _, h3, h4⟩ := hT.pl hne
 have hlt := (List.getElem?_eq_some_iff.1 hf).1
 have hs : ty.szs[f]? = some (ty.szs[f]'(by omega)) := List.getElem?_eq_getElem _
 have hz : (ty.offs.zip ty.szs)[f]? = some (n, ty.szs[f]'(by omega)) := by
  rw [List.getElem?_zip_eq_some]; exact ⟨hf, hs⟩
 obtain ⟨fd, h5, h6⟩ := mapM_get _ _ _ h2 f _ hz
 cases hi : P.info? fd.type with
 | none => simp [hi] at h6
 | some i =>
  simp only [hi, Option.map_some, Option.some.injEq, Prod.mk.injEq] at h6
  refine ⟨fs, fd, i, _, h1, by simpa using h5, h6.1, hi, h6.2, h4 _ (List.getElem_mem _), hs⟩
theorem run_fieldAt {T : Nat} {ty : Ty} (hT : TyOK P tid T ty) {f n : Nat} (hf : ty.offs[f]? = some n) (ad : Addr) (w : World) :
  (Instr.fieldAt T (.pointer (some ad)) f).run P w = .ok (.pointer (some (ad.add n))) w := by
 obtain ⟨fs, fd, i, m, h1, h2, h3, h4, h5, h6, _⟩ := hT.fld hf
 have hn : ¬ i.size = 0 := by omega
 simp [Instr.fieldAt, run_underlying h1, h2, Instr.sureAddr, fieldPlace, sizeOf, typeInfo, h4, hn, h3]
theorem writeA_list (cs : Array Value) (off : Nat) (l : List Value) : ∀ s, off + s + l.length ≤ cs.size →
  ((l.zipIdx s).foldl (fun cs (x : Value × Nat) => cs.setIfInBounds (off + x.2) x.1) cs).toList = cs.toList.take (off + s) ++ (l ++ cs.toList.drop (off + s + l.length)) := by
 intro s h
 apply List.ext_getElem?
 intro k
 have hf := Great.foldl_set off l s cs
 rw [Array.getElem?_toList, hf.2 k]
 by_cases h1 : off + s ≤ k ∧ k < off + s + l.length ∧ k < cs.size
 ·rw [if_pos h1, List.getElem?_append_right (by simp; omega)]
  have e : (cs.toList.take (off + s)).length = off + s := by simp; omega
  rw [e, List.getElem?_append_left (by omega)]
 ·rw [if_neg h1]
  by_cases h2 : k < off + s
  ·rw [List.getElem?_append_left (by simp; omega), List.getElem?_take_of_lt h2, Array.getElem?_toList]
  ·have e : (cs.toList.take (off + s)).length = off + s := by simp; omega
   rw [List.getElem?_append_right (by omega), e]
   by_cases h3 : k < off + s + l.length
   ·rw [Array.getElem?_eq_none (by omega), List.getElem?_append_left (by omega), List.getElem?_eq_none]
    omega
   ·rw [List.getElem?_append_right (by omega), List.getElem?_drop, Array.getElem?_toList]
    congr 1; omega
def CA (tid : El → Nat) (c : Cx) (σ : St) (l : List AV) (vs : List Value) : Prop := l.length = vs.length ∧ ∀ i, i < l.length → A1 tid c σ (l.getD i .undef) (vs.getD i Go.undef)
theorem CA.write {l m : List AV} {vs us : List Value} (h : CA tid c σ l vs) (k : CA tid c σ m us) (i : Nat) (hi : i + m.length ≤ l.length) : CA tid c σ (writeL l i m) (vs.take i ++ (us ++ vs.drop (i + us.length))) := by
 refine ⟨by rw [writeL_length hi]; simp [h.1]; have := k.1; have := h.1; omega, fun j hj => ?_⟩
 rw [writeL_length hi] at hj
 unfold writeL
 rw [writeL_getD l m _ i j hi, writeL_getD vs us _ i j (by rw [← k.1, ← h.1]; exact hi), ← k.1]
 split
 ·exact k.2 _ (by omega)
 ·exact h.2 _ hj
theorem fill_ok {ty : Ty} {parts : List (Nat × AV)} : ∀ {ps : List (Nat × Value)} {c0 c1 : List AV} {zs : Array Value}, ty.offs.length = ty.szs.length → parts.length = ps.length → (∀ i, (h1 : i < parts.length) → (h2 : i < ps.length) → parts[i].1 = ps[i].1 ∧ AR tid c σ parts[i].2 ps[i].2) →
  CA tid c σ c0 zs.toList → fillAll ty.offs ty.szs parts c0 = some c1 → ∃ cs, Instr.fill ((ty.offs.zip ty.szs).toArray[·]?) zs ps = some cs ∧ CA tid c σ c1 cs.toList := by
 induction parts with
 | nil =>
  intro ps c0 c1 zs hle hl hA h0 hf
  have : ps = [] := List.eq_nil_of_length_eq_zero (by simpa using hl.symm)
  subst this
  simp only [fillAll, Option.some.injEq] at hf
  subst hf
  exact ⟨zs, rfl, h0⟩
 | cons p parts ih =>
  intro ps c0 c1 zs hle hl hA h0 hf
  cases ps with
  | nil => simp at hl
  | cons q ps =>
   obtain ⟨i, x⟩ := p
   obtain ⟨j, v⟩ := q
   have hx := hA 0 (by simp) (by simp)
   simp only [List.getElem_cons_zero] at hx
   obtain ⟨rfl, hx⟩ := hx
   simp only [fillAll] at hf
   split at hf
   rotate_left
   ·cases hf
   rename_i o n ho hn
   split at hf
   rotate_left
   ·cases hf
   rename_i h1 h2 h3
   have h1 := Nat.le_of_ble_eq_true h1
   have h2 := Nat.eq_of_beq_eq_true h2
   have hc := hx.cells h3
   have hsz : v.cells.size = n := by rw [← h2, hc.1]; simp
   have hz : ((ty.offs.zip ty.szs).toArray)[i]? = some (o, n) := by simp [List.getElem?_zip_eq_some, ho, hn]
   have hcz : c0.length = zs.size := by rw [h0.1]; simp
   have hw := writeA_list zs o v.cells.toList 0 (by simp; omega)
   have hCA : CA tid c σ (writeL c0 o x.cells) ((v.cells.toList.zipIdx 0).foldl (fun cs (x : Value × Nat) => cs.setIfInBounds (o + x.2) x.1) zs).toList := by
    rw [hw, Nat.add_zero]
    exact h0.write ⟨hc.1, hc.2.1⟩ o (by omega)
   obtain ⟨cs, r1, r2⟩ := ih (ps := ps) (zs := (v.cells.toList.zipIdx 0).foldl (fun cs (x : Value × Nat) => cs.setIfInBounds (o + x.2) x.1) zs) hle (by simpa using hl) (fun k hk hk' => hA (k + 1) (by simp; omega) (by simp; omega)) hCA hf
   refine ⟨cs, ?_, r2⟩
   unfold Instr.fill
   simp only [hz, hsz]
   rw [if_neg (by simp; omega), ← r1, ← Array.foldl_toList, Array.toList_zipIdx]
theorem build_ok {T : Nat} {ty : Ty} (hT : TyOK P tid T ty) (h : Rel tid B N c σ a w) {parts : Array (Nat × Operand)} {l : List AV} (hne : ty.offs ≠ [])
  (hf : fillAll ty.offs ty.szs (parts.toList.map fun p => (p.1, getO σ.t p.2)) ty.zero = some l) :
  ∃ v, (Instr.build T (parts.map fun (i, x) => (i, a.eval x))).run P w = .ok v w ∧ AR tid c σ (.agg l) v := by
 obtain ⟨fs, h1, h2, _, h3, h4⟩ := hT.pl hne
 obtain ⟨i, z, h5, h6, h7, h8, _⟩ := hT.info
 have h0 : CA tid c σ ty.zero z.cells.toList := ⟨(h8 c.w c.S c.g).1, fun i hi => A1.of_F tid ((h8 c.w c.S c.g).2 i hi)⟩
 obtain ⟨cs, h9, h10⟩ := fill_ok (ps := (parts.map fun (i, x) => (i, a.eval x)).toList) h3 (by simp) (fun k hk hk' => by
  simp only [List.length_map] at hk
  simp only [Array.toList_map, List.getElem_map]
  exact ⟨trivial, h.getO _⟩) h0 hf
 refine ⟨.agg cs, run_build w T _ cs (by simp only [Program.built, h5, h1, h6, h2, h9]), cs.toList, by simp, h10.1, h10.2⟩
theorem run_newVar (T : Nat) (v : Value) (w : World) : (newVar T v).run P w = .ok ⟨w.heap.size, 0, none⟩ (w.alloc (.cells v.cells T)) := by
 simp [newVar, newRow]
theorem alloc_ok {T d : Nat} {ty : Ty} (hT : TyOK P tid T ty) (h : Rel tid B N c σ a w) (hd : d < N) (hb : getB σ.b d = []) :
  ∃ v w' c', (Instr.alloc T true (.tuple #[])).run P w = .ok v w' ∧ Rel tid B N c' ({ σ with b := (d, ty.zero) :: σ.b }.put (some d) (.lbox d 0)) (a.put (some d) v) w' := by
 obtain ⟨i, z, h5, h6, h7, h8, _⟩ := hT.info
 obtain ⟨c', hR⟩ := h.newBox (T := T) hd (l := ty.zero) (vs := z.cells.toList) hb (List.length_pos_iff.1 hT.pos) (h8 c.w c.S c.g).1 (fun i hi => A1.of_F tid ((h8 c.w c.S c.g).2 i hi))
 refine ⟨_, _, c', ?_, hR⟩
 have : (newVar T z).run P w = _ := run_newVar T z w
 simp [Instr.alloc, zeroValue, typeInfo, h5, h6, this]
theorem box_ok {T d : Nat} (h : Rel tid B N c σ a w) (hd : d < N) (hb : getB σ.b d = []) {x : AV} {v : Value} (hx : AR tid c σ x v) (hc : x.cells.all AV.cell = true) (hne : x.cells ≠ []) :
  ∃ u w' c', (Instr.box T v).run P w = .ok u w' ∧ Rel tid B N c' ({ σ with b := (d, x.cells) :: σ.b }.put (some d) (.lbox d 0)) (a.put (some d) u) w' := by
 obtain ⟨us, h1, h2, h3, _⟩ := hx.pieces hc
 obtain ⟨c', hR⟩ := h.newBox (T := T) hd (l := x.cells) (vs := us) hb hne h2 h3
 refine ⟨_, _, c', ?_, hR⟩
 have : (newVar T v).run P w = _ := run_newVar T v w
 subst h1
 simp [Instr.box, this]
theorem cbox_ok {T d : Nat} (h : Rel tid B N c σ a w) (hd : d < N) {x : AV} {v : Value} (hx : AR tid c σ x v) (ho : x.one = true) :
  ∃ u w' c', (Instr.box T v).run P w = .ok u w' ∧ Rel tid B N c' (σ.put (some d) (.cbox x)) (a.put (some d) u) w' := by
 have hF := hx.to_F tid (by cases x <;> first | rfl | simp [AV.one] at ho)
 obtain ⟨r1, r2, r3⟩ := h.newStay [v] T
 have hs := h.new_step (.cells [v].toArray T) true
 have hrun : (newVar T v).run P w = _ := run_newVar T v w
 rw [hF.cellsOne ho] at hrun
 refine ⟨_, _, _, ?_, r1.put (fun y hy => by cases hy; exact hd) (AR.of_F tid (.cbox x v w.heap.size (r2 0) (r3 0 v rfl) ho (hF.step hs)))⟩
 simp [Instr.box, hrun]
theorem kids_ok {w : World} {S : Nat → Nat → Prop} {g : Nat} {x : AV} {l : List Node} (h : decKids x = some l) {v : Value} (hF : FRel w S g x v) : FRel w S g (.sl .node l) v := by
 unfold decKids at h
 split at h
 ·simp only [Option.some.injEq] at h; subst h; exact hF
 ·simp only [Option.some.injEq] at h; subst h; cases hF; exact .sl0 _ _ _
 ·cases h
theorem dec_rel {w : World} {S : Nat → Nat → Prop} {g : Nat} (e : El) {l : List AV} {x : e.T} (h : e.dec l = some x) :
  l.length = (e.enc x).length ∧ ∀ i v, i < l.length → FRel w S g (l.getD i .undef) v → FRel w S g ((e.enc x).getD i .undef) v := by
 cases e with
 | int =>
  simp only [El.dec] at h
  unfold decInt at h
  split at h
  ·simp only [Option.some.injEq] at h; subst h; exact ⟨rfl, fun i v _ hF => hF⟩
  ·cases h
 | bool =>
  simp only [El.dec] at h
  unfold decBool at h
  split at h
  ·simp only [Option.some.injEq] at h; subst h; exact ⟨rfl, fun i v _ hF => hF⟩
  ·cases h
 | str =>
  simp only [El.dec] at h
  unfold decStr at h
  split at h
  ·simp only [Option.some.injEq] at h; subst h; exact ⟨rfl, fun i v _ hF => hF⟩
  ·cases h
 | u8 =>
  simp only [El.dec] at h
  unfold decU8 at h
  split at h
  ·simp only [Option.some.injEq] at h; subst h; exact ⟨rfl, fun i v _ hF => hF⟩
  ·cases h
 | tok =>
  simp only [El.dec] at h
  unfold decTok at h
  split at h
  ·simp only [Option.some.injEq] at h; subst h; exact ⟨rfl, fun i v _ hF => hF⟩
  ·cases h
 | diag =>
  simp only [El.dec] at h
  unfold decDiag at h
  split at h
  ·simp only [Option.some.injEq] at h; subst h; exact ⟨rfl, fun i v _ hF => hF⟩
  ·cases h
 | ent =>
  simp only [El.dec] at h
  unfold decEnt at h
  split at h
  ·simp only [Option.some.injEq] at h; subst h; exact ⟨rfl, fun i v _ hF => hF⟩
  ·cases h
 | node =>
  simp only [El.dec] at h
  unfold decNode at h
  split at h
  ·split at h
   ·rename_i hk
    simp only [Option.some.injEq] at h; subst h
    refine ⟨rfl, fun i v hi hF => ?_⟩
    match i, hF with
    | 0, hF => exact hF
    | 1, hF => exact hF
    | 2, hF => exact hF
    | 3, hF => exact kids_ok hk hF
    | i + 4, _ => simp at hi; omega
   ·cases h
  ·cases h
 | made =>
  simp only [El.dec] at h
  unfold decMade at h
  split at h
  ·split at h
   ·rename_i hk
    simp only [Option.some.injEq] at h; subst h
    refine ⟨rfl, fun i v hi hF => ?_⟩
    match i, hF with
    | 0, hF => exact hF
    | 1, hF => exact hF
    | 2, hF => exact hF
    | 3, hF => exact kids_ok hk hF
    | 4, hF => exact hF
    | i + 5, _ => simp at hi; omega
   ·cases h
  ·cases h
theorem dec_CR {w : World} {S : Nat → Nat → Prop} {g : Nat} {e : El} {l : List AV} {vs : List Value} {x : e.T} (h : e.dec l = some x) (hC : CR w S g l vs) : CR w S g (e.enc x) vs := by
 obtain ⟨h1, h2⟩ := dec_rel (w := w) (S := S) (g := g) e h
 exact ⟨by rw [← h1, hC.1], fun i hi => h2 i _ (by rw [h1]; exact hi) (hC.2 i (by rw [h1]; exact hi))⟩
theorem dec_one {e : El} {y : AV} {x : e.T} (h : e.dec y.cells = some x) (hn : ∀ l, y ≠ .agg l) : y.one = true := by
 have hc : y.cells = [y] := by cases y <;> first | rfl | exact absurd rfl (hn _)
 rw [hc] at h
 cases e <;> simp only [El.dec] at h
 ·cases y <;> first | rfl | simp [decInt] at h
 ·cases y <;> first | rfl | simp [decBool] at h
 ·simp [decTok] at h
 ·simp [decDiag] at h
 ·simp [decNode] at h
 ·simp [decMade] at h
 ·simp [decEnt] at h
 ·cases y <;> first | rfl | simp [decStr] at h
 ·cases y <;> first | rfl | simp [decU8] at h
theorem decAll_ok {w : World} {S : Nat → Nat → Prop} {g : Nat} (e : El) : ∀ {l : List AV} {vs : List Value} {xs : List e.T}, CR w S g l vs → decAll e l = some xs →
  xs.length = l.length ∧ (∀ v ∈ vs, v.cells.size = e.sz) ∧ CR w S g (encL e xs) (vs.flatMap fun v => v.cells.toList) := by
 intro l
 induction l with
 | nil =>
  intro vs xs h hd
  simp only [decAll, Option.some.injEq] at hd
  subst hd
  have : vs = [] := List.eq_nil_of_length_eq_zero (by simpa using h.1.symm)
  subst this
  exact ⟨rfl, fun v hv => (by simp at hv), .nil _ _ _⟩
 | cons y l ih =>
  intro vs xs h hd
  cases vs with
  | nil => simp [CR] at h
  | cons v vs =>
   simp only [decAll] at hd
   split at hd
   rotate_left
   ·cases hd
   rename_i x m h1 h2
   simp only [Option.some.injEq] at hd
   subst hd
   obtain ⟨r1, r2, r3⟩ := ih (vs := vs) ⟨by simpa using h.1, fun i hi => by simpa using h.2 (i + 1) (by simp; omega)⟩ h2
   have h0 : FRel w S g y v := by simpa using h.2 0 (by simp)
   have hx : CR w S g (e.enc x) v.cells.toList := by
    refine dec_CR h1 ?_
    cases hy : y with
    | agg l =>
     rw [hy] at h0
     cases h0 with
     | agg _ us hl ho hA => exact ⟨by simpa [AV.cells, Value.cells] using hl, fun i hi => by simpa [AV.cells, Value.cells] using hA i hi⟩
    | _ =>
     have ho := dec_one h1 (by rw [hy]; intro l h; cases h)
     have hc := h0.cellsOne ho
     rw [← hy, hc, show y.cells = [y] by rw [hy]; rfl]
     exact ⟨rfl, fun i hi => by simp at hi; subst hi; exact h0⟩
   have hsz : v.cells.size = e.sz := by rw [← El.enc_length e x, hx.1]; simp
   refine ⟨by simp [r1], fun u hu => ?_, ?_⟩
   ·rcases List.mem_cons.1 hu with rfl | hu
    ·exact hsz
    ·exact r2 u hu
   ·have e1 : encL e (x :: m) = e.enc x ++ encL e m := by simp [encL]
    rw [e1, List.flatMap_cons]
    exact hx.append r3
theorem flat_get {n : Nat} (hn : 0 < n) : ∀ (vs : List Value), (∀ v ∈ vs, v.cells.size = n) → ∀ k, k < vs.length * n → (vs.flatMap fun v => v.cells.toList)[k]? = (vs[k / n]?).bind fun v => v.cells[k % n]?
 | [], _, k, hk => by simp at hk
 | v :: vs, hv, k, hk => by
  have h0 := hv v (by simp)
  rw [List.flatMap_cons]
  by_cases h1 : k < n
  ·rw [List.getElem?_append_left (by simpa [h0] using h1), Nat.div_eq_of_lt h1, Nat.mod_eq_of_lt h1]
   simp
  ·have hlen : v.cells.toList.length = n := by simpa using h0
   have e1 : k / n = (k - n) / n + 1 := by
    rw [show k = (k - n) + n by omega, Nat.add_div_right _ hn]; simp
   have e2 : k % n = (k - n) % n := by
    rw [show k = (k - n) + n by omega, Nat.add_mod_right]; simp
   rw [List.getElem?_append_right (by omega), hlen, flat_get hn vs (fun u hu => hv u (by simp [hu])) (k - n) (by simp [Nat.add_mul] at hk; omega), e1, e2]
   simp
theorem dense_zip {α : Type} (f : Operand → α) : ∀ (l : List (Nat × Operand)) (i : Nat), dense l i = true → l.map (fun p => (p.1, f p.2)) = ((l.map fun p => f p.2).zipIdx i).map fun x => (x.2, x.1)
 | [], _, _ => rfl
 | (j, x) :: r, i, h => by
  simp only [dense] at h
  split at h
  ·rename_i hb
   have hb := Nat.eq_of_beq_eq_true hb
   subst hb
   simp [dense_zip f r (i + 1) h]
  ·cases h
theorem buildSlice_ok {T n : Nat} {e : El} (hE : ElOK P tid T e) (h : Rel tid B N c σ a w) {parts : Array (Nat × Operand)} {l : List AV} {xs : List e.T} (hf : freezeAll (parts.toList.map fun p => getO σ.t p.2) σ = some (l, σ'))
  (hd : dense parts.toList 0 = true) (hn : parts.toList.length = n) (h0 : 0 < n) (hm : n ≤ 4096) (hx : decAll e l = some xs) :
  ∃ v w' c', (Instr.buildSlice T n (parts.map fun (i, x) => (i, a.eval x))).run P w = .ok v w' ∧ Rel tid B N c' σ' a w' ∧ AR tid c' σ' (.sl e xs) v := by
 obtain ⟨ii, z, h5, h6, h7, h8, _, _⟩ := hE.info
 have hsz : e.sz ≤ 5 := by cases e <;> decide
 have hp := e.sz_pos
 obtain ⟨c1, s1, R1, C1⟩ := freezeAll_ok (vs := parts.toList.map fun p => a.eval p.2) h (by simp) (fun i hi => by
  simp only [List.length_map] at hi
  rw [List.getD_eq_getElem?_getD, List.getD_eq_getElem?_getD, List.getElem?_map, List.getElem?_map, List.getElem?_eq_getElem hi]
  exact h.getO _) hf
 obtain ⟨h9, h10, h11⟩ := decAll_ok e C1 hx
 have hvl : (parts.toList.map fun p => a.eval p.2).length = n := by rw [List.length_map, hn]
 have hxl : xs.length = n := by rw [h9, C1.1, hvl]
 have hsmall : n * e.sz ≤ 4096 * 5 := Nat.mul_le_mul hm hsz
 obtain ⟨r, hr, hrs, hrk⟩ := Great.fill_dense hp (parts.toList.map fun p => a.eval p.2) 0 ((Array.range (n * e.sz)).map (z.cells[· % z.cells.size]!)) h10 (by rw [hvl]; simp)
 have hrl : r.toList = (parts.toList.map fun p => a.eval p.2).flatMap fun v => v.cells.toList := by
  apply List.ext_getElem?
  intro k
  rw [Array.getElem?_toList, hrk k]
  by_cases hk : k < n * e.sz
  ·rw [if_pos (by rw [hvl, Nat.zero_add]; omega), flat_get hp _ h10 k (by rw [hvl]; exact hk)]; simp
  ·rw [if_neg (by rw [hvl, Nat.zero_add]; omega), Array.getElem?_eq_none (by simp; omega), List.getElem?_eq_none]
   have := h11.1
   rw [encL_length, hxl] at this
   omega
 have hrun := run_buildSlice (P := P) w T (tid e) n (parts.map fun (i, x) => (i, a.eval x)) r ii z hE.und h5 h6 (by rw [h7]; omega) (by rw [h7]; have := Nat.mul_pos h0 hp; omega) (by
  rw [h7, Array.toList_map]
  have := dense_zip a.eval parts.toList 0 hd
  rw [show (parts.toList.map fun x => match x with | (i, x) => (i, a.eval x)) = parts.toList.map fun p => (p.1, a.eval p.2) from rfl, this]
  exact hr)
 obtain rfl : r = ((parts.toList.map fun p => a.eval p.2).flatMap fun v => v.cells.toList).toArray := by rw [← hrl]
 obtain ⟨r1, r2, r3⟩ := R1.newStay ((parts.toList.map fun p => a.eval p.2).flatMap fun v => v.cells.toList) (tid e)
 have hs := R1.new_step (.cells ((parts.toList.map fun p => a.eval p.2).flatMap fun v => v.cells.toList).toArray (tid e)) true
 exact ⟨_, _, _, hrun, r1, AR.of_F tid (FRel.ofSl ⟨_, n, by rw [hxl], by omega, .inr ⟨w.heap.size, 0, _, rfl, r3, h11.step hs, fun j _ => by rw [Nat.zero_add]; exact r2 j⟩⟩)⟩
theorem field_ok {T T' f n : Nat} {ty ty' : Ty} (hT : TyOK P tid T ty) (hT' : TyOK P tid T' ty') (hf : ty.offs[f]? = some n) (hft : ty.ftys[f]? = some T') {l : List AV} {v : Value} {y : AV} (hx : AR tid c σ (.agg l) v) (hr : readAt ty' l n = some y) :
  ∃ u, (Instr.field T v f).run P w = .ok u w ∧ AR tid c σ y u := by
 obtain ⟨fs, fd, i, m, h1, h2, h3, h4, h5, h6, _⟩ := hT.fld hf
 obtain ⟨vs, rfl, hl, hA⟩ := hx
 have e : fd.type = T' := by
  have hne : ty.offs ≠ [] := by intro e; rw [e] at hf; simp at hf
  obtain ⟨fs', g1, _, g2, _⟩ := hT.pl hne
  rw [h1] at g1
  simp only [Option.some.injEq, TypeDesc.struct.injEq] at g1
  subst g1
  rw [← g2, List.getElem?_map] at hft
  have : fs.toList[f]? = some fd := by simpa using h2
  rw [this] at hft
  simpa using hft
 unfold readAt at hr
 split at hr
 rotate_left
 ·cases hr
 rename_i hb
 have hb := Nat.le_of_ble_eq_true hb
 cases hg : ty'.agg
 ·rw [hg] at hr
  simp only [Bool.false_eq_true, if_false, Option.some.injEq] at hr
  subst hr
  have ho := hT'.one hg
  have hn : n < vs.length := by omega
  refine ⟨vs.getD n Go.undef, ?_, AR.of_A1' (hA n (by omega))⟩
  simp [Instr.field, run_underlying h1, h2, asAgg, part, e, run_isAgg hT', hg, h3, List.getElem?_eq_getElem hn]
 ·rw [hg] at hr
  simp only [if_true, Option.some.injEq] at hr
  subst hr
  refine ⟨.agg ((vs.drop n).take ty'.zero.length).toArray, ?_, _, rfl, by simp [hl], fun i hi => ?_⟩
  ·simp [Instr.field, run_underlying h1, h2, asAgg, part, e, run_isAgg hT', hg, h3, run_sizeOf hT']
  ·have hi : i < ty'.zero.length ∧ n + i < l.length := by simp at hi; omega
   rw [getD_take _ _ _ _ hi.1, getD_take _ _ _ _ hi.1, getD_drop, getD_drop]
   exact hA _ hi.2
theorem bin_ok {op : BinOp} {T : Nat} {X Y : Operand} {x y z : AV} {v u : Value} (hx : AR tid c σ x v) (hy : AR tid c σ y u) (hz : binAV op x y = some z) :
  ∃ r, (do eqGuard op T X Y v u; binOp op T v u : Sem Value).run P w = .ok r w ∧ AR tid c σ z r := by
 unfold binAV at hz
 split at hz
 rotate_left
 ·cases hz
 rename_i p q
 cases hx.to_F tid rfl
 cases hy.to_F tid rfl
 have hg : (eqGuard op T X Y (.int .i64 p) (.int .i64 q)).run P w = .ok () w := by unfold eqGuard; split <;> rfl
 split at hz <;> simp only [Option.some.injEq, reduceCtorEq] at hz <;> subst hz <;> simp only [Sem.run_bind, hg, Result.andThen_ok]
 ·exact ⟨_, rfl, AR.of_F tid (.int _)⟩
 ·exact ⟨_, rfl, AR.of_F tid (.int _)⟩
 ·exact ⟨.bool (decide (p = q)), by simp [binOp, Op.intCmp]; rfl, AR.of_F tid (.bool _)⟩
 ·exact ⟨.bool (decide (p ≠ q)), by simp [binOp, Op.intCmp]; rfl, AR.of_F tid (.bool _)⟩
 ·exact ⟨.bool (decide (p < q)), by simp [binOp, Op.intCmp], AR.of_F tid (.bool _)⟩
 ·exact ⟨.bool (decide (p ≤ q)), by simp [binOp, Op.intCmp], AR.of_F tid (.bool _)⟩
 ·exact ⟨.bool (decide (p > q)), by simp [binOp, Op.intCmp], AR.of_F tid (.bool _)⟩
 ·exact ⟨.bool (decide (p ≥ q)), by simp [binOp, Op.intCmp], AR.of_F tid (.bool _)⟩
theorem max_ok (ts : Array Nat) (T : Nat) (p q : Int) : (Builtin.max_ ts T #[.int .i64 p, .int .i64 q]).run P w = .ok (.int .i64 (max p q)) w := by
 simp [Builtin.max_, Builtin.max2]; split <;> omega
theorem min_ok (ts : Array Nat) (T : Nat) (p q : Int) : (Builtin.min_ ts T #[.int .i64 p, .int .i64 q]).run P w = .ok (.int .i64 (min p q)) w := by
 simp [Builtin.min_, Builtin.min2]; split <;> omega
end
end Go.AI
namespace Go.AI
section
variable {tid : El → Nat} {c c' : Cx} {σ σ' : St} {B : Base} {N : Nat} {a : Act} {w : World} {P : Program}
theorem CR.write {w : World} {S : Nat → Nat → Prop} {g : Nat} {l m : List AV} {vs us : List Value} (h : CR w S g l vs) (k : CR w S g m us) (i : Nat) (hi : i + m.length ≤ l.length) : CR w S g (writeL l i m) (vs.take i ++ (us ++ vs.drop (i + us.length))) := by
 have h1 := h.1
 have h2 := k.1
 refine ⟨by rw [writeL_length hi]; simp; omega, fun j hj => ?_⟩
 rw [writeL_length hi] at hj
 unfold writeL
 rw [writeL_getD l m _ i j hi, writeL_getD vs us _ i j (by omega), ← h2]
 split
 ·exact k.2 _ (by omega)
 ·exact h.2 _ hj
theorem get?_write {α : Type} (us m : List α) (p j : Nat) (h : p + m.length ≤ us.length) :
  (us.take p ++ (m ++ us.drop (p + m.length)))[j]? = if p ≤ j ∧ j < p + m.length then m[j - p]? else us[j]? := by
 by_cases h1 : j < p
 ·rw [if_neg (by omega), List.getElem?_append_left (by simp; omega), List.getElem?_take_of_lt h1]
 ·have e : (us.take p).length = p := by simp; omega
  rw [List.getElem?_append_right (by omega), e]
  by_cases h2 : j < p + m.length
  ·rw [if_pos ⟨by omega, h2⟩, List.getElem?_append_left (by omega)]
  ·rw [if_neg (by omega), List.getElem?_append_right (by omega), List.getElem?_drop]; congr 1; omega
theorem get?_piece {α : Type} (us : List α) (p q j : Nat) : ((us.drop p).take q)[j]? = if j < q then us[p + j]? else none := by
 rw [List.getElem?_take]
 split
 ·rw [List.getElem?_drop]
 ·rfl
theorem piece_write {α : Type} (us m : List α) (p q o : Nat) (h1 : o + m.length ≤ q) (h2 : p + q ≤ us.length) :
  ((us.take (p + o) ++ (m ++ us.drop (p + o + m.length))).drop p).take q = ((us.drop p).take q).take o ++ (m ++ ((us.drop p).take q).drop (o + m.length)) := by
 apply List.ext_getElem?
 intro j
 have e : ((us.drop p).take q).length = q := by simp; omega
 rw [get?_piece, get?_write us m (p + o) (p + j) (by omega), get?_write _ m o j (by omega), get?_piece]
 by_cases hj : j < q
 ·rw [if_pos hj, if_pos hj]
  by_cases hk : o ≤ j ∧ j < o + m.length
  ·rw [if_pos (by omega), if_pos hk]; congr 1; omega
  ·rw [if_neg (by omega), if_neg hk]
 ·rw [if_neg hj, if_neg hj, if_neg (by omega)]
theorem getT_map (f : AV → AV) (hf : f .undef = .undef) (t : List (Nat × AV)) (i : Nat) : getT (t.map fun p => (p.1, f p.2)) i = f (getT t i) := by
 induction t with
 | nil => exact hf.symm
 | cons p t ih => obtain ⟨j, a⟩ := p; rw [List.map_cons, getT_cons, getT_cons, ih]; split <;> rfl
theorem getB_map (f : AV → AV) (t : List (Nat × List AV)) (i : Nat) : getB (t.map fun p => (p.1, p.2.map f)) i = (getB t i).map f := by
 induction t with
 | nil => rfl
 | cons p t ih => obtain ⟨j, a⟩ := p; rw [List.map_cons, getB_cons, getB_cons, ih]; split <;> rfl
theorem map_getD (f : AV → AV) (hf : f .undef = .undef) (l : List AV) (i : Nat) : (l.map f).getD i .undef = f (l.getD i .undef) := by
 rw [List.getD_eq_getElem?_getD, List.getD_eq_getElem?_getD, List.getElem?_map]
 cases l[i]? with
 | none => exact hf.symm
 | some x => rfl
theorem setOwn_ok {e : El} {k b : Nat} {us US : List Value} {T' : TypeId} {w' : World} {z : e.T} {I : Nat} {l : List e.T} {v : Value}
  (hκ : c.κ k = some b) (hblk : Blk c.w b us T') (hblk' : Blk w' b US T') (hlen : US.length = us.length)
  (hz : CR w' c.S c.g (e.enc z) ((US.drop (I * e.sz)).take e.sz)) (ho : ∀ j, ¬ (I * e.sz ≤ j ∧ j < I * e.sz + e.sz) → US[j]? = us[j]?)
  (hst : ∀ a v, FRel c.w c.S c.g a v → FRel w' c.S c.g a v) (h : OwnR tid c k e l v) : OwnR tid { c with w := w' } k e (l.set I z) v := by
 rcases h with ⟨rfl, h⟩ | ⟨b', vs, h1, h2, h3, h4⟩
 ·exact .inl ⟨rfl, h⟩
 ·rw [hκ] at h1; cases h1
  rcases h3.2 with ⟨rfl, _⟩ | ⟨g, cap, cur, rfl, hg, hh, hn, hcm, hcs, ht⟩
  ·simp [Value.ownBlock] at h2
  ·simp only [Value.ownBlock, Option.some.injEq] at h2
   subst h2
   unfold Blk at hblk
   rw [hblk] at hh
   simp only [Option.some.injEq, Obj.cells.injEq] at hh
   obtain ⟨rfl, rfl, _⟩ := hh
   simp only [List.size_toArray] at hcs
   have hls : (l.set I z).length = l.length := by simp
   have hle : l.length * e.sz ≤ us.length := by rw [hcs]; exact Nat.mul_le_mul_right _ hn
   have hp := e.sz_pos
   refine .inr ⟨g, US.take (l.length * e.sz), hκ, rfl, ⟨by rw [hls, List.length_take, hlen]; omega, .inr ⟨g, cap, US.toArray, by rw [hls], hg, hblk', by rw [hls]; exact hn, hcm, by simp [hlen, hcs], by rw [hls]⟩⟩, ?_⟩
   refine ⟨by rw [encL_length, hls, List.length_take, hlen]; omega, fun j hj => ?_⟩
   rw [encL_length, hls] at hj
   have hq : j / e.sz < l.length := (Nat.div_lt_iff_lt_mul hp).2 hj
   have hr : j % e.sz < e.sz := Nat.mod_lt _ hp
   have hjq : j / e.sz * e.sz + j % e.sz = j := by have := Nat.div_add_mod j e.sz; rw [Nat.mul_comm]; omega
   rw [getD_take _ _ _ _ hj]
   have he := encL_getD e (l.set I z) (j / e.sz) (j % e.sz) (by rw [hls]; exact hq) hr
   rw [hjq] at he
   rw [he]
   by_cases hI : j / e.sz = I
   ·have hz' := hz.2 (j % e.sz) (by rw [El.enc_length]; exact hr)
    rw [getD_take _ _ _ _ hr, getD_drop, ← hI, hjq] at hz'
    have : (l.set I z).getD (j / e.sz) e.dflt = z := by
     rw [hI, List.getD_eq_getElem?_getD, List.getElem?_set_self (by omega)]; rfl
    rw [this]; exact hz'
   ·have : (l.set I z).getD (j / e.sz) e.dflt = l.getD (j / e.sz) e.dflt := by
     rw [List.getD_eq_getElem?_getD, List.getD_eq_getElem?_getD, List.getElem?_set_ne (Ne.symm hI)]
    rw [this, ← encL_getD e l _ _ hq hr, hjq]
    have h5 := h4.2 j (by rw [encL_length]; exact hj)
    rw [← ht] at h5
    simp only at h5
    rw [getD_take _ _ _ _ hj] at h5
    have : US.getD j Go.undef = us.getD j Go.undef := by
     rw [List.getD_eq_getElem?_getD, List.getD_eq_getElem?_getD, ho j ?_]
     rintro ⟨h6, h7⟩
     refine hI ?_
     refine Nat.div_eq_of_lt_le h6 ?_
     rw [Nat.succ_mul]; exact h7
    rw [this]
    exact hst _ _ h5
theorem setEl1_undef {k w : Nat} {e : El} {i : Nat} {x : e.T} : setEl1 k w e i x .undef = .undef := rfl
theorem cast1 {e e' : El} {x : e.T} {l : List e'.T} (h : El.cast e' e [x] = some l) : ∃ he : e = e', l = [he ▸ x] := by
 cases e <;> cases e' <;> simp [El.cast] at h <;> exact ⟨rfl, h.symm⟩
theorem optStore_ok {T : Nat} {ty : Ty} (hT : TyOK P tid T ty) (h : Rel tid B N c σ a w) {k ver : Nat} {e : El} {y : e.T} {i : Int} {o : Nat} {x : AV} {pv v : Value} (hp : AR tid c σ (.opt k ver e y i o) pv) (hx : AR tid c σ x v) (hl : storeAV σ ty (.opt k ver e y i o) x = some σ') :
  ∃ ad w' c', pv = .pointer (some ad) ∧ (storeVar T ad v).run P w = .ok () w' ∧ Rel tid B N c' σ' a w' := by
 have hw := h.hw
 unfold storeAV at hl
 split at hl
 rotate_left
 ·cases hl
 rename_i hlen hcell
 have hlen := Nat.eq_of_beq_eq_true hlen
 simp only at hl
 split at hl
 rotate_left
 ·cases hl
 rename_i hcur hfro hb hone
 have hb := Nat.le_of_ble_eq_true hb
 rw [El.enc_length] at hb
 split at hl
 rotate_left
 ·cases hl
 rename_i z hdec
 simp only [Option.some.injEq] at hl
 obtain ⟨us', hu, hul, hA, h1⟩ := hx.pieces hcell
 obtain ⟨_, _, _, hO⟩ := hp.to_A1 tid (by intro l h; cases h)
 obtain ⟨b, us, T', hκ, rfl, hblk, hle, hC⟩ := hO (cur_eq hcur)
 have hf : k ∉ σ.fr := not_fro (by rw [hfro]; rfl)
 obtain ⟨hmine, hbl, hbS, hbg, hbβ⟩ := h.own k b hf hκ
 have hCx : CR c.w c.S c.g x.cells us' := ⟨hul, fun j hj => (hA j hj).to_F tid (AV.fz1_of_one (one_of_all hone j hj))⟩
 rw [hw] at hblk
 have hst := run_storeVar (P := P) hT hblk hu (by omega) (o := i.toNat * e.sz + o) (by omega) h1
 generalize hUS : us.take (i.toNat * e.sz + o) ++ (us' ++ us.drop (i.toNat * e.sz + o + us'.length)) = US at hst
 have hlenU : US.length = us.length := by rw [← hUS]; simp; omega
 have hblk' := setRow_blk (us := US) hblk
 have hcS : ∀ b' q u, c.S b' q → c.w.cell? ⟨b', q, none⟩ = some u → (w.setRow b US.toArray).cell? ⟨b', q, none⟩ = some u := by
  intro b' q u hs hq
  rw [hw] at hq
  rw [cells_other (fun e => hbS q (by rw [← e]; exact hs))]; exact hq
 have hF : ∀ {a v}, FRel c.w c.S c.g a v → FRel (w.setRow b US.toArray) c.S c.g a v := fun r => r.stay hcS (fun _ _ h => h)
 have hz : CR (w.setRow b US.toArray) c.S c.g (e.enc z) ((US.drop (i.toNat * e.sz)).take e.sz) := by
  have e1 := piece_write us us' (i.toNat * e.sz) e.sz o (by omega) hle
  rw [hUS] at e1
  rw [e1]
  exact CR.stay hcS (fun _ _ h => h) (dec_CR hdec (hC.write hCx o (by rw [El.enc_length]; omega)))
 have hother : ∀ j, ¬ (i.toNat * e.sz ≤ j ∧ j < i.toNat * e.sz + e.sz) → US[j]? = us[j]? := by
  intro j hj
  rw [← hUS, get?_write us us' _ j (by omega), if_neg (by omega)]
 have hκo : ∀ k' b', k' ≠ k → c.κ k' = some b' → (w.setRow b US.toArray).heap[b']? = w.heap[b']? := by
  intro k' b' hk' hb'
  refine setRow_other w b b' _ (fun e => ?_)
  subst e
  by_cases hf' : k' ∈ σ.fr
  ·exact hbS 0 (h.fz k' b' hf' hb' 0)
  ·exact hk' (h.inj k' k b' hf' hf hb' hκ)
 have hv' : σ'.v = σ.v := by subst hl; rfl
 have hc' : σ'.c = σ.c := by subst hl; rfl
 have hfr' : σ'.fr = σ.fr := by subst hl; rfl
 have hgb : ∀ j, getB σ'.b j = (getB σ.b j).map (setEl1 k ver e i.toNat z) := by subst hl; exact getB_map _ _
 have hgt : ∀ j, getT σ'.t j = setEl k ver e i.toNat z (getT σ.t j) := by subst hl; exact getT_map _ rfl _
 have hgs : σ'.s = σ.s.map (setEl1 k ver e i.toNat z) := by subst hl; rfl
 have hne : ∀ j, getB σ'.b j ≠ [] ↔ getB σ.b j ≠ [] := fun j => by rw [hgb]; simp
 have hsne : σ'.s ≠ [] ↔ σ.s ≠ [] := by rw [hgs]; simp
 have main : ∀ {q u}, A1 tid c σ q u → A1 tid { c with w := w.setRow b US.toArray } σ' (setEl1 k ver e i.toNat z q) u := by
  intro q u r
  cases q with
  | lbox k' i' => exact ⟨r.1, (hne _).2 r.2⟩
  | own k' w' e' l =>
   simp only [setEl1]
   split
   ·rename_i hk' hw'
    have hk' := Nat.eq_of_beq_eq_true hk'
    have hw' := Nat.eq_of_beq_eq_true hw'
    subst hk'
    split
    ·rename_i x' hcast
     obtain ⟨he, hxe⟩ := cast1 hcast
     subst he
     simp only [List.cons.injEq, and_true] at hxe
     subst hxe
     refine ⟨r.1, by rw [hc']; exact r.2.1, fun hcu => ?_⟩
     rw [hv'] at hcu
     exact setOwn_ok hκ (by rw [hw]; exact hblk) hblk' hlenU hz hother (fun _ _ => hF) (r.2.2 hcu)
    ·exact FRel.undef _
   ·exact FRel.undef _
   ·rename_i hk'
    have hk' : k' ≠ k := by
     intro e; subst e
     simp at hk'
     cases hbw : Nat.beq w' ver
     ·simp_all
     ·simp_all
    refine ⟨r.1, by rw [hc']; exact r.2.1, fun hcu => ?_⟩
    rw [hv'] at hcu
    rcases r.2.2 hcu with r | ⟨b1, vs, g1, g2, g3, g4⟩
    ·exact .inl r
    ·exact .inr ⟨b1, vs, g1, g2, ownsRow_same g3 (fun b2 hb2 => by rw [g2] at hb2; cases hb2; rw [hw]; exact hκo k' b1 hk' g1), g4.stay hcS (fun _ _ h => h)⟩
  | vw k' w' e' l =>
   simp only [setEl1]
   split
   ·exact FRel.undef _
   ·rename_i hk'
    have hk' : k' ≠ k := by intro e; subst e; simp at hk'
    refine ⟨by rw [hc']; exact r.1, fun hcu => ?_⟩
    rw [hv'] at hcu
    rcases r.2 hcu with r | ⟨b1, off, m, vs, g1, g2, g3, g4, g5⟩
    ·exact .inl r
    ·exact .inr ⟨b1, off, m, vs, g1, g2, g3, g4.same (by rw [hw]; exact hκo k' b1 hk' g1), g5.stay hcS (fun _ _ h => h)⟩
  | vpt k' w' e' y' o' =>
   simp only [setEl1]
   split
   ·exact FRel.undef _
   ·rename_i hk'
    have hk' : k' ≠ k := by intro e; subst e; simp at hk'
    obtain ⟨ad, r0, r1, r2⟩ := r
    refine ⟨ad, r0, by rw [hc']; exact r1, fun hcu => ?_⟩
    rw [hv'] at hcu
    obtain ⟨b1, off, vs, g1, g2, g3, g4⟩ := r2 hcu
    exact ⟨b1, off, vs, g1, g2, g3.same (by rw [hw]; exact hκo k' b1 hk' g1), g4.stay hcS (fun _ _ h => h)⟩
  | opt k' w' e' y' i' o' =>
   simp only [setEl1]
   split
   ·exact FRel.undef _
   ·rename_i hk'
    have hk' : k' ≠ k := by intro e; subst e; simp at hk'
    obtain ⟨ad, r0, r1, r2⟩ := r
    refine ⟨ad, r0, by rw [hc']; exact r1, fun hcu => ?_⟩
    rw [hv'] at hcu
    obtain ⟨b1, us1, T1, g1, g2, g3, g4, g5⟩ := r2 hcu
    refine ⟨b1, us1, T1, g1, g2, ?_, g4, g5.stay hcS (fun _ _ h => h)⟩
    unfold Blk at g3 ⊢
    rw [hw] at g3
    rw [show ({ c with w := w.setRow b US.toArray } : Cx).w = w.setRow b US.toArray from rfl, hκo k' b1 hk' g1]; exact g3
  | _ => exact hF r
 have hrow : ∀ {b1 l}, b1 ≠ b → RowR tid c σ b1 l → RowR tid { c with w := w.setRow b US.toArray } σ' b1 (l.map (setEl1 k ver e i.toNat z)) := by
  intro b1 l hb1 r
  obtain ⟨vs, T1, g1, g2, g3⟩ := r
  refine ⟨vs, T1, ?_, by simp [g2], fun j hj => ?_⟩
  ·unfold Blk at g1 ⊢
   rw [hw] at g1
   rw [show ({ c with w := w.setRow b US.toArray } : Cx).w = w.setRow b US.toArray from rfl, setRow_other w b b1 _ hb1]; exact g1
  ·rw [map_getD _ rfl]
   exact main (g3 j (by simpa using hj))
 refine ⟨_, _, { c with w := w.setRow b US.toArray }, rfl, hst, { hw := rfl, ds := h.ds, n := h.n, t := fun j => ?_, b := fun j hj => ?_, s := fun hs => ?_, ver := ?_, fz := ?_, own := fun k' b' hk' hb' => ?_, inj := ?_, box := fun j hj => ?_, gg := fun hs => h.gg (hsne.1 hs), old := h.old, grow := h.grow, stsz := fun b o hs => by rw [setRow_size]; exact h.stsz b o hs, keep := h.keep.write hmine }⟩
 ·rw [hgt]
  have r := h.t j
  generalize getT σ.t j = q at r
  cases q with
  | agg l =>
   obtain ⟨vs, r1, r2, r3⟩ := r
   refine ⟨vs, r1, by simp [r2], fun n hn => ?_⟩
   rw [map_getD _ rfl]
   exact main (r3 n (by simpa using hn))
  | _ => exact AR.of_A1' (main (r.to_A1 tid (by intro l h; cases h)))
 ·have hj0 := (hne j).1 hj
  rw [hgb]
  exact hrow (Ne.symm (hbβ j hj0)) (h.b j hj0)
 ·have hs0 := hsne.1 hs
  rw [hgs]
  exact hrow (Ne.symm (hbg hs0)) (h.s hs0)
 ·rw [hv', hc']; exact h.ver
 ·rw [hfr']; exact h.fz
 ·rw [hfr'] at hk'
  have r := h.own k' b' hk' hb'
  exact ⟨r.1, by rw [setRow_size]; exact r.2.1, r.2.2.1, fun hs => r.2.2.2.1 (hsne.1 hs), fun j hj => r.2.2.2.2 j ((hne j).1 hj)⟩
 ·rw [hfr']; exact h.inj
 ·have r := h.box j ((hne j).1 hj)
  exact ⟨r.1, r.2.1, fun hs => r.2.2.1 (hsne.1 hs), fun j' hj' => r.2.2.2 j' ((hne j').1 hj')⟩
end
end Go.AI
namespace Go.AI
theorem El.enc_plain (e : El) (x : e.T) : (e.enc x).all AV.plain = true := by cases e <;> rfl
theorem plain_get {l : List AV} (h : l.all AV.plain = true) (j : Nat) : (l.getD j .undef).plain = true := by
 rw [List.getD_eq_getElem?_getD]
 cases hj : l[j]? with
 | none => rfl
 | some x => exact List.all_eq_true.1 h x (List.mem_of_getElem? hj)
theorem FRel.plain {w : World} {S : Nat → Nat → Prop} {g g' : Nat} {a : AV} {v : Value} (h : FRel w S g a v) : a.plain = true → FRel w S g' a v := by
 induction h with
 | undef v => exact fun _ => .undef v
 | skip => exact fun _ => .skip
 | int n => exact fun _ => .int n
 | bool b => exact fun _ => .bool b
 | ik k n => exact fun _ => .ik k n
 | str s => exact fun _ => .str s
 | nil a => exact fun _ => .nil a
 | sl0 e a c => exact fun _ => .sl0 e a c
 | sl e xs b off c V hc hn hV hm ih => exact fun _ => .sl e xs b off c V hc hn (fun i j hi hj => ih i j hi hj (plain_get (El.enc_plain e _) j)) hm
 | _ => intro h; simp [AV.plain] at h
theorem FRel.plainA {w : World} {S : Nat → Nat → Prop} {g g' : Nat} {a : AV} {v : Value} (h : FRel w S g a v) (hp : a.plainA = true) : FRel w S g' a v := by
 cases a with
 | agg l => cases h with | agg _ vs hl ho hA => exact .agg l vs hl ho fun i hi => (hA i hi).plain (plain_get hp i)
 | _ => exact FRel.plain h hp
theorem CR.plain {w : World} {S : Nat → Nat → Prop} {g g' : Nat} {l : List AV} {vs : List Value} (h : CR w S g l vs) (hp : l.all AV.plain = true) : CR w S g' l vs :=
 ⟨h.1, fun i hi => (h.2 i hi).plain (plain_get hp i)⟩
section
variable (tid : El → Nat)
def st0 : St := ⟨[], [], [], [], 0, []⟩
structure SRep (τ : STy) (w : World) (S : Nat → Nat → Prop) (g : Nat) (κ : Nat → Option Nat) (p : τ.T) : Prop where
 row : τ.enc 0 p ≠ [] → RowR tid ⟨w, S, g, κ, fun _ => 0⟩ st0 g (τ.enc 0 p)
 st : ∀ b o, S b o → b < w.heap.size
 gs : τ.enc 0 p ≠ [] → ∀ o, ¬ S g o
 own : ∀ k b, κ k = some b → k ∈ τ.keys ∧ b < w.heap.size ∧ (∀ o, ¬ S b o) ∧ b ≠ g
 inj : ∀ k k' b, κ k = some b → κ k' = some b → k = k'
def Foot (τ : STy) (g : Nat) (κ : Nat → Option Nat) (b : Nat) : Prop := (τ ≠ .unit ∧ b = g) ∨ ∃ k, κ k = some b
def RetV (w : World) (S : Nat → Nat → Prop) (g : Nat) (κ : Nat → Option Nat) (n : Nat) : AV → Value → Prop
 | .new l, u => ∃ nb vs T, u = .pointer (some ⟨nb, 0, none⟩) ∧ Blk w nb vs T ∧ CR w S g l vs ∧ n ≤ nb ∧ (∀ o, ¬ S nb o) ∧ ∀ k, κ k ≠ some nb
 | x, u => FRel w S g x u
def RetOK (τ : STy) (w : World) (S : Nat → Nat → Prop) (g : Nat) (κ : Nat → Option Nat) (r : AV × τ.T) : Ending → World → Prop
 | .returned u, w' => ∃ S' κ', SRep tid τ w' S' g κ' r.2 ∧ Keep w (Foot τ g κ) w' ∧ (∀ b o, S b o → S' b o) ∧ (∀ b o, S' b o → S b o ∨ Foot τ g κ b ∨ w.heap.size ≤ b) ∧
   (∀ k b, κ' k = some b → Foot τ g κ b ∨ w.heap.size ≤ b) ∧ RetV w' S' g κ' w.heap.size r.1 u
 | _, _ => False
def Goes (P : Program) (f : Nat) : Prop := ∃ fn, P.funcs[f]? = some fn ∧ (fn.name == "runtime.NumGoroutine") = false ∧ fn.body.isNone = false
def CallsOK (P : Program) (call : (τ : STy) → Nat → List AV → τ.T → Option (AV × τ.T)) : Prop :=
 ∀ τ f args p r, call τ f args p = some r → Goes P f ∧ ∀ w S g κ vs, SRep tid τ w S g κ p → CR w S g args vs → Calls P f vs.toArray w (RetOK tid τ w S g κ r)
variable {tid} {c c' : Cx} {σ σ' : St} {B : Base} {N : Nat} {a : Act} {w : World} {P : Program}
theorem El.cast_self {e : El} {l m : List e.T} (h : El.cast e e l = some m) : m = l := by cases e <;> simp [El.cast] at h <;> exact h.symm
theorem asSl_ok {w : World} {S : Nat → Nat → Prop} {g : Nat} {e : El} {x : AV} {l : List e.T} {v : Value} (h : asSl e x = some l) (hF : FRel w S g x v) : FRel w S g (.sl e l) v := by
 unfold asSl at h
 split at h
 ·obtain ⟨rfl, hh⟩ := El.cast_eq h
  have := eq_of_heq hh; subst this
  exact hF
 ·simp only [Option.some.injEq] at h; subst h; cases hF; exact .sl0 _ _ _
 ·cases h
theorem asSl_fz {e : El} {x : AV} {l : List e.T} (h : asSl e x = some l) : x.fz1 = true := by
 unfold asSl at h
 split at h <;> first | rfl | cases h
theorem enc_ver (τ : STy) (q : Nat) (p : τ.T) (c1 c2 : Cx) (σ1 σ2 : St) (hw : c2.w = c1.w) (hS : c2.S = c1.S) (hg : c2.g = c1.g) (hκ : ∀ k, k ∈ τ.keys → c2.κ k = c1.κ k) (h1 : ∀ k, k ∈ τ.keys → getV σ1.v k = 0) (h2 : q ≤ σ2.c) {i : Nat} {v : Value}
  (h : A1 tid c1 σ1 ((τ.enc 0 p).getD i .undef) v) : A1 tid c2 σ2 ((τ.enc q p).getD i .undef) v := by
 have hF : ∀ {x}, FRel c1.w c1.S c1.g x v → FRel c2.w c2.S c2.g x v := fun r => by rw [hw, hS, hg]; exact r
 have hO : ∀ {k e} {l : List e.T}, k ∈ τ.keys → A1 tid c1 σ1 (.own k 0 e l) v → A1 tid c2 σ2 (.own k q e l) v := by
  intro k e l hk r
  refine ⟨r.1, h2, fun _ => ?_⟩
  rcases r.2.2 (h1 k hk).symm with r | ⟨b, vs, r1, r2, r3, r4⟩
  ·exact .inl r
  ·exact .inr ⟨b, vs, by rw [hκ k hk]; exact r1, r2, by rw [hw]; exact r3, by rw [hw, hS, hg]; exact r4⟩
 cases τ with
 | unit => exact hF (by simpa [STy.enc, A1] using h)
 | prog =>
  match i, h with
  | 0, h => exact hF h
  | 1, h => exact hF h
  | 2, h => exact hF h
  | 3, h => exact hF h
  | 4, h => exact hO (by simp [STy.keys]) h
  | 5, h => exact hF h
  | 6, h => exact hF h
  | 7, h => exact hF h
  | 8, h => exact hF h
  | 9, h => exact hF h
  | n + 10, h => exact hF h
 | ref =>
  match i, h with
  | 0, h => exact hF h
  | 1, h => exact hF h
  | 2, h => exact hO (by simp [STy.keys]) h
  | 3, h => exact hO (by simp [STy.keys]) h
  | 4, h => exact hF h
  | 5, h => exact hF h
  | 6, h => exact hF h
  | 7, h => exact hF h
  | 8, h => exact hF h
  | n + 9, h => exact hF h
theorem enc_length (τ : STy) (q q' : Nat) (p : τ.T) : (τ.enc q p).length = (τ.enc q' p).length := by cases τ <;> rfl
theorem enc_ne (τ : STy) (q : Nat) (p : τ.T) : τ.enc q p ≠ [] ↔ τ ≠ .unit := by cases τ <;> simp [STy.enc]
theorem asOwn_spec {v : List (Nat × Nat)} {fr : List Nat} {q : Nat} {e : El} {x : AV} {l : List e.T} (h : asOwn v fr q e x = some l) :
  (x = .nil ∧ l = []) ∨ ∃ k w, x = .own k w e l ∧ w = getV v k ∧ k ∉ fr ∧ (k = q ∨ k < 1000) := by
 unfold asOwn at h
 split at h
 ·split at h
  ·rename_i h1 h2 h3
   obtain ⟨rfl, hh⟩ := El.cast_eq h
   have := eq_of_heq hh; subst this
   refine .inr ⟨_, _, rfl, Nat.eq_of_beq_eq_true h1, by simpa using h2, ?_⟩
   simp only [Bool.or_eq_true] at h3
   rcases h3 with h3 | h3
   ·exact .inl (Nat.eq_of_beq_eq_true h3)
   ·exact .inr (by simp [Nat.blt] at h3; omega)
  ·cases h
 ·simp only [Option.some.injEq] at h; exact .inl ⟨rfl, h.symm⟩
 ·cases h
theorem asOwn_ok {q : Nat} {e : El} {x : AV} {l : List e.T} {v : Value} {κ0 : Nat → Option Nat} {gb : Nat} (h : asOwn σ.v σ.fr q e x = some l) (hA : A1 tid c σ x v)
  (hκ : ∀ k, keyOf x = some k → κ0 q = c.κ k) (hplain : ∀ {l : List AV} {vs : List Value}, l.all AV.plain = true → CR c.w c.S c.g l vs → CR c.w c.S gb l vs) : A1 tid ⟨c.w, c.S, gb, κ0, fun _ => 0⟩ st0 (.own q 0 e l) v := by
 rcases asOwn_spec h with ⟨rfl, rfl⟩ | ⟨k, w, rfl, rfl, hk, _⟩
 ·have hF : FRel c.w c.S c.g .nil v := hA
  cases hF
  exact ⟨⟨_, _, _, rfl⟩, Nat.le_refl _, fun _ => .inl ⟨rfl, _, rfl⟩⟩
 ·refine ⟨hA.1, Nat.le_refl _, fun _ => ?_⟩
  rcases hA.2.2 rfl with r | ⟨b, vs, r1, r2, r3, r4⟩
  ·exact .inl r
  ·refine .inr ⟨b, vs, (hκ k rfl).trans r1, r2, r3, hplain ?_ r4⟩
   rw [List.all_eq_true]
   intro y hy
   obtain ⟨x, hx, hy⟩ := List.mem_flatMap.1 hy
   exact List.all_eq_true.1 (El.enc_plain e x) y hy
theorem key_mem {x : AV} {l : List AV} {k : Nat} (h : keyOf x = some k) (hx : x ∈ l) : k ∈ ownKeys l := by
 unfold keyOf at h
 split at h
 ·simp only [Option.some.injEq] at h; subst h
  exact List.mem_filterMap.2 ⟨_, hx, rfl⟩
 ·cases h
theorem key_fr {q : Nat} {e : El} {x : AV} {l : List e.T} {k : Nat} (h : asOwn σ.v σ.fr q e x = some l) (hk : keyOf x = some k) : k ∉ σ.fr := by
 rcases asOwn_spec h with ⟨rfl, rfl⟩ | ⟨k', w, rfl, rfl, hk', _⟩
 ·simp [keyOf] at hk
 ·simp only [keyOf, Option.some.injEq] at hk; subst hk; exact hk'
theorem ownKeys_sl {e : El} {x : AV} {l : List e.T} (h : asSl e x = some l) : keyOf x = none := by
 unfold asSl at h
 split at h <;> first | rfl | cases h
theorem mem_ownKeys {l : List AV} {k : Nat} (h : k ∈ ownKeys l) : ∃ x, x ∈ l ∧ keyOf x = some k := by
 obtain ⟨x, hx, hk⟩ := List.mem_filterMap.1 h
 refine ⟨x, hx, ?_⟩
 cases x <;> first | exact hk | simp at hk
theorem key_q {q : Nat} {e : El} {x : AV} {l : List e.T} {k : Nat} (h : asOwn σ.v σ.fr q e x = some l) (hk : keyOf x = some k) : k = q ∨ k < 1000 := by
 rcases asOwn_spec h with ⟨rfl, rfl⟩ | ⟨k', w, rfl, rfl, _, hk'⟩
 ·simp [keyOf] at hk
 ·simp only [keyOf, Option.some.injEq] at hk; subst hk; exact hk'
theorem getD_ge {l : List AV} {i : Nat} (h : l.length ≤ i) : l.getD i .undef = .undef := by rw [List.getD_eq_getElem?_getD, List.getElem?_eq_none h]; rfl
theorem decRow {τ : STy} {p : τ.T} {gb : Nat} {cells : List AV} {vs : List Value} (hinj : ∀ k k' b, k ∉ σ.fr → k' ∉ σ.fr → c.κ k = some b → c.κ k' = some b → k = k')
  (hl : cells.length = vs.length) (hA : ∀ i, i < cells.length → A1 tid c σ (cells.getD i .undef) (vs.getD i Go.undef)) (hd : τ.dec σ.v σ.fr cells = some p) :
  ∃ κ0 : Nat → Option Nat, (τ.enc 0 p).length = vs.length ∧ (∀ i, i < (τ.enc 0 p).length → A1 tid ⟨c.w, c.S, gb, κ0, fun _ => 0⟩ st0 ((τ.enc 0 p).getD i .undef) (vs.getD i Go.undef)) ∧
   (∀ k b, κ0 k = some b → k ∈ τ.keys ∧ ∃ k', k' ∈ ownKeys cells ∧ k' ∉ σ.fr ∧ c.κ k' = some b) ∧ (∀ k k' b, κ0 k = some b → κ0 k' = some b → k = k') ∧ ∀ k, k ∈ τ.keys → k ∈ ownKeys cells → κ0 k = c.κ k := by
 have hplain : ∀ {l : List AV} {vs : List Value}, l.all AV.plain = true → CR c.w c.S c.g l vs → CR c.w c.S gb l vs := fun hp h => h.plain hp
 have hP : ∀ {x : AV} {v : Value}, x.plain = true → x.fz1 = true → A1 tid c σ x v → FRel c.w c.S gb x v := fun h1 h2 r => (r.to_F tid h2).plain h1
 have hS : ∀ {e : El} {x : AV} {l : List e.T} {v : Value}, asSl e x = some l → A1 tid c σ x v → FRel c.w c.S gb (.sl e l) v := fun h r => (asSl_ok h (r.to_F tid (asSl_fz h))).plain rfl
 cases τ with
 | unit =>
  simp only [STy.dec] at hd
  unfold decU at hd
  split at hd
  ·exact ⟨fun _ => none, hl, fun i hi => (by simp [STy.enc] at hi), fun k b h => (by simp at h), fun k k' b h => (by simp at h), fun k hk => (by simp [STy.keys] at hk)⟩
  ·cases hd
 | prog =>
  simp only [STy.dec] at hd
  unfold decPS at hd
  split at hd
  rotate_left
  ·cases hd
  rename_i a0 a1 a2 a3 a4 a5 a6 a7 a8 a9
  split at hd
  rotate_left
  ·cases hd
  rename_i l sig row h0 h1 h4
  simp only [Option.some.injEq] at hd
  subst hd
  refine ⟨fun j => if j = 1004 then (keyOf a4).bind c.κ else none, hl, fun i hi => ?_, fun k b h => ?_, fun k k' b h h' => ?_, fun k hk hmem => ?_⟩
  ·have r := hA i hi
   match i, r with
   | 0, r => exact hS h0 r
   | 1, r => exact hS h1 r
   | 2, r => exact hP rfl rfl r
   | 3, r => exact hP rfl rfl r
   | 4, r => exact asOwn_ok h4 r (fun k hk => by simp [hk]) hplain
   | 5, r => exact hP rfl rfl r
   | 6, r => exact hP rfl rfl r
   | 7, r => exact hP rfl rfl r
   | 8, r => exact hP rfl rfl r
   | 9, r => exact hP rfl rfl r
   | n + 10, r => simp [STy.enc] at hi; omega
  ·dsimp only at h
   split at h
   ·rename_i hk
    obtain ⟨k', h5, h6⟩ := Option.bind_eq_some_iff.1 h
    exact ⟨by simp [STy.keys, hk], k', key_mem h5 (by simp), key_fr h4 h5, h6⟩
   ·cases h
  ·dsimp only at h h'
   split at h <;> split at h' <;> first | (cases h; done) | (cases h'; done) | omega
  ·have hk : k = 1004 := by simpa [STy.keys] using hk
   subst hk
   obtain ⟨x, hx, hkx⟩ := mem_ownKeys hmem
   simp only [List.mem_cons, List.not_mem_nil, or_false] at hx
   rcases hx with rfl | rfl | rfl | rfl | rfl | rfl | rfl | rfl | rfl | rfl <;> first
    | (simp [keyOf] at hkx; done)
    | (simp [hkx]; done)
    | (rw [ownKeys_sl h0] at hkx; cases hkx)
    | (rw [ownKeys_sl h1] at hkx; cases hkx)
 | ref =>
  simp only [STy.dec] at hd
  unfold decQS at hd
  split at hd
  rotate_left
  ·cases hd
  rename_i a0 a1 a2 a3 a4 a5 a6 a7 a8
  split at hd
  rotate_left
  ·cases hd
  rename_i l row high h0 h2 h3 hap
  simp only [Option.some.injEq] at hd
  subst hd
  refine ⟨fun j => if j = 1002 then (keyOf a2).bind c.κ else if j = 1003 then (keyOf a3).bind c.κ else none, hl, fun i hi => ?_, fun k b h => ?_, fun k k' b h h' => ?_, fun k hk hmem => ?_⟩
  ·have r := hA i hi
   match i, r with
   | 0, r => exact hS h0 r
   | 1, r => exact hP rfl rfl r
   | 2, r => exact asOwn_ok h2 r (fun k hk => by simp [hk]) hplain
   | 3, r => exact asOwn_ok h3 r (fun k hk => by simp [hk]) hplain
   | 4, r => exact hP rfl rfl r
   | 5, r => exact hP rfl rfl r
   | 6, r => exact hP rfl rfl r
   | 7, r => exact hP rfl rfl r
   | 8, r => exact hP rfl rfl r
   | n + 9, r => simp [STy.enc] at hi; omega
  ·dsimp only at h
   split at h
   ·rename_i hk
    obtain ⟨k', h5, h6⟩ := Option.bind_eq_some_iff.1 h
    exact ⟨by simp [STy.keys, hk], k', key_mem h5 (by simp), key_fr h2 h5, h6⟩
   ·split at h
    ·rename_i hk
     obtain ⟨k', h5, h6⟩ := Option.bind_eq_some_iff.1 h
     exact ⟨by simp [STy.keys, hk], k', key_mem h5 (by simp), key_fr h3 h5, h6⟩
    ·cases h
  ·have hcl : ∀ {k2 k3}, (keyOf a2) = some k2 → (keyOf a3) = some k3 → c.κ k2 = some b → c.κ k3 = some b → False := by
    intro k2 k3 e2 e3 g2 g3
    have := hinj k2 k3 b (key_fr h2 e2) (key_fr h3 e3) g2 g3
    subst this
    simp [keysApart, e2, e3] at hap
   dsimp only at h h'
   by_cases e1 : k = 1002
   ·by_cases e2 : k' = 1002
    ·rw [e1, e2]
    ·simp only [if_pos e1] at h
     simp only [if_neg e2] at h'
     split at h'
     ·obtain ⟨k2, g1, g2⟩ := Option.bind_eq_some_iff.1 h
      obtain ⟨k3, g3, g4⟩ := Option.bind_eq_some_iff.1 h'
      exact (hcl g1 g3 g2 g4).elim
     ·cases h'
   ·simp only [if_neg e1] at h
    split at h
    ·rename_i e3
     by_cases e2 : k' = 1002
     ·simp only [if_pos e2] at h'
      obtain ⟨k2, g1, g2⟩ := Option.bind_eq_some_iff.1 h'
      obtain ⟨k3, g3, g4⟩ := Option.bind_eq_some_iff.1 h
      exact (hcl g1 g3 g2 g4).elim
     ·simp only [if_neg e2] at h'
      split at h'
      ·omega
      ·cases h'
    ·cases h
  ·obtain ⟨x, hx, hkx⟩ := mem_ownKeys hmem
   have hk : k = 1002 ∨ k = 1003 := by simpa [STy.keys] using hk
   have hq2 : ∀ k, keyOf a2 = some k → k = 1002 ∨ k < 1000 := fun k hk => key_q h2 hk
   have hq3 : ∀ k, keyOf a3 = some k → k = 1003 ∨ k < 1000 := fun k hk => key_q h3 hk
   simp only [List.mem_cons, List.not_mem_nil, or_false] at hx
   rcases hx with rfl | rfl | rfl | rfl | rfl | rfl | rfl | rfl | rfl <;> first
    | (simp [keyOf] at hkx; done)
    | (rw [ownKeys_sl h0] at hkx; cases hkx; done)
    | (have := hq2 k hkx; have e : k = 1002 := (by omega); subst e; simp [hkx]; done)
    | (have := hq3 k hkx; have e : k = 1003 := (by omega); subst e; simp [hkx]; done)
end
end Go.AI
