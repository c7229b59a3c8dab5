/- DERIVED. THE EVALUATOR, THE READER, THE SCANNER: lemmas for Deep. -/
import Derived.Test.YtoppjmglhddleaaGreatBa
import Derived.Great.BuildSlice
import Derived.Laws.StructEq
set_option linter.unusedVariables false
set_option linter.unusedSimpArgs false
namespace Go.AI
section
variable {tid : El → Nat} {c c' : Cx} {σ σ' : St} {B : Base} {N : Nat} {a : Act} {w : World}
theorem Step.trans {c'' : Cx} {σ'' : St} (h : Step c σ c' σ') (k : Step c' σ' c'' σ'') : Step c σ c'' σ'' := by
 refine ⟨k.g.trans h.g, fun b o x hs hx => k.cells b o x (h.S b o hs) (h.cells b o x hs hx), fun b o hs => k.S b o (h.S b o hs), Nat.le_trans h.cc k.cc, fun i hi => ?_, fun i => ?_⟩
 ·have h1 := h.box i hi; have h2 := k.box i h1.1; exact ⟨h2.1, h2.2.trans h1.2⟩
 ·rcases k.key i with ⟨k1, k2, k3⟩ | k1
  ·rcases h.key i with ⟨h1, h2, h3⟩ | h1
   ·exact .inl ⟨k1.trans h1, k2.trans h2, fun b hb => (k3 b (by rw [h2]; exact hb)).trans (h3 b hb)⟩
   ·exact .inr (by rw [k1]; exact h1)
  ·exact .inr (by have := h.cc; omega)
theorem Step.refl (c : Cx) (σ : St) : Step c σ c σ := .same rfl rfl rfl
def Cx.frz (c : Cx) (k : Nat) : Cx := { c with S := fun b o => c.S b o ∨ c.κ k = some b }
theorem Rel.frz (h : Rel tid B N c σ a w) (k : Nat) : Rel tid B N (c.frz k) { σ with fr := k :: σ.fr } a w ∧ Step c σ (c.frz k) { σ with fr := k :: σ.fr } := by
 have st : Step c σ (c.frz k) { σ with fr := k :: σ.fr } := ⟨rfl, fun _ _ _ _ h => h, fun _ _ h => .inl h, Nat.le_refl _, fun _ h => ⟨h, rfl⟩, fun _ => .inl ⟨rfl, rfl, fun _ _ => rfl⟩⟩
 have hk : ∀ b, c.κ k = some b → (B.mine b ∨ B.S0 b 0) ∧ b < w.heap.size ∧ (σ.s ≠ [] → b ≠ c.g) ∧ (∀ j, getB σ.b j ≠ [] → b ≠ c.β j) ∧ (∀ o, B.S0 b o ∨ B.mine b) := by
  intro b hb
  by_cases hf : k ∈ σ.fr
  ·have hs := h.fz k b hf hb
   refine ⟨(h.old b 0 (hs 0)).symm, h.stsz b 0 (hs 0), fun hne e => (h.gg hne).2 0 (by rw [← e]; exact hs 0), fun j hj e => (h.box j hj).2.1 0 (by rw [← e]; exact hs 0), fun o => h.old b o (hs o)⟩
  ·have := h.own k b hf hb
   exact ⟨.inl this.1, this.2.1, this.2.2.2.1, this.2.2.2.2, fun o => .inr this.1⟩
 refine ⟨{ hw := h.hw, ds := h.ds, n := h.n, t := fun i => (h.t i).step st, b := fun i hi => (h.b i hi).step st rfl, s := fun hs => (h.s hs).step st rfl, ver := h.ver, fz := fun i b hi hb o => ?_, own := fun i b hi hb => ?_, inj := fun i j b hi hj => ?_, box := fun i hi => ?_, gg := fun hs => ?_, old := fun b o hs => ?_, grow := fun b o hs => .inl (h.grow b o hs), stsz := fun b o hs => ?_, keep := h.keep }, st⟩
 ·rcases List.mem_cons.1 hi with rfl | hi
  ·exact .inr hb
  ·exact .inl (h.fz i b hi hb o)
 ·have hi' : i ≠ k ∧ i ∉ σ.fr := by simpa using hi
  have r := h.own i b hi'.2 hb
  refine ⟨r.1, r.2.1, fun o hs => ?_, r.2.2.2⟩
  rcases hs with hs | hs
  ·exact r.2.2.1 o hs
  ·by_cases hf : k ∈ σ.fr
   ·exact r.2.2.1 o (h.fz k b hf hs o)
   ·exact hi'.1 (h.inj i k b hi'.2 hf hb hs)
 ·have hi' : i ≠ k ∧ i ∉ σ.fr := by simpa using hi
  have hj' : j ≠ k ∧ j ∉ σ.fr := by simpa using hj
  exact h.inj i j b hi'.2 hj'.2
 ·have r := h.box i hi
  refine ⟨r.1, fun o hs => ?_, r.2.2⟩
  rcases hs with hs | hs
  ·exact r.2.1 o hs
  ·exact (hk _ hs).2.2.2.1 i hi rfl
 ·have r := h.gg hs
  refine ⟨r.1, fun o hs' => ?_⟩
  rcases hs' with hs' | hs'
  ·exact r.2 o hs'
  ·exact (hk _ hs').2.2.1 hs rfl
 ·rcases hs with hs | hs
  ·exact h.old b o hs
  ·exact (hk b hs).2.2.2.2 o
 ·rcases hs with hs | hs
  ·exact h.stsz b o hs
  ·exact (hk b hs).2.1
theorem freeze1_ok (h : Rel tid B N c σ a w) {x y : AV} {v : Value} (hx : A1 tid c σ x v) (hf : freeze1 σ x = some (y, σ')) :
  ∃ c', Step c σ c' σ' ∧ Rel tid B N c' σ' a w ∧ FRel c'.w c'.S c'.g y v ∧ y.fz1 = true ∧ (x.cell = true → y.one = true) := by
 unfold freeze1 at hf
 split at hf
 ·rename_i k ver e l
  split at hf
  ·rename_i hcur hk
   simp only [Option.some.injEq, Prod.mk.injEq] at hf
   obtain ⟨rfl, rfl⟩ := hf
   obtain ⟨h1, h2⟩ := h.frz k
   obtain ⟨_, hv, hO⟩ := hx
   have hO := hO (cur_eq hcur)
   refine ⟨_, h2, h1, FRel.ofSl ?_, rfl, fun _ => rfl⟩
   rcases hO.cells with ⟨rfl, ad, rfl⟩ | ⟨b, m, vs, h3, rfl, hm, h4, h5⟩
   ·exact ⟨ad, 0, rfl, Nat.le_refl _, .inl rfl⟩
   ·exact ⟨_, m, rfl, hm, .inr ⟨b, 0, vs, rfl, h4, h5.step h2, fun j hj => .inr h3⟩⟩
  ·cases hf
 ·split at hf
  ·rename_i hfz
   simp only [Option.some.injEq, Prod.mk.injEq] at hf
   obtain ⟨rfl, rfl⟩ := hf
   refine ⟨c, .refl c σ, h, hx.to_F tid hfz, hfz, fun hc => ?_⟩
   cases x <;> first | rfl | (simp [AV.cell, AV.one] at hc; done) | (simp [AV.one, AV.fz1] at hfz; done)
  ·cases hf
theorem freezeL_ok {l : List AV} : ∀ {c : Cx} {σ : St} {vs : List Value} {l' : List AV} {σ' : St}, Rel tid B N c σ a w → l.length = vs.length → (∀ i, i < l.length → A1 tid c σ (l.getD i .undef) (vs.getD i Go.undef)) → freezeL l σ = some (l', σ') →
  ∃ c', Step c σ c' σ' ∧ Rel tid B N c' σ' a w ∧ CR c'.w c'.S c'.g l' vs ∧ l'.all AV.one = true := by
 induction l with
 | nil =>
  intro c σ vs l' σ' h hl hA hf
  simp only [freezeL, Option.some.injEq, Prod.mk.injEq] at hf
  obtain ⟨rfl, rfl⟩ := hf
  have : vs = [] := List.eq_nil_of_length_eq_zero (by simpa using hl.symm)
  subst this
  exact ⟨c, .refl c σ, h, .nil _ _ _, rfl⟩
 | cons x l ih =>
  intro c σ vs l' σ' h hl hA hf
  cases vs with
  | nil => simp at hl
  | cons v vs =>
   simp only [freezeL] at hf
   split at hf
   rotate_left
   ·cases hf
   rename_i y σ1 h1
   split at hf
   rotate_left
   ·cases hf
   rename_i r' σ2 h2
   simp only [Option.some.injEq, Prod.mk.injEq] at hf
   obtain ⟨rfl, rfl⟩ := hf
   unfold freezeC at h1
   split at h1
   rotate_left
   ·cases h1
   rename_i hcell
   have hx : A1 tid c σ x v := by simpa using hA 0 (by simp)
   obtain ⟨c1, s1, R1, F1, _, o1⟩ := freeze1_ok h hx h1
   obtain ⟨c2, s2, R2, C2, o2⟩ := ih R1 (by simpa using hl) (fun i hi => (by
    have := hA (i + 1) (by simp; omega)
    simp only [List.getD_cons_succ] at this
    exact this.step s1)) h2
   refine ⟨c2, s1.trans s2, R2, ⟨by simp [C2.1], fun i hi => ?_⟩, by simp [o1 hcell]; simpa using o2⟩
   cases i with
   | zero => simpa using F1.step s2
   | succ i => simpa using C2.2 i (by simpa using hi)
theorem freeze_ok (h : Rel tid B N c σ a w) {x y : AV} {v : Value} (hx : AR tid c σ x v) (hf : freeze σ x = some (y, σ')) :
  ∃ c', Step c σ c' σ' ∧ Rel tid B N c' σ' a w ∧ FRel c'.w c'.S c'.g y v := by
 cases x with
 | agg l =>
  simp only [freeze] at hf
  split at hf
  rotate_left
  ·cases hf
  rename_i l' σ1 h1
  simp only [Option.some.injEq, Prod.mk.injEq] at hf
  obtain ⟨rfl, rfl⟩ := hf
  obtain ⟨vs, rfl, hl, hA⟩ := hx
  obtain ⟨c1, s1, R1, C1, o1⟩ := freezeL_ok h hl hA h1
  exact ⟨c1, s1, R1, .agg _ _ C1.1 o1 C1.2⟩
 | _ =>
  obtain ⟨c1, s1, R1, F1, _⟩ := freeze1_ok h (hx.to_A1 tid (by intro l h; cases h)) hf
  exact ⟨c1, s1, R1, F1⟩
theorem freezeAll_ok {l : List AV} : ∀ {c : Cx} {σ : St} {vs : List Value} {l' : List AV} {σ' : St}, Rel tid B N c σ a w → l.length = vs.length → (∀ i, i < l.length → AR tid c σ (l.getD i .undef) (vs.getD i Go.undef)) → freezeAll l σ = some (l', σ') →
  ∃ c', Step c σ c' σ' ∧ Rel tid B N c' σ' a w ∧ CR c'.w c'.S c'.g l' vs := by
 induction l with
 | nil =>
  intro c σ vs l' σ' h hl hA hf
  simp only [freezeAll, Option.some.injEq, Prod.mk.injEq] at hf
  obtain ⟨rfl, rfl⟩ := hf
  have : vs = [] := List.eq_nil_of_length_eq_zero (by simpa using hl.symm)
  subst this
  exact ⟨c, .refl c σ, h, .nil _ _ _⟩
 | cons x l ih =>
  intro c σ vs l' σ' h hl hA hf
  cases vs with
  | nil => simp at hl
  | cons v vs =>
   simp only [freezeAll] at hf
   split at hf
   rotate_left
   ·cases hf
   rename_i y σ1 h1
   split at hf
   rotate_left
   ·cases hf
   rename_i r' σ2 h2
   simp only [Option.some.injEq, Prod.mk.injEq] at hf
   obtain ⟨rfl, rfl⟩ := hf
   have hx : AR tid c σ x v := by simpa using hA 0 (by simp)
   obtain ⟨c1, s1, R1, F1⟩ := freeze_ok h hx h1
   obtain ⟨c2, s2, R2, C2⟩ := ih R1 (by simpa using hl) (fun i hi => (by
    have := hA (i + 1) (by simp; omega)
    simp only [List.getD_cons_succ] at this
    exact this.step s1)) h2
   refine ⟨c2, s1.trans s2, R2, ⟨by simp [C2.1], fun i hi => ?_⟩⟩
   cases i with
   | zero => simpa using F1.step s2
   | succ i => simpa using C2.2 i (by simpa using hi)
theorem rows_ok (h : Rel tid B N c σ a w) {x : AV} {v : Value} (hx : AR tid c σ x v) {e : El} {l : List e.T} (hr : rows σ x = some ⟨e, l⟩) :
  ∃ ad m, v = .slice ad l.length m ∧ (l = [] ∨ ∃ b off vs, ad = some ⟨b, off, none⟩ ∧ CellsAt w b off vs ∧ CR c.w c.S c.g (encL e l) vs) := by
 have hw := h.hw
 unfold rows at hr
 split at hr
 ·simp only [Option.some.injEq] at hr
  cases hr
  have hF : FRel c.w c.S c.g (.sl _ _) v := hx.to_A1 tid (by intro l h; cases h)
  obtain ⟨ad, m, rfl, _, hs⟩ := hF.toSl
  rcases hs with rfl | ⟨b, off, vs, rfl, h1, h2, _⟩
  ·exact ⟨ad, m, rfl, .inl rfl⟩
  ·exact ⟨_, m, rfl, .inr ⟨b, off, vs, rfl, by rw [← hw]; exact h1, h2⟩⟩
 ·split at hr
  ·rename_i he
   simp only [Option.some.injEq] at hr
   cases hr
   obtain ⟨_, hv, hO⟩ := hx.to_A1 tid (by intro l h; cases h)
   rcases (hO (cur_eq he)).cells with ⟨rfl, ad, rfl⟩ | ⟨b, m, vs, h2, rfl, hm, h3, h4⟩
   ·exact ⟨ad, 0, rfl, .inl rfl⟩
   ·exact ⟨_, m, rfl, .inr ⟨b, 0, vs, rfl, by rw [← hw]; exact h3, h4⟩⟩
  ·cases hr
 ·split at hr
  ·rename_i he
   simp only [Option.some.injEq] at hr
   cases hr
   obtain ⟨hv, hO⟩ := hx.to_A1 tid (by intro l h; cases h)
   rcases hO (cur_eq he) with ⟨rfl, ad, m, rfl⟩ | ⟨b, off, m, vs, h2, rfl, hm, h3, h4⟩
   ·exact ⟨ad, m, rfl, .inl rfl⟩
   ·exact ⟨_, m, rfl, .inr ⟨b, off, vs, rfl, by rw [← hw]; exact h3, h4⟩⟩
  ·cases hr
 ·cases hr
theorem CR.ones {w : World} {S : Nat → Nat → Prop} {g : Nat} {l : List AV} {vs : List Value} (h : CR w S g l vs) (ho : l.all AV.one = true) : ∀ u ∈ vs, u.oneCell' = true := by
 intro u hu
 obtain ⟨i, hi⟩ := List.mem_iff_getElem?.1 hu
 have hi' := (List.getElem?_eq_some_iff.1 hi).1
 have := (h.2 i (by rw [h.1]; exact hi')).oneCell (one_of_all ho i (by rw [h.1]; exact hi'))
 rwa [getD_of_get? hi] at this
theorem encL_one (e : El) (l : List e.T) : (encL e l).all AV.one = true := by
 induction l with
 | nil => rfl
 | cons x l ih => simp only [encL, List.flatMap_cons, List.all_append, Bool.and_eq_true]; exact ⟨El.enc_one e x, ih⟩
theorem run_append_m0 {P : Program} {T ty : Nat} {e : El} (hE : ElOK P tid T e) {ad y : Option Addr} {n m k : Nat} (hnm : n ≤ m) (w : World) :
  (Builtin.append_ #[T, T] ty #[.slice ad n m, .slice y 0 k]).run P w = .ok (.slice ad n m) w := by
 obtain ⟨ii, z, h2, h3, h4, _⟩ := hE.info
 cases ad <;> cases y <;> simp [Builtin.append_, run_underlying hE.und, sizeOf, typeInfo, h2, h4, Builtin.lenOf, Builtin.firstCells, hnm, loadCells, loadCellsFrom, storeCells]
theorem run_append_zero {P : Program} {T ty : Nat} {e : El} (hE : ElOK P tid T e) {ad : Option Addr} {b off m k : Nat} {news : List Value} (hl : news.length = m * e.sz) (hc : CellsAt w b off news) (h0 : 0 < m) (hm : m < 4294967296) :
  ∃ v' w', (Builtin.append_ #[T, T] ty #[.slice ad 0 0, .slice (some ⟨b, off, none⟩) m k]).run P w = .ok v' w' ∧ w'.ownsRow 0 (tid e) e.sz v' m news ∧ w.grownBy w' none ∧ v'.ownBlock = some w.heap.size := by
 obtain ⟨ii, z, h2, h3, h4, h5, h6, h7⟩ := hE.info
 have hb : m * ii.bytes ≤ 140737488355328 := Nat.le_trans (Nat.mul_le_mul_left _ h7) (by omega)
 have hnews : ∀ j v, news[j]? = some v → w.cell? ((⟨b, off, none⟩ : Addr).add j) = some v := fun j v hv => by rw [Addr.add_at]; exact hc j v hv
 have hl' : news.length = m * ii.size := by rw [h4]; exact hl
 have grown : ∀ (old : Nat), old < m → (w.drew.alloc (.cells (news.toArray ++ Builtin.zeroCells z.cells (grownCap w m old (tid e) - m)) (tid e))).ownsRow 0 (tid e) e.sz (.slice (some ⟨w.heap.size, 0, none⟩) m (grownCap w m old (tid e))) m news ∧
   w.grownBy (w.drew.alloc (.cells (news.toArray ++ Builtin.zeroCells z.cells (grownCap w m old (tid e) - m)) (tid e))) none := by
  intro old ho
  have hge := grownCap_ge w m old (tid e)
  have hcm : grownCap w m old (tid e) ≤ maxLen := grownCap_le_maxLen w m old (tid e) (by simp only [maxLen]; omega)
  refine ⟨⟨hl, .inr ⟨w.heap.size, _, _, rfl, Nat.zero_le _, heap_alloc_new w.drew _, hge, hcm, ?_, ?_⟩⟩, ⟨rfl, rfl, rfl, by simp, fun k hk _ => heap_alloc_old w.drew _ k hk⟩⟩
  ·simp only [Array.size_append, List.size_toArray, size_zeroCells, h5, hl, ← Nat.add_mul]
   congr 1
   omega
  ·simp only [Array.toList_append]
   rw [← hl]
   exact List.take_left
 cases ad with
 | none =>
  have hr := run_append_nil (P := P) w T ty (tid e) ii z hE.und h2 h3 ⟨b, off, none⟩ m k news hl' hnews h0 (by omega) (by omega)
  exact ⟨_, _, hr, (grown 0 h0).1, (grown 0 h0).2, rfl⟩
 | some ad =>
  have hr := run_append_grow (P := P) w T ty (tid e) ii z hE.und h2 h3 ad 0 0 [] (by simp) (by simp) ⟨b, off, none⟩ m k news hl' hnews (by omega) (by omega) (growslice_fits (by omega) (by simpa using hb))
  simp only [Nat.zero_add, Array.empty_append] at hr
  exact ⟨_, _, hr, (grown 0 h0).1, (grown 0 h0).2, rfl⟩
theorem Rel.grown (h : Rel tid B N c σ a w) {k b' : Nat} {w' : World} {row : Option Nat} (hg : w.grownBy w' row) (hrow : ∀ r, row = some r → c.κ k = some r ∧ k ∉ σ.fr) (hb : (c.κ k = some b' ∧ k ∉ σ.fr) ∨ b' = w.heap.size) (hlt : b' < w'.heap.size)
  (hsb : σ'.b = σ.b) (hst : σ'.t = σ.t) (hss : σ'.s = σ.s) (hv : ∀ i, i ≠ k → getV σ'.v i = getV σ.v i) (hk : getV σ'.v k = σ.c + 1) (hc : σ'.c = σ.c + 1) (hfr : ∀ i, i ∈ σ'.fr ↔ i ∈ σ.fr ∧ i ≠ k) :
  Rel tid B N { c with w := w', κ := fun i => if i = k then some b' else c.κ i } σ' a w' ∧ Step c σ { c with w := w', κ := fun i => if i = k then some b' else c.κ i } σ' := by
 have hw := h.hw
 have hblk : ∀ b, b < w.heap.size → (∀ r, row = some r → b ≠ r) → w'.heap[b]? = w.heap[b]? := fun b h1 h2 => hg.block b h1 (fun e => h2 b e.symm rfl)
 have hrS : ∀ r o, row = some r → ¬ c.S r o := fun r o hr => (h.own k r (hrow r hr).2 (hrow r hr).1).2.2.1 o
 have hSb : ∀ b o, c.S b o → w'.heap[b]? = w.heap[b]? := fun b o hs => hblk b (h.stsz b o hs) (fun r hr e => hrS r o hr (by rw [← e]; exact hs))
 have hκ : ∀ i b, i ≠ k → c.κ i = some b → w'.heap[b]? = w.heap[b]? := by
  intro i b hi hb'
  by_cases hf : i ∈ σ.fr
  ·exact hSb b 0 (h.fz i b hf hb' 0)
  ·exact hblk b (h.own i b hf hb').2.1 (fun r hr e => hi (h.inj i k r hf (hrow r hr).2 (by rw [← e]; exact hb') (hrow r hr).1))
 have st : Step c σ { c with w := w', κ := fun i => if i = k then some b' else c.κ i } σ' := by
  refine ⟨rfl, fun b o x hs hx => ?_, fun _ _ h => h, by omega, fun i hi => ⟨by rw [hsb]; exact hi, rfl⟩, fun i => ?_⟩
  ·rw [hw] at hx
   exact (World.cell?_of_block (w := w) (a := ⟨b, o, none⟩) (hSb b o hs)).trans hx
  ·by_cases hi : i = k
   ·subst hi; exact .inr (by rw [hk]; omega)
   ·refine .inl ⟨hv i hi, if_neg hi, fun b hb' => ?_⟩
    rw [hw]; exact hκ i b hi hb'
 have hbx : ∀ j, getB σ.b j ≠ [] → w'.heap[c.β j]? = w.heap[c.β j]? := fun j hj => hblk _ (by have := (h.b j hj).lt; rwa [hw] at this) (fun r hr e => (h.own k r (hrow r hr).2 (hrow r hr).1).2.2.2.2 j hj e.symm)
 have hgx : σ.s ≠ [] → w'.heap[c.g]? = w.heap[c.g]? := fun hs => hblk _ (by have := (h.s hs).lt; rwa [hw] at this) (fun r hr e => (h.own k r (hrow r hr).2 (hrow r hr).1).2.2.2.1 hs e.symm)
 have hnew : B.mine b' ∧ (∀ o, ¬ c.S b' o) ∧ (σ.s ≠ [] → b' ≠ c.g) ∧ (∀ j, getB σ.b j ≠ [] → b' ≠ c.β j) ∧ (∀ i, i ∉ σ.fr → i ≠ k → c.κ i ≠ some b') := by
  rcases hb with ⟨h1, h2⟩ | h1
  ·have := h.own k b' h2 h1
   exact ⟨this.1, this.2.2.1, this.2.2.2.1, this.2.2.2.2, fun i hi hik e => hik (h.inj i k b' hi h2 e h1)⟩
  ·subst h1
   refine ⟨.inr h.keep.size, fun o hs => by have := h.stsz _ _ hs; omega, fun hs e => ?_, fun j hj e => ?_, fun i hi _ e => by have := (h.own i _ hi e).2.1; omega⟩
   ·have := (h.s hs).lt; rw [hw, ← e] at this; omega
   ·have := (h.b j hj).lt; rw [hw, ← e] at this; omega
 refine ⟨{ hw := rfl, ds := h.ds, n := h.n, t := fun i => by rw [hst]; exact (h.t i).step st, b := fun i hi => ?_, s := fun hs => ?_, ver := fun i => ?_, fz := fun i b hi hb' o => ?_, own := fun i b hi hb' => ?_, inj := fun i j b hi hj h1 h2 => ?_, box := fun i hi => ?_, gg := fun hs => h.gg (by rw [← hss]; exact hs), old := h.old, grow := h.grow, stsz := fun b o hs => by have := h.stsz b o hs; have := hg.size; omega, keep := ?_ }, st⟩
 ·rw [hsb] at hi ⊢
  exact (h.b i hi).step st (by rw [hw]; exact hbx i hi)
 ·rw [hss] at hs ⊢
  exact (h.s hs).step st (by rw [hw]; exact hgx hs)
 ·by_cases hi : i = k
  ·subst hi; rw [hk, hc]; exact Nat.le_refl _
  ·rw [hv i hi, hc]; have := h.ver i; omega
 ·have hi := (hfr i).1 hi
  simp only [if_neg hi.2] at hb'
  exact h.fz i b hi.1 hb' o
 ·by_cases hik : i = k
  ·subst hik
   simp only [if_true, Option.some.injEq] at hb'
   subst hb'
   exact ⟨hnew.1, hlt, hnew.2.1, fun hs => hnew.2.2.1 (by rw [← hss]; exact hs), fun j hj => hnew.2.2.2.1 j (by rw [← hsb]; exact hj)⟩
  ·simp only [if_neg hik] at hb'
   have hi' : i ∉ σ.fr := fun hf => hi ((hfr i).2 ⟨hf, hik⟩)
   have r := h.own i b hi' hb'
   exact ⟨r.1, by have := r.2.1; have := hg.size; omega, r.2.2.1, fun hs => r.2.2.2.1 (by rw [← hss]; exact hs), fun j hj => r.2.2.2.2 j (by rw [← hsb]; exact hj)⟩
 ·by_cases hik : i = k <;> by_cases hjk : j = k
  ·rw [hik, hjk]
  ·subst hik
   simp only [if_true, Option.some.injEq] at h1
   simp only [if_neg hjk] at h2
   subst h1
   exact absurd h2 (hnew.2.2.2.2 j (fun hf => hj ((hfr j).2 ⟨hf, hjk⟩)) hjk)
  ·subst hjk
   simp only [if_true, Option.some.injEq] at h2
   simp only [if_neg hik] at h1
   subst h2
   exact absurd h1 (hnew.2.2.2.2 i (fun hf => hi ((hfr i).2 ⟨hf, hik⟩)) hik)
  ·simp only [if_neg hik] at h1
   simp only [if_neg hjk] at h2
   exact h.inj i j b (fun hf => hi ((hfr i).2 ⟨hf, hik⟩)) (fun hf => hj ((hfr j).2 ⟨hf, hjk⟩)) h1 h2
 ·rw [hsb] at hi
  have r := h.box i hi
  exact ⟨r.1, r.2.1, fun hs => r.2.2.1 (by rw [← hss]; exact hs), fun j hj => r.2.2.2 j (by rw [← hsb]; exact hj)⟩
 ·refine ⟨hg.os.trans h.keep.os, hg.tape.trans h.keep.tape, hg.output.trans h.keep.output, Nat.le_trans h.keep.size hg.size, fun b h1 h2 => ?_⟩
  rw [hblk b (by have := h.keep.size; omega) (fun r hr e => ?_)]
  ·exact h.keep.block b h1 h2
  ·subst e
   rcases (h.own k b (hrow b hr).2 (hrow b hr).1).1 with hm | hm
   ·exact h2 hm
   ·omega
theorem getV_bump (σ : St) (k i : Nat) : getV (σ.bump k).v i = if k = i then σ.c + 1 else getV σ.v i := getV_cons ..
theorem getV_fresh (σ : St) (k i : Nat) : getV (σ.fresh k).v i = if k = i then σ.c + 1 else getV σ.v i := getV_cons ..
theorem Rel.drop (h : Rel tid B N c σ a w) (k : Nat) (hsb : σ'.b = σ.b) (hst : σ'.t = σ.t) (hss : σ'.s = σ.s) (hv : ∀ i, i ≠ k → getV σ'.v i = getV σ.v i) (hk : getV σ'.v k = σ.c + 1) (hc : σ'.c = σ.c + 1) (hfr : ∀ i, i ∈ σ'.fr ↔ i ∈ σ.fr ∧ i ≠ k) :
  Rel tid B N { c with κ := fun i => if i = k then none else c.κ i } σ' a w ∧ Step c σ { c with κ := fun i => if i = k then none else c.κ i } σ' := by
 have st : Step c σ { c with κ := fun i => if i = k then none else c.κ i } σ' := ⟨rfl, fun _ _ _ _ h => h, fun _ _ h => h, by omega, fun i hi => ⟨by rw [hsb]; exact hi, rfl⟩, fun i => by
  by_cases hi : i = k
  ·subst hi; exact .inr (by rw [hk]; omega)
  ·exact .inl ⟨hv i hi, if_neg hi, fun _ _ => rfl⟩⟩
 have hκ : ∀ i b, (if i = k then none else c.κ i) = some b → i ≠ k ∧ c.κ i = some b := by
  intro i b hb
  by_cases hi : i = k
  ·simp [hi] at hb
  ·rw [if_neg hi] at hb; exact ⟨hi, hb⟩
 have hfr' : ∀ i, i ∉ σ'.fr → i ≠ k → i ∉ σ.fr := fun i hi hik hf => hi ((hfr i).2 ⟨hf, hik⟩)
 refine ⟨{ hw := h.hw, ds := h.ds, n := h.n, t := fun i => by rw [hst]; exact (h.t i).step st, b := fun i hi => ?_, s := fun hs => ?_, ver := fun i => ?_, fz := fun i b hi hb' o => h.fz i b ((hfr i).1 hi).1 (hκ i b hb').2 o, own := fun i b hi hb' => ?_, inj := fun i j b hi hj h1 h2 => h.inj i j b (hfr' i hi (hκ i b h1).1) (hfr' j hj (hκ j b h2).1) (hκ i b h1).2 (hκ j b h2).2, box := fun i hi => ?_, gg := fun hs => h.gg (by rw [← hss]; exact hs), old := h.old, grow := h.grow, stsz := h.stsz, keep := h.keep }, st⟩
 ·rw [hsb] at hi ⊢; exact (h.b i hi).step st rfl
 ·rw [hss] at hs ⊢; exact (h.s hs).step st rfl
 ·by_cases hi : i = k
  ·subst hi; rw [hk, hc]; exact Nat.le_refl _
  ·rw [hv i hi, hc]; have := h.ver i; omega
 ·have r := h.own i b (hfr' i hi (hκ i b hb').1) (hκ i b hb').2
  exact ⟨r.1, r.2.1, r.2.2.1, fun hs => r.2.2.2.1 (by rw [← hss]; exact hs), fun j hj => r.2.2.2.2 j (by rw [← hsb]; exact hj)⟩
 ·rw [hsb] at hi
  have r := h.box i hi
  exact ⟨r.1, r.2.1, fun hs => r.2.2.1 (by rw [← hss]; exact hs), fun j hj => r.2.2.2 j (by rw [← hsb]; exact hj)⟩
theorem own_lt {w : World} {e : TypeId} {size n b : Nat} {v : Value} {xs : List Value} (h : w.ownsRow 0 e size v n xs) (hb : v.ownBlock = some b) : b < w.heap.size := by
 rcases h.2 with ⟨rfl, _⟩ | ⟨g, cap, cur, rfl, _, hh, _⟩
 ·simp [Value.ownBlock] at hb
 ·simp only [Value.ownBlock, Option.some.injEq] at hb; subst hb; exact (Array.getElem?_eq_some_iff.1 hh).1
theorem mem_fresh (σ : St) (k i : Nat) : i ∈ (σ.fresh k).fr ↔ i ∈ σ.fr ∧ i ≠ k := by
 show i ∈ σ.fr.filter (fun x => !Nat.beq x k) ↔ _
 rw [List.mem_filter]
 refine and_congr_right fun _ => ?_
 constructor
 ·intro h e; subst e; simp at h
 ·intro h; rw [beq_false h]; rfl
theorem not_fro {k : Nat} (h : (!σ.fro k) = true) : k ∉ σ.fr := by
 intro hk
 have : σ.fro k = true := by simpa [St.fro] using hk
 rw [this] at h; cases h
theorem nil_ok {v : Value} (hx : AR tid c σ .nil v) : ∃ ad, v = .slice ad 0 0 := by
 have hF : FRel c.w c.S c.g .nil v := hx.to_A1 tid (by intro l h; cases h)
 cases hF; exact ⟨_, rfl⟩
theorem own_put {k : Nat} {e : El} {l : List e.T} {v : Value} (hc : getV σ'.v k = σ'.c) (h : OwnR tid c' k e l v) : AR tid c' σ' (.own k σ'.c e l) v :=
 ⟨own_slice tid h, Nat.le_refl _, fun _ => h⟩
theorem append_own {P : Program} {T ty : Nat} {e : El} (hE : ElOK P tid T e) (h : Rel tid B N c σ a w) {k : Nat} {l m : List e.T} {v y : Value} (hO : OwnR tid c k e l v) (hf : k ∉ σ.fr)
  (hy : ∃ ad q, y = .slice ad m.length q ∧ (m = [] ∨ ∃ b off vs, ad = some ⟨b, off, none⟩ ∧ CellsAt w b off vs ∧ CR c.w c.S c.g (encL e m) vs)) (hlen' : m = [] ∨ l.length + m.length < maxRow) :
  ∃ v' w' c', (Builtin.append_ #[T, T] ty #[v, y]).run P w = .ok v' w' ∧ Rel tid B N c' (σ.bump k) a w' ∧ OwnR tid c' k e (l ++ m) v' := by
 have hw := h.hw
 have hfr : ∀ i, i ∈ (σ.bump k).fr ↔ i ∈ σ.fr ∧ i ≠ k := fun i => ⟨fun hi => ⟨hi, fun e => hf (by rw [← e]; exact hi)⟩, fun hi => hi.1⟩
 have hv : ∀ i, i ≠ k → getV (σ.bump k).v i = getV σ.v i := fun i hi => by rw [getV_bump, if_neg (Ne.symm hi)]
 have hk : getV (σ.bump k).v k = σ.c + 1 := by rw [getV_bump, if_pos rfl]
 obtain ⟨ii, z, h2, h3, h4, h5, h6, h7⟩ := hE.info
 obtain ⟨ad, q, rfl, hm⟩ := hy
 by_cases hm0 : m = []
 ·subst hm0
  rw [List.append_nil]
  rcases hO with ⟨rfl, ad', rfl⟩ | ⟨b, vs, o1, o2, o3, o4⟩
  ·obtain ⟨R, st⟩ := h.drop (σ' := σ.bump k) k rfl rfl rfl hv hk rfl hfr
   exact ⟨_, _, _, run_append_m0 hE (Nat.le_refl _) w, R, .inl ⟨rfl, _, rfl⟩⟩
  ·obtain ⟨R, st⟩ := h.grown (σ' := σ.bump k) (k := k) (b' := b) (row := none) ⟨rfl, rfl, rfl, Nat.le_refl _, fun _ _ _ => rfl⟩ (fun r hr => by cases hr) (.inl ⟨o1, hf⟩) (by rw [← hw]; exact own_lt o3 o2) rfl rfl rfl hv hk rfl hfr
   rw [hw] at o3
   rcases o3.2 with ⟨rfl, _⟩ | ⟨g, cap, cur, rfl, o5, o6, o7, o8⟩
   ·simp [Value.ownBlock] at o2
   ·exact ⟨_, _, _, run_append_m0 hE o7 w, R, .inr ⟨b, vs, if_pos rfl, o2, o3, o4.step st⟩⟩
 ·have hlen := hlen'.resolve_left hm0
  obtain ⟨b0, off, us, rfl, hc, hC⟩ := hm.resolve_left hm0
  have hul : us.length = m.length * e.sz := by rw [← hC.1, encL_length]
  have hmp : 0 < m.length := List.length_pos_iff.2 hm0
  rcases hO with ⟨rfl, ad', rfl⟩ | ⟨b, vs, o1, o2, o3, o4⟩
  ·obtain ⟨v', w', r1, r2, r3, r4⟩ := run_append_zero (T := T) (ty := ty) (ad := ad') (k := q) hE hul hc hmp (by simpa [maxRow] using hlen)
   obtain ⟨R, st⟩ := h.grown (σ' := σ.bump k) (k := k) (b' := w.heap.size) r3 (fun r hr => by cases hr) (.inr rfl) (own_lt r2 r4) rfl rfl rfl hv hk rfl hfr
   exact ⟨v', w', _, r1, R, .inr ⟨_, us, if_pos rfl, r4, by simpa using r2, by simpa using hC.step st⟩⟩
  ·have hE2 := hE
   rw [hw] at o3
   obtain ⟨v', w', r1, r2, r3, _, r5⟩ := run_append_own_at (P := P) w 0 T ty (tid e) ii z e.sz ii.bytes hE.und h2 h3 h4 rfl h5 e.sz_pos v l.length vs o3 ⟨b0, off, none⟩ m.length q us hul (fun j u hu => by rw [Addr.add_at]; exact hc j u hu) (hC.ones (encL_one e m)) (by simp only [maxLen]; have : maxRow = 4294967296 := rfl; omega)
    (Nat.le_trans (Nat.mul_le_mul_left _ h7) (by have : maxRow = 4294967296 := rfl; omega)) (Nat.zero_le _)
   have hv' : ∃ b', v'.ownBlock = some b' ∧ ((c.κ k = some b' ∧ k ∉ σ.fr) ∨ b' = w.heap.size) := by
    rcases r5 with r5 | r5
    ·exact ⟨b, by rw [r5]; exact o2, .inl ⟨o1, hf⟩⟩
    ·exact ⟨_, r5, .inr rfl⟩
   obtain ⟨b', hb1, hb2⟩ := hv'
   obtain ⟨R, st⟩ := h.grown (σ' := σ.bump k) (k := k) (b' := b') r3 (fun r hr => by rw [o2] at hr; cases hr; exact ⟨o1, hf⟩) hb2 (own_lt r2 hb1) rfl rfl rfl hv hk rfl hfr
   exact ⟨v', w', _, r1, R, .inr ⟨b', vs ++ us, if_pos rfl, hb1, by simpa using r2, by rw [encL_append]; exact (o4.step st).append (hC.step st)⟩⟩
theorem append_nil {P : Program} {T ty : Nat} {e : El} (hE : ElOK P tid T e) (h : Rel tid B N c σ a w) {k : Nat} {m : List e.T} {ad' : Option Addr} {y : Value}
  (hy : ∃ ad q, y = .slice ad m.length q ∧ (m = [] ∨ ∃ b off vs, ad = some ⟨b, off, none⟩ ∧ CellsAt w b off vs ∧ CR c.w c.S c.g (encL e m) vs)) (hlen : m.length < maxRow) :
  ∃ v' w' c', (Builtin.append_ #[T, T] ty #[.slice ad' 0 0, y]).run P w = .ok v' w' ∧ Rel tid B N c' (σ.fresh k) a w' ∧ OwnR tid c' k e m v' := by
 have hv : ∀ i, i ≠ k → getV (σ.fresh k).v i = getV σ.v i := fun i hi => by rw [getV_fresh, if_neg (Ne.symm hi)]
 have hk : getV (σ.fresh k).v k = σ.c + 1 := by rw [getV_fresh, if_pos rfl]
 obtain ⟨ad, q, rfl, hm⟩ := hy
 by_cases hm0 : m = []
 ·subst hm0
  obtain ⟨R, st⟩ := h.drop (σ' := σ.fresh k) k rfl rfl rfl hv hk rfl (mem_fresh σ k)
  exact ⟨_, _, _, run_append_m0 hE (Nat.le_refl _) w, R, .inl ⟨rfl, _, rfl⟩⟩
 ·obtain ⟨b0, off, us, rfl, hc, hC⟩ := hm.resolve_left hm0
  have hul : us.length = m.length * e.sz := by rw [← hC.1, encL_length]
  obtain ⟨v', w', r1, r2, r3, r4⟩ := run_append_zero (T := T) (ty := ty) (ad := ad') (k := q) hE hul hc (List.length_pos_iff.2 hm0) (by simpa [maxRow] using hlen)
  obtain ⟨R, st⟩ := h.grown (σ' := σ.fresh k) (k := k) (b' := w.heap.size) r3 (fun r hr => by cases hr) (.inr rfl) (own_lt r2 r4) rfl rfl rfl hv hk rfl (mem_fresh σ k)
  exact ⟨v', w', _, r1, R, .inr ⟨_, us, if_pos rfl, r4, r2, hC.step st⟩⟩
theorem El.cast_eq {e e' : El} {l : List e'.T} {m : List e.T} (h : El.cast e e' l = some m) : e' = e ∧ HEq l m := by
 cases e <;> cases e' <;> simp [El.cast] at h <;> exact ⟨rfl, heq_of_eq h⟩
theorem append_ok {P : Program} {T ty : Nat} {E : Option El} (hE : ∀ e, E = some e → ElOK P tid T e) (h : Rel tid B N c σ a w) {d : Nat} (hd : d < N) {x y : AV} {v u : Value} (hx : AR tid c σ x v) (hy : AR tid c σ y u) {R : Type} {K : St → Option R} {r : R} (hK : appendK E σ d x y K = some r) :
  ∃ σ' v' w' c', K σ' = some r ∧ (Builtin.append_ #[T, T] ty #[v, u]).run P w = .ok v' w' ∧ Rel tid B N c' σ' (a.put (some d) v') w' := by
 unfold appendK at hK
 split at hK
 ·cases hK
 rename_i e0
 have hE := hE e0 rfl
 split at hK
 ·rename_i k ver e l
  split at hK
  rotate_left
  ·cases hK
  rename_i hcond
  simp only [Bool.and_eq_true] at hcond
  obtain ⟨he, hcur, hfro⟩ := hcond
  have := El.eqb_eq he; subst this
  have hf := not_fro hfro
  have hO := (hx.to_A1 tid (by intro l h; cases h)).2.2 (cur_eq hcur)
  have hkc : getV (σ.bump k).v k = (σ.bump k).c := by rw [getV_bump, if_pos rfl]; rfl
  split at hK
  ·obtain ⟨ad, rfl⟩ := nil_ok hy
   obtain ⟨v', w', c', r1, R1, O1⟩ := append_own (ty := ty) (m := []) hE h hO hf ⟨ad, 0, rfl, .inl rfl⟩ (.inl rfl)
   rw [List.append_nil] at O1
   exact ⟨_, v', w', c', hK, r1, R1.put (fun x hx => by cases hx; exact hd) (own_put hkc O1)⟩
  ·split at hK
   rotate_left
   ·cases hK
   rename_i e' m hr
   split at hK
   rotate_left
   ·cases hK
   rename_i m' hcast
   obtain ⟨rfl, hm⟩ := El.cast_eq hcast
   have hm := eq_of_heq hm; subst hm
   split at hK
   rotate_left
   ·cases hK
   rename_i hlen
   obtain ⟨ad, q, hu, hrow⟩ := rows_ok h hy hr
   obtain ⟨v', w', c', r1, R1, O1⟩ := append_own (ty := ty) (m := m) hE h hO hf ⟨ad, q, hu, hrow⟩ (.inr hlen)
   exact ⟨_, v', w', c', hK, r1, R1.put (fun x hx => by cases hx; exact hd) (own_put hkc O1)⟩
 ·obtain ⟨ad', rfl⟩ := nil_ok hx
  split at hK
  ·obtain ⟨ad, rfl⟩ := nil_ok hy
   exact ⟨_, _, _, c, hK, run_append_m0 hE (Nat.le_refl _) w, h.put (fun x hx => by cases hx; exact hd) (AR.of_F tid (.nil _))⟩
  ·split at hK
   rotate_left
   ·cases hK
   rename_i e' m hr
   split at hK
   rotate_left
   ·cases hK
   rename_i he
   have := El.eqb_eq he; subst this
   split at hK
   rotate_left
   ·cases hK
   rename_i hlen
   obtain ⟨ad, q, hu, hrow⟩ := rows_ok h hy hr
   obtain ⟨v', w', c', r1, R1, O1⟩ := append_nil (ty := ty) (k := d) (ad' := ad') hE h ⟨ad, q, hu, hrow⟩ hlen
   exact ⟨_, v', w', c', hK, r1, R1.put (fun x hx => by cases hx; exact hd) (own_put (by rw [getV_fresh, if_pos rfl]; rfl) O1)⟩
 ·cases hK
end
end Go.AI
namespace Go.AI
section
variable {tid : El → Nat} {c c' : Cx} {σ σ' : St} {B : Base} {N : Nat} {a : Act} {w : World} {P : Program}
theorem mapM_get {α β : Type} (f : α → Option β) : ∀ (l : List α) (m : List β), l.mapM f = some m → ∀ (i : Nat) (y : β), m[i]? = some y → ∃ x, l[i]? = some x ∧ f x = some y
 | [], m, h, i, y, hy => by simp at h; subst h; simp at hy
 | x :: l, m, h, i, y, hy => by
  simp only [List.mapM_cons, Option.bind_eq_bind, Option.pure_def] at h
  cases hx : f x with
  | none => simp [hx] at h
  | some z =>
   cases hl : l.mapM f with
   | none => simp [hx, hl] at h
   | some r =>
    simp [hx, hl] at h
    subst h
    cases i with
    | zero => simp at hy; subst hy; exact ⟨x, rfl, hx⟩
    | succ i => simp at hy; simpa using mapM_get f l r hl i y hy
theorem TyOK.fld {T : Nat} {ty : Ty} (hT : TyOK P tid T ty) {f n : Nat} (hf : ty.offs[f]? = some n) :
  ∃ fs fd i m, P.underlying T = some (.struct fs) ∧ fs[f]? = some fd ∧ fd.offset = n ∧ P.info? fd.type = some i ∧ i.size = m ∧ 0 < m ∧ ty.szs[f]? = some m := by
 have hne : ty.offs ≠ [] := by intro e; rw [e] at hf; simp at hf
 obtain ⟨fs, h1, h2, _, h3, h4⟩ := hT.pl hne
 have hlt := (List.getElem?_eq_some_iff.1 hf).1
 have hs : ty.szs[f]? = some (ty.szs[f]'(by omega)) := List.getElem?_eq_getElem _
 have hz : (ty.offs.zip ty.szs)[f]? = some (n, ty.szs[f]'(by omega)) := by
  rw [List.getElem?_zip_eq_some]; exact ⟨hf, hs⟩
 obtain ⟨fd, h5, h6⟩ := mapM_get _ _ _ h2 f _ hz
 cases hi : P.info? fd.type with
 | none => simp [hi] at h6
 | some i =>
  simp only [hi, Option.map_some, Option.some.injEq, Prod.mk.injEq] at h6
  refine ⟨fs, fd, i, _, h1, by simpa using h5, h6.1, hi, h6.2, h4 _ (List.getElem_mem _), hs⟩
theorem run_fieldAt {T : Nat} {ty : Ty} (hT : TyOK P tid T ty) {f n : Nat} (hf : ty.offs[f]? = some n) (ad : Addr) (w : World) :
  (Instr.fieldAt T (.pointer (some ad)) f).run P w = .ok (.pointer (some (ad.add n))) w := by
 obtain ⟨fs, fd, i, m, h1, h2, h3, h4, h5, h6, _⟩ := hT.fld hf
 have hn : ¬ i.size = 0 := by omega
 simp [Instr.fieldAt, run_underlying h1, h2, Instr.sureAddr, fieldPlace, sizeOf, typeInfo, h4, hn, h3]
theorem writeA_list (cs : Array Value) (off : Nat) (l : List Value) : ∀ s, off + s + l.length ≤ cs.size →
  ((l.zipIdx s).foldl (fun cs (x : Value × Nat) => cs.setIfInBounds (off + x.2) x.1) cs).toList = cs.toList.take (off + s) ++ (l ++ cs.toList.drop (off + s + l.length)) := by
 intro s h
 apply List.ext_getElem?
 intro k
 have hf := Great.foldl_set off l s cs
 rw [Array.getElem?_toList, hf.2 k]
 by_cases h1 : off + s ≤ k ∧ k < off + s + l.length ∧ k < cs.size
 ·rw [if_pos h1, List.getElem?_append_right (by simp; omega)]
  have e : (cs.toList.take (off + s)).length = off + s := by simp; omega
  rw [e, List.getElem?_append_left (by omega)]
 ·rw [if_neg h1]
  by_cases h2 : k < off + s
  ·rw [List.getElem?_append_left (by simp; omega), List.getElem?_take_of_lt h2, Array.getElem?_toList]
  ·have e : (cs.toList.take (off + s)).length = off + s := by simp; omega
   rw [List.getElem?_append_right (by omega), e]
   by_cases h3 : k < off + s + l.length
   ·rw [Array.getElem?_eq_none (by omega), List.getElem?_append_left (by omega), List.getElem?_eq_none]
    omega
   ·rw [List.getElem?_append_right (by omega), List.getElem?_drop, Array.getElem?_toList]
    congr 1; omega
def CA (tid : El → Nat) (c : Cx) (σ : St) (l : List AV) (vs : List Value) : Prop := l.length = vs.length ∧ ∀ i, i < l.length → A1 tid c σ (l.getD i .undef) (vs.getD i Go.undef)
theorem CA.write {l m : List AV} {vs us : List Value} (h : CA tid c σ l vs) (k : CA tid c σ m us) (i : Nat) (hi : i + m.length ≤ l.length) : CA tid c σ (writeL l i m) (vs.take i ++ (us ++ vs.drop (i + us.length))) := by
 refine ⟨by rw [writeL_length hi]; simp [h.1]; have := k.1; have := h.1; omega, fun j hj => ?_⟩
 rw [writeL_length hi] at hj
 unfold writeL
 rw [writeL_getD l m _ i j hi, writeL_getD vs us _ i j (by rw [← k.1, ← h.1]; exact hi), ← k.1]
 split
 ·exact k.2 _ (by omega)
 ·exact h.2 _ hj
theorem fill_ok {ty : Ty} {parts : List (Nat × AV)} : ∀ {ps : List (Nat × Value)} {c0 c1 : List AV} {zs : Array Value}, ty.offs.length = ty.szs.length → parts.length = ps.length → (∀ i, (h1 : i < parts.length) → (h2 : i < ps.length) → parts[i].1 = ps[i].1 ∧ AR tid c σ parts[i].2 ps[i].2) →
  CA tid c σ c0 zs.toList → fillAll ty.offs ty.szs parts c0 = some c1 → ∃ cs, Instr.fill ((ty.offs.zip ty.szs).toArray[·]?) zs ps = some cs ∧ CA tid c σ c1 cs.toList := by
 induction parts with
 | nil =>
  intro ps c0 c1 zs hle hl hA h0 hf
  have : ps = [] := List.eq_nil_of_length_eq_zero (by simpa using hl.symm)
  subst this
  simp only [fillAll, Option.some.injEq] at hf
  subst hf
  exact ⟨zs, rfl, h0⟩
 | cons p parts ih =>
  intro ps c0 c1 zs hle hl hA h0 hf
  cases ps with
  | nil => simp at hl
  | cons q ps =>
   obtain ⟨i, x⟩ := p
   obtain ⟨j, v⟩ := q
   have hx := hA 0 (by simp) (by simp)
   simp only [List.getElem_cons_zero] at hx
   obtain ⟨rfl, hx⟩ := hx
   simp only [fillAll] at hf
   split at hf
   rotate_left
   ·cases hf
   rename_i o n ho hn
   split at hf
   rotate_left
   ·cases hf
   rename_i h1 h2 h3
   have h1 := Nat.le_of_ble_eq_true h1
   have h2 := Nat.eq_of_beq_eq_true h2
   have hc := hx.cells h3
   have hsz : v.cells.size = n := by rw [← h2, hc.1]; simp
   have hz : ((ty.offs.zip ty.szs).toArray)[i]? = some (o, n) := by simp [List.getElem?_zip_eq_some, ho, hn]
   have hcz : c0.length = zs.size := by rw [h0.1]; simp
   have hw := writeA_list zs o v.cells.toList 0 (by simp; omega)
   have hCA : CA tid c σ (writeL c0 o x.cells) ((v.cells.toList.zipIdx 0).foldl (fun cs (x : Value × Nat) => cs.setIfInBounds (o + x.2) x.1) zs).toList := by
    rw [hw, Nat.add_zero]
    exact h0.write ⟨hc.1, hc.2.1⟩ o (by omega)
   obtain ⟨cs, r1, r2⟩ := ih (ps := ps) (zs := (v.cells.toList.zipIdx 0).foldl (fun cs (x : Value × Nat) => cs.setIfInBounds (o + x.2) x.1) zs) hle (by simpa using hl) (fun k hk hk' => hA (k + 1) (by simp; omega) (by simp; omega)) hCA hf
   refine ⟨cs, ?_, r2⟩
   unfold Instr.fill
   simp only [hz, hsz]
   rw [if_neg (by simp; omega), ← r1, ← Array.foldl_toList, Array.toList_zipIdx]
theorem build_ok {T : Nat} {ty : Ty} (hT : TyOK P tid T ty) (h : Rel tid B N c σ a w) {parts : Array (Nat × Operand)} {l : List AV} (hne : ty.offs ≠ [])
  (hf : fillAll ty.offs ty.szs (parts.toList.map fun p => (p.1, getO σ.t p.2)) ty.zero = some l) :
  ∃ v, (Instr.build T (parts.map fun (i, x) => (i, a.eval x))).run P w = .ok v w ∧ AR tid c σ (.agg l) v := by
 obtain ⟨fs, h1, h2, _, h3, h4⟩ := hT.pl hne
 obtain ⟨i, z, h5, h6, h7, h8, _⟩ := hT.info
 have h0 : CA tid c σ ty.zero z.cells.toList := ⟨(h8 c.w c.S c.g).1, fun i hi => A1.of_F tid ((h8 c.w c.S c.g).2 i hi)⟩
 obtain ⟨cs, h9, h10⟩ := fill_ok (ps := (parts.map fun (i, x) => (i, a.eval x)).toList) h3 (by simp) (fun k hk hk' => by
  simp only [List.length_map] at hk
  simp only [Array.toList_map, List.getElem_map]
  exact ⟨trivial, h.getO _⟩) h0 hf
 refine ⟨.agg cs, run_build w T _ cs (by simp only [Program.built, h5, h1, h6, h2, h9]), cs.toList, by simp, h10.1, h10.2⟩
theorem run_newVar (T : Nat) (v : Value) (w : World) : (newVar T v).run P w = .ok ⟨w.heap.size, 0, none⟩ (w.alloc (.cells v.cells T)) := by
 simp [newVar, newRow]
theorem alloc_ok {T d : Nat} {ty : Ty} (hT : TyOK P tid T ty) (h : Rel tid B N c σ a w) (hd : d < N) (hb : getB σ.b d = []) :
  ∃ v w' c', (Instr.alloc T true (.tuple #[])).run P w = .ok v w' ∧ Rel tid B N c' ({ σ with b := (d, ty.zero) :: σ.b }.put (some d) (.lbox d 0)) (a.put (some d) v) w' := by
 obtain ⟨i, z, h5, h6, h7, h8, _⟩ := hT.info
 obtain ⟨c', hR⟩ := h.newBox (T := T) hd (l := ty.zero) (vs := z.cells.toList) hb (List.length_pos_iff.1 hT.pos) (h8 c.w c.S c.g).1 (fun i hi => A1.of_F tid ((h8 c.w c.S c.g).2 i hi))
 refine ⟨_, _, c', ?_, hR⟩
 have : (newVar T z).run P w = _ := run_newVar T z w
 simp [Instr.alloc, zeroValue, typeInfo, h5, h6, this]
theorem box_ok {T d : Nat} (h : Rel tid B N c σ a w) (hd : d < N) (hb : getB σ.b d = []) {x : AV} {v : Value} (hx : AR tid c σ x v) (hc : x.cells.all AV.cell = true) (hne : x.cells ≠ []) :
  ∃ u w' c', (Instr.box T v).run P w = .ok u w' ∧ Rel tid B N c' ({ σ with b := (d, x.cells) :: σ.b }.put (some d) (.lbox d 0)) (a.put (some d) u) w' := by
 obtain ⟨us, h1, h2, h3, _⟩ := hx.pieces hc
 obtain ⟨c', hR⟩ := h.newBox (T := T) hd (l := x.cells) (vs := us) hb hne h2 h3
 refine ⟨_, _, c', ?_, hR⟩
 have : (newVar T v).run P w = _ := run_newVar T v w
 subst h1
 simp [Instr.box, this]
theorem cbox_ok {T d : Nat} (h : Rel tid B N c σ a w) (hd : d < N) {x : AV} {v : Value} (hx : AR tid c σ x v) (ho : x.one = true) :
  ∃ u w' c', (Instr.box T v).run P w = .ok u w' ∧ Rel tid B N c' (σ.put (some d) (.cbox x)) (a.put (some d) u) w' := by
 have hF := hx.to_F tid (by cases x <;> first | rfl | simp [AV.one] at ho)
 obtain ⟨r1, r2, r3⟩ := h.newStay [v] T
 have hs := h.new_step (.cells [v].toArray T) true
 have hrun : (newVar T v).run P w = _ := run_newVar T v w
 rw [hF.cellsOne ho] at hrun
 refine ⟨_, _, _, ?_, r1.put (fun y hy => by cases hy; exact hd) (AR.of_F tid (.cbox x v w.heap.size (r2 0) (r3 0 v rfl) ho (hF.step hs)))⟩
 simp [Instr.box, hrun]
theorem kids_ok {w : World} {S : Nat → Nat → Prop} {g : Nat} {x : AV} {l : List Node} (h : decKids x = some l) {v : Value} (hF : FRel w S g x v) : FRel w S g (.sl .node l) v := by
 unfold decKids at h
 split at h
 ·simp only [Option.some.injEq] at h; subst h; exact hF
 ·simp only [Option.some.injEq] at h; subst h; cases hF; exact .sl0 _ _ _
 ·cases h
theorem dec_rel {w : World} {S : Nat → Nat → Prop} {g : Nat} (e : El) {l : List AV} {x : e.T} (h : e.dec l = some x) :
  l.length = (e.enc x).length ∧ ∀ i v, i < l.length → FRel w S g (l.getD i .undef) v → FRel w S g ((e.enc x).getD i .undef) v := by
 cases e with
 | int =>
  simp only [El.dec] at h
  unfold decInt at h
  split at h
  ·simp only [Option.some.injEq] at h; subst h; exact ⟨rfl, fun i v _ hF => hF⟩
  ·cases h
 | bool =>
  simp only [El.dec] at h
  unfold decBool at h
  split at h
  ·simp only [Option.some.injEq] at h; subst h; exact ⟨rfl, fun i v _ hF => hF⟩
  ·cases h
 | str =>
  simp only [El.dec] at h
  unfold decStr at h
  split at h
  ·simp only [Option.some.injEq] at h; subst h; exact ⟨rfl, fun i v _ hF => hF⟩
  ·cases h
 | u8 =>
  simp only [El.dec] at h
  unfold decU8 at h
  split at h
  ·simp only [Option.some.injEq] at h; subst h; exact ⟨rfl, fun i v _ hF => hF⟩
  ·cases h
 | tok =>
  simp only [El.dec] at h
  unfold decTok at h
  split at h
  ·simp only [Option.some.injEq] at h; subst h; exact ⟨rfl, fun i v _ hF => hF⟩
  ·cases h
 | diag =>
  simp only [El.dec] at h
  unfold decDiag at h
  split at h
  ·simp only [Option.some.injEq] at h; subst h; exact ⟨rfl, fun i v _ hF => hF⟩
  ·cases h
 | ent =>
  simp only [El.dec] at h
  unfold decEnt at h
  split at h
  ·simp only [Option.some.injEq] at h; subst h; exact ⟨rfl, fun i v _ hF => hF⟩
  ·cases h
 | node =>
  simp only [El.dec] at h
  unfold decNode at h
  split at h
  ·split at h
   ·rename_i hk
    simp only [Option.some.injEq] at h; subst h
    refine ⟨rfl, fun i v hi hF => ?_⟩
    match i, hF with
    | 0, hF => exact hF
    | 1, hF => exact hF
    | 2, hF => exact hF
    | 3, hF => exact kids_ok hk hF
    | i + 4, _ => simp at hi; omega
   ·cases h
  ·cases h
 | made =>
  simp only [El.dec] at h
  unfold decMade at h
  split at h
  ·split at h
   ·rename_i hk
    simp only [Option.some.injEq] at h; subst h
    refine ⟨rfl, fun i v hi hF => ?_⟩
    match i, hF with
    | 0, hF => exact hF
    | 1, hF => exact hF
    | 2, hF => exact hF
    | 3, hF => exact kids_ok hk hF
    | 4, hF => exact hF
    | i + 5, _ => simp at hi; omega
   ·cases h
  ·cases h
theorem dec_CR {w : World} {S : Nat → Nat → Prop} {g : Nat} {e : El} {l : List AV} {vs : List Value} {x : e.T} (h : e.dec l = some x) (hC : CR w S g l vs) : CR w S g (e.enc x) vs := by
 obtain ⟨h1, h2⟩ := dec_rel (w := w) (S := S) (g := g) e h
 exact ⟨by rw [← h1, hC.1], fun i hi => h2 i _ (by rw [h1]; exact hi) (hC.2 i (by rw [h1]; exact hi))⟩
theorem dec_one {e : El} {y : AV} {x : e.T} (h : e.dec y.cells = some x) (hn : ∀ l, y ≠ .agg l) : y.one = true := by
 have hc : y.cells = [y] := by cases y <;> first | rfl | exact absurd rfl (hn _)
 rw [hc] at h
 cases e <;> simp only [El.dec] at h
 ·cases y <;> first | rfl | simp [decInt] at h
 ·cases y <;> first | rfl | simp [decBool] at h
 ·simp [decTok] at h
 ·simp [decDiag] at h
 ·simp [decNode] at h
 ·simp [decMade] at h
 ·simp [decEnt] at h
 ·cases y <;> first | rfl | simp [decStr] at h
 ·cases y <;> first | rfl | simp [decU8] at h
theorem decAll_ok {w : World} {S : Nat → Nat → Prop} {g : Nat} (e : El) : ∀ {l : List AV} {vs : List Value} {xs : List e.T}, CR w S g l vs → decAll e l = some xs →
  xs.length = l.length ∧ (∀ v ∈ vs, v.cells.size = e.sz) ∧ CR w S g (encL e xs) (vs.flatMap fun v => v.cells.toList) := by
 intro l
 induction l with
 | nil =>
  intro vs xs h hd
  simp only [decAll, Option.some.injEq] at hd
  subst hd
  have : vs = [] := List.eq_nil_of_length_eq_zero (by simpa using h.1.symm)
  subst this
  exact ⟨rfl, fun v hv => (by simp at hv), .nil _ _ _⟩
 | cons y l ih =>
  intro vs xs h hd
  cases vs with
  | nil => simp [CR] at h
  | cons v vs =>
   simp only [decAll] at hd
   split at hd
   rotate_left
   ·cases hd
   rename_i x m h1 h2
   simp only [Option.some.injEq] at hd
   subst hd
   obtain ⟨r1, r2, r3⟩ := ih (vs := vs) ⟨by simpa using h.1, fun i hi => by simpa using h.2 (i + 1) (by simp; omega)⟩ h2
   have h0 : FRel w S g y v := by simpa using h.2 0 (by simp)
   have hx : CR w S g (e.enc x) v.cells.toList := by
    refine dec_CR h1 ?_
    cases hy : y with
    | agg l =>
     rw [hy] at h0
     cases h0 with
     | agg _ us hl ho hA => exact ⟨by simpa [AV.cells, Value.cells] using hl, fun i hi => by simpa [AV.cells, Value.cells] using hA i hi⟩
    | _ =>
     have ho := dec_one h1 (by rw [hy]; intro l h; cases h)
     have hc := h0.cellsOne ho
     rw [← hy, hc, show y.cells = [y] by rw [hy]; rfl]
     exact ⟨rfl, fun i hi => by simp at hi; subst hi; exact h0⟩
   have hsz : v.cells.size = e.sz := by rw [← El.enc_length e x, hx.1]; simp
   refine ⟨by simp [r1], fun u hu => ?_, ?_⟩
   ·rcases List.mem_cons.1 hu with rfl | hu
    ·exact hsz
    ·exact r2 u hu
   ·have e1 : encL e (x :: m) = e.enc x ++ encL e m := by simp [encL]
    rw [e1, List.flatMap_cons]
    exact hx.append r3
theorem flat_get {n : Nat} (hn : 0 < n) : ∀ (vs : List Value), (∀ v ∈ vs, v.cells.size = n) → ∀ k, k < vs.length * n → (vs.flatMap fun v => v.cells.toList)[k]? = (vs[k / n]?).bind fun v => v.cells[k % n]?
 | [], _, k, hk => by simp at hk
 | v :: vs, hv, k, hk => by
  have h0 := hv v (by simp)
  rw [List.flatMap_cons]
  by_cases h1 : k < n
  ·rw [List.getElem?_append_left (by simpa [h0] using h1), Nat.div_eq_of_lt h1, Nat.mod_eq_of_lt h1]
   simp
  ·have hlen : v.cells.toList.length = n := by simpa using h0
   have e1 : k / n = (k - n) / n + 1 := by
    rw [show k = (k - n) + n by omega, Nat.add_div_right _ hn]; simp
   have e2 : k % n = (k - n) % n := by
    rw [show k = (k - n) + n by omega, Nat.add_mod_right]; simp
   rw [List.getElem?_append_right (by omega), hlen, flat_get hn vs (fun u hu => hv u (by simp [hu])) (k - n) (by simp [Nat.add_mul] at hk; omega), e1, e2]
   simp
theorem dense_zip {α : Type} (f : Operand → α) : ∀ (l : List (Nat × Operand)) (i : Nat), dense l i = true → l.map (fun p => (p.1, f p.2)) = ((l.map fun p => f p.2).zipIdx i).map fun x => (x.2, x.1)
 | [], _, _ => rfl
 | (j, x) :: r, i, h => by
  simp only [dense] at h
  split at h
  ·rename_i hb
   have hb := Nat.eq_of_beq_eq_true hb
   subst hb
   simp [dense_zip f r (i + 1) h]
  ·cases h
theorem buildSlice_ok {T n : Nat} {e : El} (hE : ElOK P tid T e) (h : Rel tid B N c σ a w) {parts : Array (Nat × Operand)} {l : List AV} {xs : List e.T} (hf : freezeAll (parts.toList.map fun p => getO σ.t p.2) σ = some (l, σ'))
  (hd : dense parts.toList 0 = true) (hn : parts.toList.length = n) (h0 : 0 < n) (hm : n ≤ 4096) (hx : decAll e l = some xs) :
  ∃ v w' c', (Instr.buildSlice T n (parts.map fun (i, x) => (i, a.eval x))).run P w = .ok v w' ∧ Rel tid B N c' σ' a w' ∧ AR tid c' σ' (.sl e xs) v := by
 obtain ⟨ii, z, h5, h6, h7, h8, _, _⟩ := hE.info
 have hsz : e.sz ≤ 5 := by cases e <;> decide
 have hp := e.sz_pos
 obtain ⟨c1, s1, R1, C1⟩ := freezeAll_ok (vs := parts.toList.map fun p => a.eval p.2) h (by simp) (fun i hi => by
  simp only [List.length_map] at hi
  rw [List.getD_eq_getElem?_getD, List.getD_eq_getElem?_getD, List.getElem?_map, List.getElem?_map, List.getElem?_eq_getElem hi]
  exact h.getO _) hf
 obtain ⟨h9, h10, h11⟩ := decAll_ok e C1 hx
 have hvl : (parts.toList.map fun p => a.eval p.2).length = n := by rw [List.length_map, hn]
 have hxl : xs.length = n := by rw [h9, C1.1, hvl]
 have hsmall : n * e.sz ≤ 4096 * 5 := Nat.mul_le_mul hm hsz
 obtain ⟨r, hr, hrs, hrk⟩ := Great.fill_dense hp (parts.toList.map fun p => a.eval p.2) 0 ((Array.range (n * e.sz)).map (z.cells[· % z.cells.size]!)) h10 (by rw [hvl]; simp)
 have hrl : r.toList = (parts.toList.map fun p => a.eval p.2).flatMap fun v => v.cells.toList := by
  apply List.ext_getElem?
  intro k
  rw [Array.getElem?_toList, hrk k]
  by_cases hk : k < n * e.sz
  ·rw [if_pos (by rw [hvl, Nat.zero_add]; omega), flat_get hp _ h10 k (by rw [hvl]; exact hk)]; simp
  ·rw [if_neg (by rw [hvl, Nat.zero_add]; omega), Array.getElem?_eq_none (by simp; omega), List.getElem?_eq_none]
   have := h11.1
   rw [encL_length, hxl] at this
   omega
 have hrun := run_buildSlice (P := P) w T (tid e) n (parts.map fun (i, x) => (i, a.eval x)) r ii z hE.und h5 h6 (by rw [h7]; omega) (by rw [h7]; have := Nat.mul_pos h0 hp; omega) (by
  rw [h7, Array.toList_map]
  have := dense_zip a.eval parts.toList 0 hd
  rw [show (parts.toList.map fun x => match x with | (i, x) => (i, a.eval x)) = parts.toList.map fun p => (p.1, a.eval p.2) from rfl, this]
  exact hr)
 obtain rfl : r = ((parts.toList.map fun p => a.eval p.2).flatMap fun v => v.cells.toList).toArray := by rw [← hrl]
 obtain ⟨r1, r2, r3⟩ := R1.newStay ((parts.toList.map fun p => a.eval p.2).flatMap fun v => v.cells.toList) (tid e)
 have hs := R1.new_step (.cells ((parts.toList.map fun p => a.eval p.2).flatMap fun v => v.cells.toList).toArray (tid e)) true
 exact ⟨_, _, _, hrun, r1, AR.of_F tid (FRel.ofSl ⟨_, n, by rw [hxl], by omega, .inr ⟨w.heap.size, 0, _, rfl, r3, h11.step hs, fun j _ => by rw [Nat.zero_add]; exact r2 j⟩⟩)⟩
theorem field_ok {T T' f n : Nat} {ty ty' : Ty} (hT : TyOK P tid T ty) (hT' : TyOK P tid T' ty') (hf : ty.offs[f]? = some n) (hft : ty.ftys[f]? = some T') {l : List AV} {v : Value} {y : AV} (hx : AR tid c σ (.agg l) v) (hr : readAt ty' l n = some y) :
  ∃ u, (Instr.field T v f).run P w = .ok u w ∧ AR tid c σ y u := by
 obtain ⟨fs, fd, i, m, h1, h2, h3, h4, h5, h6, _⟩ := hT.fld hf
 obtain ⟨vs, rfl, hl, hA⟩ := hx
 have e : fd.type = T' := by
  have hne : ty.offs ≠ [] := by intro e; rw [e] at hf; simp at hf
  obtain ⟨fs', g1, _, g2, _⟩ := hT.pl hne
  rw [h1] at g1
  simp only [Option.some.injEq, TypeDesc.struct.injEq] at g1
  subst g1
  rw [← g2, List.getElem?_map] at hft
  have : fs.toList[f]? = some fd := by simpa using h2
  rw [this] at hft
  simpa using hft
 unfold readAt at hr
 split at hr
 rotate_left
 ·cases hr
 rename_i hb
 have hb := Nat.le_of_ble_eq_true hb
 cases hg : ty'.agg
 ·rw [hg] at hr
  simp only [Bool.false_eq_true, if_false, Option.some.injEq] at hr
  subst hr
  have ho := hT'.one hg
  have hn : n < vs.length := by omega
  refine ⟨vs.getD n Go.undef, ?_, AR.of_A1' (hA n (by omega))⟩
  simp [Instr.field, run_underlying h1, h2, asAgg, part, e, run_isAgg hT', hg, h3, List.getElem?_eq_getElem hn]
 ·rw [hg] at hr
  simp only [if_true, Option.some.injEq] at hr
  subst hr
  refine ⟨.agg ((vs.drop n).take ty'.zero.length).toArray, ?_, _, rfl, by simp [hl], fun i hi => ?_⟩
  ·simp [Instr.field, run_underlying h1, h2, asAgg, part, e, run_isAgg hT', hg, h3, run_sizeOf hT']
  ·have hi : i < ty'.zero.length ∧ n + i < l.length := by simp at hi; omega
   rw [getD_take _ _ _ _ hi.1, getD_take _ _ _ _ hi.1, getD_drop, getD_drop]
   exact hA _ hi.2
theorem bin_ok {op : BinOp} {T : Nat} {X Y : Operand} {x y z : AV} {v u : Value} (hx : AR tid c σ x v) (hy : AR tid c σ y u) (hz : binAV op x y = some z) :
  ∃ r, (do eqGuard op T X Y v u; binOp op T v u : Sem Value).run P w = .ok r w ∧ AR tid c σ z r := by
 unfold binAV at hz
 split at hz
 rotate_left
 ·cases hz
 rename_i p q
 cases hx.to_F tid rfl
 cases hy.to_F tid rfl
 have hg : (eqGuard op T X Y (.int .i64 p) (.int .i64 q)).run P w = .ok () w := by unfold eqGuard; split <;> rfl
 split at hz <;> simp only [Option.some.injEq, reduceCtorEq] at hz <;> subst hz <;> simp only [Sem.run_bind, hg, Result.andThen_ok]
 ·exact ⟨_, rfl, AR.of_F tid (.int _)⟩
 ·exact ⟨_, rfl, AR.of_F tid (.int _)⟩
 ·exact ⟨.bool (decide (p = q)), by simp [binOp, Op.intCmp]; rfl, AR.of_F tid (.bool _)⟩
 ·exact ⟨.bool (decide (p ≠ q)), by simp [binOp, Op.intCmp]; rfl, AR.of_F tid (.bool _)⟩
 ·exact ⟨.bool (decide (p < q)), by simp [binOp, Op.intCmp], AR.of_F tid (.bool _)⟩
 ·exact ⟨.bool (decide (p ≤ q)), by simp [binOp, Op.intCmp], AR.of_F tid (.bool _)⟩
 ·exact ⟨.bool (decide (p > q)), by simp [binOp, Op.intCmp], AR.of_F tid (.bool _)⟩
 ·exact ⟨.bool (decide (p ≥ q)), by simp [binOp, Op.intCmp], AR.of_F tid (.bool _)⟩
theorem max_ok (ts : Array Nat) (T : Nat) (p q : Int) : (Builtin.max_ ts T #[.int .i64 p, .int .i64 q]).run P w = .ok (.int .i64 (max p q)) w := by
 simp [Builtin.max_, Builtin.max2]; split <;> omega
theorem min_ok (ts : Array Nat) (T : Nat) (p q : Int) : (Builtin.min_ ts T #[.int .i64 p, .int .i64 q]).run P w = .ok (.int .i64 (min p q)) w := by
 simp [Builtin.min_, Builtin.min2]; split <;> omega
end
end Go.AI
namespace Go.AI
section
variable {tid : El → Nat} {c c' : Cx} {σ σ' : St} {B : Base} {N : Nat} {a : Act} {w : World} {P : Program}
theorem CR.write {w : World} {S : Nat → Nat → Prop} {g : Nat} {l m : List AV} {vs us : List Value} (h : CR w S g l vs) (k : CR w S g m us) (i : Nat) (hi : i + m.length ≤ l.length) : CR w S g (writeL l i m) (vs.take i ++ (us ++ vs.drop (i + us.length))) := by
 have h1 := h.1
 have h2 := k.1
 refine ⟨by rw [writeL_length hi]; simp; omega, fun j hj => ?_⟩
 rw [writeL_length hi] at hj
 unfold writeL
 rw [writeL_getD l m _ i j hi, writeL_getD vs us _ i j (by omega), ← h2]
 split
 ·exact k.2 _ (by omega)
 ·exact h.2 _ hj
theorem get?_write {α : Type} (us m : List α) (p j : Nat) (h : p + m.length ≤ us.length) :
  (us.take p ++ (m ++ us.drop (p + m.length)))[j]? = if p ≤ j ∧ j < p + m.length then m[j - p]? else us[j]? := by
 by_cases h1 : j < p
 ·rw [if_neg (by omega), List.getElem?_append_left (by simp; omega), List.getElem?_take_of_lt h1]
 ·have e : (us.take p).length = p := by simp; omega
  rw [List.getElem?_append_right (by omega), e]
  by_cases h2 : j < p + m.length
  ·rw [if_pos ⟨by omega, h2⟩, List.getElem?_append_left (by omega)]
  ·rw [if_neg (by omega), List.getElem?_append_right (by omega), List.getElem?_drop]; congr 1; omega
theorem get?_piece {α : Type} (us : List α) (p q j : Nat) : ((us.drop p).take q)[j]? = if j < q then us[p + j]? else none := by
 rw [List.getElem?_take]
 split
 ·rw [List.getElem?_drop]
 ·rfl
theorem piece_write {α : Type} (us m : List α) (p q o : Nat) (h1 : o + m.length ≤ q) (h2 : p + q ≤ us.length) :
  ((us.take (p + o) ++ (m ++ us.drop (p + o + m.length))).drop p).take q = ((us.drop p).take q).take o ++ (m ++ ((us.drop p).take q).drop (o + m.length)) := by
 apply List.ext_getElem?
 intro j
 have e : ((us.drop p).take q).length = q := by simp; omega
 rw [get?_piece, get?_write us m (p + o) (p + j) (by omega), get?_write _ m o j (by omega), get?_piece]
 by_cases hj : j < q
 ·rw [if_pos hj, if_pos hj]
  by_cases hk : o ≤ j ∧ j < o + m.length
  ·rw [if_pos (by omega), if_pos hk]; congr 1; omega
  ·rw [if_neg (by omega), if_neg hk]
 ·rw [if_neg hj, if_neg hj, if_neg (by omega)]
theorem getT_map (f : AV → AV) (hf : f .undef = .undef) (t : List (Nat × AV)) (i : Nat) : getT (t.map fun p => (p.1, f p.2)) i = f (getT t i) := by
 induction t with
 | nil => exact hf.symm
 | cons p t ih => obtain ⟨j, a⟩ := p; rw [List.map_cons, getT_cons, getT_cons, ih]; split <;> rfl
theorem getB_map (f : AV → AV) (t : List (Nat × List AV)) (i : Nat) : getB (t.map fun p => (p.1, p.2.map f)) i = (getB t i).map f := by
 induction t with
 | nil => rfl
 | cons p t ih => obtain ⟨j, a⟩ := p; rw [List.map_cons, getB_cons, getB_cons, ih]; split <;> rfl
theorem map_getD (f : AV → AV) (hf : f .undef = .undef) (l : List AV) (i : Nat) : (l.map f).getD i .undef = f (l.getD i .undef) := by
 rw [List.getD_eq_getElem?_getD, List.getD_eq_getElem?_getD, List.getElem?_map]
 cases l[i]? with
 | none => exact hf.symm
 | some x => rfl
theorem setOwn_ok {e : El} {k b : Nat} {us US : List Value} {T' : TypeId} {w' : World} {z : e.T} {I : Nat} {l : List e.T} {v : Value}
  (hκ : c.κ k = some b) (hblk : Blk c.w b us T') (hblk' : Blk w' b US T') (hlen : US.length = us.length)
  (hz : CR w' c.S c.g (e.enc z) ((US.drop (I * e.sz)).take e.sz)) (ho : ∀ j, ¬ (I * e.sz ≤ j ∧ j < I * e.sz + e.sz) → US[j]? = us[j]?)
  (hst : ∀ a v, FRel c.w c.S c.g a v → FRel w' c.S c.g a v) (h : OwnR tid c k e l v) : OwnR tid { c with w := w' } k e (l.set I z) v := by
 rcases h with ⟨rfl, h⟩ | ⟨b', vs, h1, h2, h3, h4⟩
 ·exact .inl ⟨rfl, h⟩
 ·rw [hκ] at h1; cases h1
  rcases h3.2 with ⟨rfl, _⟩ | ⟨g, cap, cur, rfl, hg, hh, hn, hcm, hcs, ht⟩
  ·simp [Value.ownBlock] at h2
  ·simp only [Value.ownBlock, Option.some.injEq] at h2
   subst h2
   unfold Blk at hblk
   rw [hblk] at hh
   simp only [Option.some.injEq, Obj.cells.injEq] at hh
   obtain ⟨rfl, rfl, _⟩ := hh
   simp only [List.size_toArray] at hcs
   have hls : (l.set I z).length = l.length := by simp
   have hle : l.length * e.sz ≤ us.length := by rw [hcs]; exact Nat.mul_le_mul_right _ hn
   have hp := e.sz_pos
   refine .inr ⟨g, US.take (l.length * e.sz), hκ, rfl, ⟨by rw [hls, List.length_take, hlen]; omega, .inr ⟨g, cap, US.toArray, by rw [hls], hg, hblk', by rw [hls]; exact hn, hcm, by simp [hlen, hcs], by rw [hls]⟩⟩, ?_⟩
   refine ⟨by rw [encL_length, hls, List.length_take, hlen]; omega, fun j hj => ?_⟩
   rw [encL_length, hls] at hj
   have hq : j / e.sz < l.length := (Nat.div_lt_iff_lt_mul hp).2 hj
   have hr : j % e.sz < e.sz := Nat.mod_lt _ hp
   have hjq : j / e.sz * e.sz + j % e.sz = j := by have := Nat.div_add_mod j e.sz; rw [Nat.mul_comm]; omega
   rw [getD_take _ _ _ _ hj]
   have he := encL_getD e (l.set I z) (j / e.sz) (j % e.sz) (by rw [hls]; exact hq) hr
   rw [hjq] at he
   rw [he]
   by_cases hI : j / e.sz = I
   ·have hz' := hz.2 (j % e.sz) (by rw [El.enc_length]; exact hr)
    rw [getD_take _ _ _ _ hr, getD_drop, ← hI, hjq] at hz'
    have : (l.set I z).getD (j / e.sz) e.dflt = z := by
     rw [hI, List.getD_eq_getElem?_getD, List.getElem?_set_self (by omega)]; rfl
    rw [this]; exact hz'
   ·have : (l.set I z).getD (j / e.sz) e.dflt = l.getD (j / e.sz) e.dflt := by
     rw [List.getD_eq_getElem?_getD, List.getD_eq_getElem?_getD, List.getElem?_set_ne (Ne.symm hI)]
    rw [this, ← encL_getD e l _ _ hq hr, hjq]
    have h5 := h4.2 j (by rw [encL_length]; exact hj)
    rw [← ht] at h5
    simp only at h5
    rw [getD_take _ _ _ _ hj] at h5
    have : US.getD j Go.undef = us.getD j Go.undef := by
     rw [List.getD_eq_getElem?_getD, List.getD_eq_getElem?_getD, ho j ?_]
     rintro ⟨h6, h7⟩
     refine hI ?_
     refine Nat.div_eq_of_lt_le h6 ?_
     rw [Nat.succ_mul]; exact h7
    rw [this]
    exact hst _ _ h5
theorem setEl1_undef {k w : Nat} {e : El} {i : Nat} {x : e.T} : setEl1 k w e i x .undef = .undef := rfl
theorem cast1 {e e' : El} {x : e.T} {l : List e'.T} (h : El.cast e' e [x] = some l) : ∃ he : e = e', l = [he ▸ x] := by
 cases e <;> cases e' <;> simp [El.cast] at h <;> exact ⟨rfl, h.symm⟩
theorem optStore_ok {T : Nat} {ty : Ty} (hT : TyOK P tid T ty) (h : Rel tid B N c σ a w) {k ver : Nat} {e : El} {y : e.T} {i : Int} {o : Nat} {x : AV} {pv v : Value} (hp : AR tid c σ (.opt k ver e y i o) pv) (hx : AR tid c σ x v) (hl : storeAV σ ty (.opt k ver e y i o) x = some σ') :
  ∃ ad w' c', pv = .pointer (some ad) ∧ (storeVar T ad v).run P w = .ok () w' ∧ Rel tid B N c' σ' a w' := by
 have hw := h.hw
 unfold storeAV at hl
 split at hl
 rotate_left
 ·cases hl
 rename_i hlen hcell
 have hlen := Nat.eq_of_beq_eq_true hlen
 simp only at hl
 split at hl
 rotate_left
 ·cases hl
 rename_i hcur hfro hb hone
 have hb := Nat.le_of_ble_eq_true hb
 rw [El.enc_length] at hb
 split at hl
 rotate_left
 ·cases hl
 rename_i z hdec
 simp only [Option.some.injEq] at hl
 obtain ⟨us', hu, hul, hA, h1⟩ := hx.pieces hcell
 obtain ⟨_, _, _, hO⟩ := hp.to_A1 tid (by intro l h; cases h)
 obtain ⟨b, us, T', hκ, rfl, hblk, hle, hC⟩ := hO (cur_eq hcur)
 have hf : k ∉ σ.fr := not_fro (by rw [hfro]; rfl)
 obtain ⟨hmine, hbl, hbS, hbg, hbβ⟩ := h.own k b hf hκ
 have hCx : CR c.w c.S c.g x.cells us' := ⟨hul, fun j hj => (hA j hj).to_F tid (AV.fz1_of_one (one_of_all hone j hj))⟩
 rw [hw] at hblk
 have hst := run_storeVar (P := P) hT hblk hu (by omega) (o := i.toNat * e.sz + o) (by omega) h1
 generalize hUS : us.take (i.toNat * e.sz + o) ++ (us' ++ us.drop (i.toNat * e.sz + o + us'.length)) = US at hst
 have hlenU : US.length = us.length := by rw [← hUS]; simp; omega
 have hblk' := setRow_blk (us := US) hblk
 have hcS : ∀ b' q u, c.S b' q → c.w.cell? ⟨b', q, none⟩ = some u → (w.setRow b US.toArray).cell? ⟨b', q, none⟩ = some u := by
  intro b' q u hs hq
  rw [hw] at hq
  rw [cells_other (fun e => hbS q (by rw [← e]; exact hs))]; exact hq
 have hF : ∀ {a v}, FRel c.w c.S c.g a v → FRel (w.setRow b US.toArray) c.S c.g a v := fun r => r.stay hcS (fun _ _ h => h)
 have hz : CR (w.setRow b US.toArray) c.S c.g (e.enc z) ((US.drop (i.toNat * e.sz)).take e.sz) := by
  have e1 := piece_write us us' (i.toNat * e.sz) e.sz o (by omega) hle
  rw [hUS] at e1
  rw [e1]
  exact CR.stay hcS (fun _ _ h => h) (dec_CR hdec (hC.write hCx o (by rw [El.enc_length]; omega)))
 have hother : ∀ j, ¬ (i.toNat * e.sz ≤ j ∧ j < i.toNat * e.sz + e.sz) → US[j]? = us[j]? := by
  intro j hj
  rw [← hUS, get?_write us us' _ j (by omega), if_neg (by omega)]
 have hκo : ∀ k' b', k' ≠ k → c.κ k' = some b' → (w.setRow b US.toArray).heap[b']? = w.heap[b']? := by
  intro k' b' hk' hb'
  refine setRow_other w b b' _ (fun e => ?_)
  subst e
  by_cases hf' : k' ∈ σ.fr
  ·exact hbS 0 (h.fz k' b' hf' hb' 0)
  ·exact hk' (h.inj k' k b' hf' hf hb' hκ)
 have hv' : σ'.v = σ.v := by subst hl; rfl
 have hc' : σ'.c = σ.c := by subst hl; rfl
 have hfr' : σ'.fr = σ.fr := by subst hl; rfl
 have hgb : ∀ j, getB σ'.b j = (getB σ.b j).map (setEl1 k ver e i.toNat z) := by subst hl; exact getB_map _ _
 have hgt : ∀ j, getT σ'.t j = setEl k ver e i.toNat z (getT σ.t j) := by subst hl; exact getT_map _ rfl _
 have hgs : σ'.s = σ.s.map (setEl1 k ver e i.toNat z) := by subst hl; rfl
 have hne : ∀ j, getB σ'.b j ≠ [] ↔ getB σ.b j ≠ [] := fun j => by rw [hgb]; simp
 have hsne : σ'.s ≠ [] ↔ σ.s ≠ [] := by rw [hgs]; simp
 have main : ∀ {q u}, A1 tid c σ q u → A1 tid { c with w := w.setRow b US.toArray } σ' (setEl1 k ver e i.toNat z q) u := by
  intro q u r
  cases q with
  | lbox k' i' => exact ⟨r.1, (hne _).2 r.2⟩
  | own k' w' e' l =>
   simp only [setEl1]
   split
   ·rename_i hk' hw'
    have hk' := Nat.eq_of_beq_eq_true hk'
    have hw' := Nat.eq_of_beq_eq_true hw'
    subst hk'
    split
    ·rename_i x' hcast
     obtain ⟨he, hxe⟩ := cast1 hcast
     subst he
     simp only [List.cons.injEq, and_true] at hxe
     subst hxe
     refine ⟨r.1, by rw [hc']; exact r.2.1, fun hcu => ?_⟩
     rw [hv'] at hcu
     exact setOwn_ok hκ (by rw [hw]; exact hblk) hblk' hlenU hz hother (fun _ _ => hF) (r.2.2 hcu)
    ·exact FRel.undef _
   ·exact FRel.undef _
   ·rename_i hk'
    have hk' : k' ≠ k := by
     intro e; subst e
     simp at hk'
     cases hbw : Nat.beq w' ver
     ·simp_all
     ·simp_all
    refine ⟨r.1, by rw [hc']; exact r.2.1, fun hcu => ?_⟩
    rw [hv'] at hcu
    rcases r.2.2 hcu with r | ⟨b1, vs, g1, g2, g3, g4⟩
    ·exact .inl r
    ·exact .inr ⟨b1, vs, g1, g2, ownsRow_same g3 (fun b2 hb2 => by rw [g2] at hb2; cases hb2; rw [hw]; exact hκo k' b1 hk' g1), g4.stay hcS (fun _ _ h => h)⟩
  | vw k' w' e' l =>
   simp only [setEl1]
   split
   ·exact FRel.undef _
   ·rename_i hk'
    have hk' : k' ≠ k := by intro e; subst e; simp at hk'
    refine ⟨by rw [hc']; exact r.1, fun hcu => ?_⟩
    rw [hv'] at hcu
    rcases r.2 hcu with r | ⟨b1, off, m, vs, g1, g2, g3, g4, g5⟩
    ·exact .inl r
    ·exact .inr ⟨b1, off, m, vs, g1, g2, g3, g4.same (by rw [hw]; exact hκo k' b1 hk' g1), g5.stay hcS (fun _ _ h => h)⟩
  | vpt k' w' e' y' o' =>
   simp only [setEl1]
   split
   ·exact FRel.undef _
   ·rename_i hk'
    have hk' : k' ≠ k := by intro e; subst e; simp at hk'
    obtain ⟨ad, r0, r1, r2⟩ := r
    refine ⟨ad, r0, by rw [hc']; exact r1, fun hcu => ?_⟩
    rw [hv'] at hcu
    obtain ⟨b1, off, vs, g1, g2, g3, g4⟩ := r2 hcu
    exact ⟨b1, off, vs, g1, g2, g3.same (by rw [hw]; exact hκo k' b1 hk' g1), g4.stay hcS (fun _ _ h => h)⟩
  | opt k' w' e' y' i' o' =>
   simp only [setEl1]
   split
   ·exact FRel.undef _
   ·rename_i hk'
    have hk' : k' ≠ k := by intro e; subst e; simp at hk'
    obtain ⟨ad, r0, r1, r2⟩ := r
    refine ⟨ad, r0, by rw [hc']; exact r1, fun hcu => ?_⟩
    rw [hv'] at hcu
    obtain ⟨b1, us1, T1, g1, g2, g3, g4, g5⟩ := r2 hcu
    refine ⟨b1, us1, T1, g1, g2, ?_, g4, g5.stay hcS (fun _ _ h => h)⟩
    unfold Blk at g3 ⊢
    rw [hw] at g3
    rw [show ({ c with w := w.setRow b US.toArray } : Cx).w = w.setRow b US.toArray from rfl, hκo k' b1 hk' g1]; exact g3
  | _ => exact hF r
 have hrow : ∀ {b1 l}, b1 ≠ b → RowR tid c σ b1 l → RowR tid { c with w := w.setRow b US.toArray } σ' b1 (l.map (setEl1 k ver e i.toNat z)) := by
  intro b1 l hb1 r
  obtain ⟨vs, T1, g1, g2, g3⟩ := r
  refine ⟨vs, T1, ?_, by simp [g2], fun j hj => ?_⟩
  ·unfold Blk at g1 ⊢
   rw [hw] at g1
   rw [show ({ c with w := w.setRow b US.toArray } : Cx).w = w.setRow b US.toArray from rfl, setRow_other w b b1 _ hb1]; exact g1
  ·rw [map_getD _ rfl]
   exact main (g3 j (by simpa using hj))
 refine ⟨_, _, { c with w := w.setRow b US.toArray }, rfl, hst, { hw := rfl, ds := h.ds, n := h.n, t := fun j => ?_, b := fun j hj => ?_, s := fun hs => ?_, ver := ?_, fz := ?_, own := fun k' b' hk' hb' => ?_, inj := ?_, box := fun j hj => ?_, gg := fun hs => h.gg (hsne.1 hs), old := h.old, grow := h.grow, stsz := fun b o hs => by rw [setRow_size]; exact h.stsz b o hs, keep := h.keep.write hmine }⟩
 ·rw [hgt]
  have r := h.t j
  generalize getT σ.t j = q at r
  cases q with
  | agg l =>
   obtain ⟨vs, r1, r2, r3⟩ := r
   refine ⟨vs, r1, by simp [r2], fun n hn => ?_⟩
   rw [map_getD _ rfl]
   exact main (r3 n (by simpa using hn))
  | _ => exact AR.of_A1' (main (r.to_A1 tid (by intro l h; cases h)))
 ·have hj0 := (hne j).1 hj
  rw [hgb]
  exact hrow (Ne.symm (hbβ j hj0)) (h.b j hj0)
 ·have hs0 := hsne.1 hs
  rw [hgs]
  exact hrow (Ne.symm (hbg hs0)) (h.s hs0)
 ·rw [hv', hc']; exact h.ver
 ·rw [hfr']; exact h.fz
 ·rw [hfr'] at hk'
  have r := h.own k' b' hk' hb'
  exact ⟨r.1, by rw [setRow_size]; exact r.2.1, r.2.2.1, fun hs => r.2.2.2.1 (hsne.1 hs), fun j hj => r.2.2.2.2 j ((hne j).1 hj)⟩
 ·rw [hfr']; exact h.inj
 ·have r := h.box j ((hne j).1 hj)
  exact ⟨r.1, r.2.1, fun hs => r.2.2.1 (hsne.1 hs), fun j' hj' => r.2.2.2 j' ((hne j').1 hj')⟩
end
end Go.AI
namespace Go.AI
theorem El.enc_plain (e : El) (x : e.T) : (e.enc x).all AV.plain = true := by cases e <;> rfl
theorem plain_get {l : List AV} (h : l.all AV.plain = true) (j : Nat) : (l.getD j .undef).plain = true := by
 rw [List.getD_eq_getElem?_getD]
 cases hj : l[j]? with
 | none => rfl
 | some x => exact List.all_eq_true.1 h x (List.mem_of_getElem? hj)
theorem FRel.plain {w : World} {S : Nat → Nat → Prop} {g g' : Nat} {a : AV} {v : Value} (h : FRel w S g a v) : a.plain = true → FRel w S g' a v := by
 induction h with
 | undef v => exact fun _ => .undef v
 | skip => exact fun _ => .skip
 | int n => exact fun _ => .int n
 | bool b => exact fun _ => .bool b
 | ik k n => exact fun _ => .ik k n
 | str s => exact fun _ => .str s
 | nil a => exact fun _ => .nil a
 | sl0 e a c => exact fun _ => .sl0 e a c
 | sl e xs b off c V hc hn hV hm ih => exact fun _ => .sl e xs b off c V hc hn (fun i j hi hj => ih i j hi hj (plain_get (El.enc_plain e _) j)) hm
 | _ => intro h; simp [AV.plain] at h
theorem FRel.plainA {w : World} {S : Nat → Nat → Prop} {g g' : Nat} {a : AV} {v : Value} (h : FRel w S g a v) (hp : a.plainA = true) : FRel w S g' a v := by
 cases a with
 | agg l => cases h with | agg _ vs hl ho hA => exact .agg l vs hl ho fun i hi => (hA i hi).plain (plain_get hp i)
 | _ => exact FRel.plain h hp
theorem CR.plain {w : World} {S : Nat → Nat → Prop} {g g' : Nat} {l : List AV} {vs : List Value} (h : CR w S g l vs) (hp : l.all AV.plain = true) : CR w S g' l vs :=
 ⟨h.1, fun i hi => (h.2 i hi).plain (plain_get hp i)⟩
section
variable (tid : El → Nat)
def st0 : St := ⟨[], [], [], [], 0, []⟩
structure SRep (τ : STy) (w : World) (S : Nat → Nat → Prop) (g : Nat) (κ : Nat → Option Nat) (p : τ.T) : Prop where
 row : τ.enc 0 p ≠ [] → RowR tid ⟨w, S, g, κ, fun _ => 0⟩ st0 g (τ.enc 0 p)
 st : ∀ b o, S b o → b < w.heap.size
 gs : τ.enc 0 p ≠ [] → ∀ o, ¬ S g o
 own : ∀ k b, κ k = some b → k ∈ τ.keys ∧ b < w.heap.size ∧ (∀ o, ¬ S b o) ∧ b ≠ g
 inj : ∀ k k' b, κ k = some b → κ k' = some b → k = k'
def Foot (τ : STy) (g : Nat) (κ : Nat → Option Nat) (b : Nat) : Prop := (τ ≠ .unit ∧ b = g) ∨ ∃ k, κ k = some b
def RetV (w : World) (S : Nat → Nat → Prop) (g : Nat) (κ : Nat → Option Nat) (n : Nat) : AV → Value → Prop
 | .new l, u => ∃ nb vs T, u = .pointer (some ⟨nb, 0, none⟩) ∧ Blk w nb vs T ∧ CR w S g l vs ∧ n ≤ nb ∧ (∀ o, ¬ S nb o) ∧ ∀ k, κ k ≠ some nb
 | x, u => FRel w S g x u
def RetOK (τ : STy) (w : World) (S : Nat → Nat → Prop) (g : Nat) (κ : Nat → Option Nat) (r : AV × τ.T) : Ending → World → Prop
 | .returned u, w' => ∃ S' κ', SRep tid τ w' S' g κ' r.2 ∧ Keep w (Foot τ g κ) w' ∧ (∀ b o, S b o → S' b o) ∧ (∀ b o, S' b o → S b o ∨ Foot τ g κ b ∨ w.heap.size ≤ b) ∧
   (∀ k b, κ' k = some b → Foot τ g κ b ∨ w.heap.size ≤ b) ∧ RetV w' S' g κ' w.heap.size r.1 u
 | _, _ => False
def Goes (P : Program) (f : Nat) : Prop := ∃ fn, P.funcs[f]? = some fn ∧ (fn.name == "runtime.NumGoroutine") = false ∧ fn.body.isNone = false
def CallsOK (P : Program) (call : (τ : STy) → Nat → List AV → τ.T → Option (AV × τ.T)) : Prop :=
 ∀ τ f args p r, call τ f args p = some r → Goes P f ∧ ∀ w S g κ vs, SRep tid τ w S g κ p → CR w S g args vs → Calls P f vs.toArray w (RetOK tid τ w S g κ r)
variable {tid} {c c' : Cx} {σ σ' : St} {B : Base} {N : Nat} {a : Act} {w : World} {P : Program}
theorem El.cast_self {e : El} {l m : List e.T} (h : El.cast e e l = some m) : m = l := by cases e <;> simp [El.cast] at h <;> exact h.symm
theorem asSl_ok {w : World} {S : Nat → Nat → Prop} {g : Nat} {e : El} {x : AV} {l : List e.T} {v : Value} (h : asSl e x = some l) (hF : FRel w S g x v) : FRel w S g (.sl e l) v := by
 unfold asSl at h
 split at h
 ·obtain ⟨rfl, hh⟩ := El.cast_eq h
  have := eq_of_heq hh; subst this
  exact hF
 ·simp only [Option.some.injEq] at h; subst h; cases hF; exact .sl0 _ _ _
 ·cases h
theorem asSl_fz {e : El} {x : AV} {l : List e.T} (h : asSl e x = some l) : x.fz1 = true := by
 unfold asSl at h
 split at h <;> first | rfl | cases h
theorem enc_ver (τ : STy) (q : Nat) (p : τ.T) (c1 c2 : Cx) (σ1 σ2 : St) (hw : c2.w = c1.w) (hS : c2.S = c1.S) (hg : c2.g = c1.g) (hκ : ∀ k, k ∈ τ.keys → c2.κ k = c1.κ k) (h1 : ∀ k, k ∈ τ.keys → getV σ1.v k = 0) (h2 : q ≤ σ2.c) {i : Nat} {v : Value}
  (h : A1 tid c1 σ1 ((τ.enc 0 p).getD i .undef) v) : A1 tid c2 σ2 ((τ.enc q p).getD i .undef) v := by
 have hF : ∀ {x}, FRel c1.w c1.S c1.g x v → FRel c2.w c2.S c2.g x v := fun r => by rw [hw, hS, hg]; exact r
 have hO : ∀ {k e} {l : List e.T}, k ∈ τ.keys → A1 tid c1 σ1 (.own k 0 e l) v → A1 tid c2 σ2 (.own k q e l) v := by
  intro k e l hk r
  refine ⟨r.1, h2, fun _ => ?_⟩
  rcases r.2.2 (h1 k hk).symm with r | ⟨b, vs, r1, r2, r3, r4⟩
  ·exact .inl r
  ·exact .inr ⟨b, vs, by rw [hκ k hk]; exact r1, r2, by rw [hw]; exact r3, by rw [hw, hS, hg]; exact r4⟩
 cases τ with
 | unit => exact hF (by simpa [STy.enc, A1] using h)
 | prog =>
  match i, h with
  | 0, h => exact hF h
  | 1, h => exact hF h
  | 2, h => exact hF h
  | 3, h => exact hF h
  | 4, h => exact hO (by simp [STy.keys]) h
  | 5, h => exact hF h
  | 6, h => exact hF h
  | 7, h => exact hF h
  | 8, h => exact hF h
  | 9, h => exact hF h
  | n + 10, h => exact hF h
 | ref =>
  match i, h with
  | 0, h => exact hF h
  | 1, h => exact hF h
  | 2, h => exact hO (by simp [STy.keys]) h
  | 3, h => exact hO (by simp [STy.keys]) h
  | 4, h => exact hF h
  | 5, h => exact hF h
  | 6, h => exact hF h
  | 7, h => exact hF h
  | 8, h => exact hF h
  | n + 9, h => exact hF h
theorem enc_length (τ : STy) (q q' : Nat) (p : τ.T) : (τ.enc q p).length = (τ.enc q' p).length := by cases τ <;> rfl
theorem enc_ne (τ : STy) (q : Nat) (p : τ.T) : τ.enc q p ≠ [] ↔ τ ≠ .unit := by cases τ <;> simp [STy.enc]
theorem asOwn_spec {v : List (Nat × Nat)} {fr : List Nat} {q : Nat} {e : El} {x : AV} {l : List e.T} (h : asOwn v fr q e x = some l) :
  (x = .nil ∧ l = []) ∨ ∃ k w, x = .own k w e l ∧ w = getV v k ∧ k ∉ fr ∧ (k = q ∨ k < 1000) := by
 unfold asOwn at h
 split at h
 ·split at h
  ·rename_i h1 h2 h3
   obtain ⟨rfl, hh⟩ := El.cast_eq h
   have := eq_of_heq hh; subst this
   refine .inr ⟨_, _, rfl, Nat.eq_of_beq_eq_true h1, by simpa using h2, ?_⟩
   simp only [Bool.or_eq_true] at h3
   rcases h3 with h3 | h3
   ·exact .inl (Nat.eq_of_beq_eq_true h3)
   ·exact .inr (by simp [Nat.blt] at h3; omega)
  ·cases h
 ·simp only [Option.some.injEq] at h; exact .inl ⟨rfl, h.symm⟩
 ·cases h
theorem asOwn_ok {q : Nat} {e : El} {x : AV} {l : List e.T} {v : Value} {κ0 : Nat → Option Nat} {gb : Nat} (h : asOwn σ.v σ.fr q e x = some l) (hA : A1 tid c σ x v)
  (hκ : ∀ k, keyOf x = some k → κ0 q = c.κ k) (hplain : ∀ {l : List AV} {vs : List Value}, l.all AV.plain = true → CR c.w c.S c.g l vs → CR c.w c.S gb l vs) : A1 tid ⟨c.w, c.S, gb, κ0, fun _ => 0⟩ st0 (.own q 0 e l) v := by
 rcases asOwn_spec h with ⟨rfl, rfl⟩ | ⟨k, w, rfl, rfl, hk, _⟩
 ·have hF : FRel c.w c.S c.g .nil v := hA
  cases hF
  exact ⟨⟨_, _, _, rfl⟩, Nat.le_refl _, fun _ => .inl ⟨rfl, _, rfl⟩⟩
 ·refine ⟨hA.1, Nat.le_refl _, fun _ => ?_⟩
  rcases hA.2.2 rfl with r | ⟨b, vs, r1, r2, r3, r4⟩
  ·exact .inl r
  ·refine .inr ⟨b, vs, (hκ k rfl).trans r1, r2, r3, hplain ?_ r4⟩
   rw [List.all_eq_true]
   intro y hy
   obtain ⟨x, hx, hy⟩ := List.mem_flatMap.1 hy
   exact List.all_eq_true.1 (El.enc_plain e x) y hy
theorem key_mem {x : AV} {l : List AV} {k : Nat} (h : keyOf x = some k) (hx : x ∈ l) : k ∈ ownKeys l := by
 unfold keyOf at h
 split at h
 ·simp only [Option.some.injEq] at h; subst h
  exact List.mem_filterMap.2 ⟨_, hx, rfl⟩
 ·cases h
theorem key_fr {q : Nat} {e : El} {x : AV} {l : List e.T} {k : Nat} (h : asOwn σ.v σ.fr q e x = some l) (hk : keyOf x = some k) : k ∉ σ.fr := by
 rcases asOwn_spec h with ⟨rfl, rfl⟩ | ⟨k', w, rfl, rfl, hk', _⟩
 ·simp [keyOf] at hk
 ·simp only [keyOf, Option.some.injEq] at hk; subst hk; exact hk'
theorem ownKeys_sl {e : El} {x : AV} {l : List e.T} (h : asSl e x = some l) : keyOf x = none := by
 unfold asSl at h
 split at h <;> first | rfl | cases h
theorem mem_ownKeys {l : List AV} {k : Nat} (h : k ∈ ownKeys l) : ∃ x, x ∈ l ∧ keyOf x = some k := by
 obtain ⟨x, hx, hk⟩ := List.mem_filterMap.1 h
 refine ⟨x, hx, ?_⟩
 cases x <;> first | exact hk | simp at hk
theorem key_q {q : Nat} {e : El} {x : AV} {l : List e.T} {k : Nat} (h : asOwn σ.v σ.fr q e x = some l) (hk : keyOf x = some k) : k = q ∨ k < 1000 := by
 rcases asOwn_spec h with ⟨rfl, rfl⟩ | ⟨k', w, rfl, rfl, _, hk'⟩
 ·simp [keyOf] at hk
 ·simp only [keyOf, Option.some.injEq] at hk; subst hk; exact hk'
theorem getD_ge {l : List AV} {i : Nat} (h : l.length ≤ i) : l.getD i .undef = .undef := by rw [List.getD_eq_getElem?_getD, List.getElem?_eq_none h]; rfl
theorem decRow {τ : STy} {p : τ.T} {gb : Nat} {cells : List AV} {vs : List Value} (hinj : ∀ k k' b, k ∉ σ.fr → k' ∉ σ.fr → c.κ k = some b → c.κ k' = some b → k = k')
  (hl : cells.length = vs.length) (hA : ∀ i, i < cells.length → A1 tid c σ (cells.getD i .undef) (vs.getD i Go.undef)) (hd : τ.dec σ.v σ.fr cells = some p) :
  ∃ κ0 : Nat → Option Nat, (τ.enc 0 p).length = vs.length ∧ (∀ i, i < (τ.enc 0 p).length → A1 tid ⟨c.w, c.S, gb, κ0, fun _ => 0⟩ st0 ((τ.enc 0 p).getD i .undef) (vs.getD i Go.undef)) ∧
   (∀ k b, κ0 k = some b → k ∈ τ.keys ∧ ∃ k', k' ∈ ownKeys cells ∧ k' ∉ σ.fr ∧ c.κ k' = some b) ∧ (∀ k k' b, κ0 k = some b → κ0 k' = some b → k = k') ∧ ∀ k, k ∈ τ.keys → k ∈ ownKeys cells → κ0 k = c.κ k := by
 have hplain : ∀ {l : List AV} {vs : List Value}, l.all AV.plain = true → CR c.w c.S c.g l vs → CR c.w c.S gb l vs := fun hp h => h.plain hp
 have hP : ∀ {x : AV} {v : Value}, x.plain = true → x.fz1 = true → A1 tid c σ x v → FRel c.w c.S gb x v := fun h1 h2 r => (r.to_F tid h2).plain h1
 have hS : ∀ {e : El} {x : AV} {l : List e.T} {v : Value}, asSl e x = some l → A1 tid c σ x v → FRel c.w c.S gb (.sl e l) v := fun h r => (asSl_ok h (r.to_F tid (asSl_fz h))).plain rfl
 cases τ with
 | unit =>
  simp only [STy.dec] at hd
  unfold decU at hd
  split at hd
  ·exact ⟨fun _ => none, hl, fun i hi => (by simp [STy.enc] at hi), fun k b h => (by simp at h), fun k k' b h => (by simp at h), fun k hk => (by simp [STy.keys] at hk)⟩
  ·cases hd
 | prog =>
  simp only [STy.dec] at hd
  unfold decPS at hd
  split at hd
  rotate_left
  ·cases hd
  rename_i a0 a1 a2 a3 a4 a5 a6 a7 a8 a9
  split at hd
  rotate_left
  ·cases hd
  rename_i l sig row h0 h1 h4
  simp only [Option.some.injEq] at hd
  subst hd
  refine ⟨fun j => if j = 1004 then (keyOf a4).bind c.κ else none, hl, fun i hi => ?_, fun k b h => ?_, fun k k' b h h' => ?_, fun k hk hmem => ?_⟩
  ·have r := hA i hi
   match i, r with
   | 0, r => exact hS h0 r
   | 1, r => exact hS h1 r
   | 2, r => exact hP rfl rfl r
   | 3, r => exact hP rfl rfl r
   | 4, r => exact asOwn_ok h4 r (fun k hk => by simp [hk]) hplain
   | 5, r => exact hP rfl rfl r
   | 6, r => exact hP rfl rfl r
   | 7, r => exact hP rfl rfl r
   | 8, r => exact hP rfl rfl r
   | 9, r => exact hP rfl rfl r
   | n + 10, r => simp [STy.enc] at hi; omega
  ·dsimp only at h
   split at h
   ·rename_i hk
    obtain ⟨k', h5, h6⟩ := Option.bind_eq_some_iff.1 h
    exact ⟨by simp [STy.keys, hk], k', key_mem h5 (by simp), key_fr h4 h5, h6⟩
   ·cases h
  ·dsimp only at h h'
   split at h <;> split at h' <;> first | (cases h; done) | (cases h'; done) | omega
  ·have hk : k = 1004 := by simpa [STy.keys] using hk
   subst hk
   obtain ⟨x, hx, hkx⟩ := mem_ownKeys hmem
   simp only [List.mem_cons, List.not_mem_nil, or_false] at hx
   rcases hx with rfl | rfl | rfl | rfl | rfl | rfl | rfl | rfl | rfl | rfl <;> first
    | (simp [keyOf] at hkx; done)
    | (simp [hkx]; done)
    | (rw [ownKeys_sl h0] at hkx; cases hkx)
    | (rw [ownKeys_sl h1] at hkx; cases hkx)
 | ref =>
  simp only [STy.dec] at hd
  unfold decQS at hd
  split at hd
  rotate_left
  ·cases hd
  rename_i a0 a1 a2 a3 a4 a5 a6 a7 a8
  split at hd
  rotate_left
  ·cases hd
  rename_i l row high h0 h2 h3 hap
  simp only [Option.some.injEq] at hd
  subst hd
  refine ⟨fun j => if j = 1002 then (keyOf a2).bind c.κ else if j = 1003 then (keyOf a3).bind c.κ else none, hl, fun i hi => ?_, fun k b h => ?_, fun k k' b h h' => ?_, fun k hk hmem => ?_⟩
  ·have r := hA i hi
   match i, r with
   | 0, r => exact hS h0 r
   | 1, r => exact hP rfl rfl r
   | 2, r => exact asOwn_ok h2 r (fun k hk => by simp [hk]) hplain
   | 3, r => exact asOwn_ok h3 r (fun k hk => by simp [hk]) hplain
   | 4, r => exact hP rfl rfl r
   | 5, r => exact hP rfl rfl r
   | 6, r => exact hP rfl rfl r
   | 7, r => exact hP rfl rfl r
   | 8, r => exact hP rfl rfl r
   | n + 9, r => simp [STy.enc] at hi; omega
  ·dsimp only at h
   split at h
   ·rename_i hk
    obtain ⟨k', h5, h6⟩ := Option.bind_eq_some_iff.1 h
    exact ⟨by simp [STy.keys, hk], k', key_mem h5 (by simp), key_fr h2 h5, h6⟩
   ·split at h
    ·rename_i hk
     obtain ⟨k', h5, h6⟩ := Option.bind_eq_some_iff.1 h
     exact ⟨by simp [STy.keys, hk], k', key_mem h5 (by simp), key_fr h3 h5, h6⟩
    ·cases h
  ·have hcl : ∀ {k2 k3}, (keyOf a2) = some k2 → (keyOf a3) = some k3 → c.κ k2 = some b → c.κ k3 = some b → False := by
    intro k2 k3 e2 e3 g2 g3
    have := hinj k2 k3 b (key_fr h2 e2) (key_fr h3 e3) g2 g3
    subst this
    simp [keysApart, e2, e3] at hap
   dsimp only at h h'
   by_cases e1 : k = 1002
   ·by_cases e2 : k' = 1002
    ·rw [e1, e2]
    ·simp only [if_pos e1] at h
     simp only [if_neg e2] at h'
     split at h'
     ·obtain ⟨k2, g1, g2⟩ := Option.bind_eq_some_iff.1 h
      obtain ⟨k3, g3, g4⟩ := Option.bind_eq_some_iff.1 h'
      exact (hcl g1 g3 g2 g4).elim
     ·cases h'
   ·simp only [if_neg e1] at h
    split at h
    ·rename_i e3
     by_cases e2 : k' = 1002
     ·simp only [if_pos e2] at h'
      obtain ⟨k2, g1, g2⟩ := Option.bind_eq_some_iff.1 h'
      obtain ⟨k3, g3, g4⟩ := Option.bind_eq_some_iff.1 h
      exact (hcl g1 g3 g2 g4).elim
     ·simp only [if_neg e2] at h'
      split at h'
      ·omega
      ·cases h'
    ·cases h
  ·obtain ⟨x, hx, hkx⟩ := mem_ownKeys hmem
   have hk : k = 1002 ∨ k = 1003 := by simpa [STy.keys] using hk
   have hq2 : ∀ k, keyOf a2 = some k → k = 1002 ∨ k < 1000 := fun k hk => key_q h2 hk
   have hq3 : ∀ k, keyOf a3 = some k → k = 1003 ∨ k < 1000 := fun k hk => key_q h3 hk
   simp only [List.mem_cons, List.not_mem_nil, or_false] at hx
   rcases hx with rfl | rfl | rfl | rfl | rfl | rfl | rfl | rfl | rfl <;> first
    | (simp [keyOf] at hkx; done)
    | (rw [ownKeys_sl h0] at hkx; cases hkx; done)
    | (have := hq2 k hkx; have e : k = 1002 := (by omega); subst e; simp [hkx]; done)
    | (have := hq3 k hkx; have e : k = 1003 := (by omega); subst e; simp [hkx]; done)
end
end Go.AI
namespace Go.AI
section
variable {tid : El → Nat} {c c' : Cx} {σ σ' : St} {B : Base} {N : Nat} {a : Act} {w w' : World} {P : Program}
theorem Rel.called (h : Rel tid B N c σ a w) {S' : Nat → Nat → Prop} {F : Nat → Prop} {κ' : Nat → Option Nat} {Ks : List Nat} (hK : Keep w F w') (hSS : ∀ b o, c.S b o → S' b o) (hSn : ∀ b o, S' b o → c.S b o ∨ F b ∨ w.heap.size ≤ b) (hSz : ∀ b o, S' b o → b < w'.heap.size)
  (hFm : ∀ b, F b → B.mine b) (hFS : ∀ b o, F b → ¬ c.S b o) (hFκ : ∀ k b, k ∉ σ.fr → c.κ k = some b → F b → k ∈ Ks)
  (hκ' : ∀ k b, κ' k = some b → (F b ∨ w.heap.size ≤ b) ∧ b < w'.heap.size ∧ (∀ o, ¬ S' b o) ∧ (σ.s ≠ [] → b ≠ c.g) ∧ ∀ j, getB σ.b j ≠ [] → b ≠ c.β j) (hinj : ∀ k k' b, κ' k = some b → κ' k' = some b → k = k')
  (ht : σ'.t = σ.t) (hc : σ.c ≤ σ'.c) (hvK : ∀ k, k ∈ Ks → σ.c < getV σ'.v k ∧ getV σ'.v k ≤ σ'.c) (hvO : ∀ k, k ∉ Ks → getV σ'.v k = getV σ.v k) (hfr : ∀ k, k ∈ σ'.fr ↔ k ∈ σ.fr ∧ k ∉ Ks)
  (hbS : ∀ j, getB σ.b j ≠ [] → ∀ o, ¬ S' (c.β j) o) (hgS : σ.s ≠ [] → ∀ o, ¬ S' c.g o) (hbn : ∀ j, getB σ'.b j ≠ [] ↔ getB σ.b j ≠ []) (hsn : σ'.s ≠ [] → σ.s ≠ [])
  (hrow : Step c σ ⟨w', S', c.g, fun k => if k ∈ Ks then κ' k else c.κ k, c.β⟩ σ' → (∀ j, getB σ'.b j ≠ [] → (getB σ'.b j = getB σ.b j ∧ ¬ F (c.β j)) ∨ RowR tid ⟨w', S', c.g, fun k => if k ∈ Ks then κ' k else c.κ k, c.β⟩ σ' (c.β j) (getB σ'.b j)) ∧
   (σ'.s ≠ [] → (σ'.s = σ.s ∧ ¬ F c.g) ∨ RowR tid ⟨w', S', c.g, fun k => if k ∈ Ks then κ' k else c.κ k, c.β⟩ σ' c.g σ'.s)) :
  Rel tid B N ⟨w', S', c.g, fun k => if k ∈ Ks then κ' k else c.κ k, c.β⟩ σ' a w' ∧ Step c σ ⟨w', S', c.g, fun k => if k ∈ Ks then κ' k else c.κ k, c.β⟩ σ' := by
 have hw := h.hw
 have hblk : ∀ b, b < w.heap.size → ¬ F b → w'.heap[b]? = w.heap[b]? := hK.block
 have hSF : ∀ b o, c.S b o → ¬ F b := fun b o hs hf => hFS b o hf hs
 have hκo : ∀ k b, k ∉ Ks → c.κ k = some b → b < w.heap.size ∧ ¬ F b := by
  intro k b hk hb
  by_cases hf : k ∈ σ.fr
  ·have := h.fz k b hf hb 0; exact ⟨h.stsz b 0 this, hSF b 0 this⟩
  ·exact ⟨(h.own k b hf hb).2.1, fun hF => hk (hFκ k b hf hb hF)⟩
 have st : Step c σ ⟨w', S', c.g, fun k => if k ∈ Ks then κ' k else c.κ k, c.β⟩ σ' := by
  refine ⟨rfl, fun b o x hs hx => ?_, hSS, hc, fun k hk => ⟨(hbn k).2 hk, rfl⟩, fun k => ?_⟩
  ·rw [hw] at hx
   exact (World.cell?_of_block (w := w) (a := ⟨b, o, none⟩) (hblk b (h.stsz b o hs) (hSF b o hs))).trans hx
  ·by_cases hk : k ∈ Ks
   ·exact .inr (hvK k hk).1
   ·refine .inl ⟨hvO k hk, if_neg hk, fun b hb => ?_⟩
    have := hκo k b hk hb
    rw [hw]; exact hblk b this.1 this.2
 obtain ⟨hrb, hrs⟩ := hrow st
 refine ⟨{ hw := rfl, ds := h.ds, n := h.n, t := fun i => by rw [ht]; exact (h.t i).step st, b := fun j hj => ?_, s := fun hs => ?_, ver := fun k => ?_, fz := fun k b hk hb o => ?_, own := fun k b hk hb => ?_, inj := fun k k' b hk hk' h1 h2 => ?_, box := fun j hj => ?_, gg := fun hs => ⟨(h.gg (hsn hs)).1, hgS (hsn hs)⟩, old := fun b o hs => ?_, grow := fun b o hs => hSS b o (h.grow b o hs), stsz := hSz, keep := ?_ }, st⟩
 ·have hj0 := (hbn j).1 hj
  rcases hrb j hj with ⟨h1, h2⟩ | h1
  ·rw [h1]
   have r := h.b j hj0
   exact r.step st (by rw [hw]; exact hblk _ (by have := r.lt; rw [hw] at this; exact this) h2)
  ·exact h1
 ·rcases hrs hs with ⟨h1, h2⟩ | h1
  ·rw [h1]
   have r := h.s (hsn hs)
   exact r.step st (by rw [hw]; exact hblk _ (by have := r.lt; rw [hw] at this; exact this) h2)
  ·exact h1
 ·by_cases hk : k ∈ Ks
  ·exact (hvK k hk).2
  ·rw [hvO k hk]; exact Nat.le_trans (h.ver k) hc
 ·have hk' := (hfr k).1 hk
  simp only [if_neg hk'.2] at hb
  exact hSS b o (h.fz k b hk'.1 hb o)
 ·by_cases hkK : k ∈ Ks
  ·simp only [if_pos hkK] at hb
   have r := hκ' k b hb
   refine ⟨?_, r.2.1, r.2.2.1, fun hs => r.2.2.2.1 (hsn hs), fun j hj => r.2.2.2.2 j ((hbn j).1 hj)⟩
   rcases r.1 with r1 | r1
   ·exact hFm b r1
   ·exact .inr (Nat.le_trans h.keep.size r1)
  ·simp only [if_neg hkK] at hb
   have hk0 : k ∉ σ.fr := fun hf => hk ((hfr k).2 ⟨hf, hkK⟩)
   have r := h.own k b hk0 hb
   refine ⟨r.1, by have := r.2.1; have := hK.size; show b < w'.heap.size; omega, fun o hs => ?_, fun hs => r.2.2.2.1 (hsn hs), fun j hj => r.2.2.2.2 j ((hbn j).1 hj)⟩
   rcases hSn b o hs with hs | hs | hs
   ·exact r.2.2.1 o hs
   ·exact (hκo k b hkK hb).2 hs
   ·have := r.2.1; omega
 ·have hx : ∀ i, i ∉ σ'.fr → i ∉ Ks → i ∉ σ.fr := fun i hi hiK hf => hi ((hfr i).2 ⟨hf, hiK⟩)
  by_cases e1 : k ∈ Ks <;> by_cases e2 : k' ∈ Ks
  ·simp only [if_pos e1] at h1; simp only [if_pos e2] at h2
   exact hinj k k' b h1 h2
  ·simp only [if_pos e1] at h1; simp only [if_neg e2] at h2
   have := hκo k' b e2 h2
   rcases (hκ' k b h1).1 with r | r
   ·exact (this.2 r).elim
   ·omega
  ·simp only [if_neg e1] at h1; simp only [if_pos e2] at h2
   have := hκo k b e1 h1
   rcases (hκ' k' b h2).1 with r | r
   ·exact (this.2 r).elim
   ·omega
  ·simp only [if_neg e1] at h1; simp only [if_neg e2] at h2
   exact h.inj k k' b (hx k hk e1) (hx k' hk' e2) h1 h2
 ·have hj0 := (hbn j).1 hj
  have r := h.box j hj0
  exact ⟨r.1, hbS j hj0, fun hs => r.2.2.1 (hsn hs), fun j' hj' => r.2.2.2 j' ((hbn j').1 hj')⟩
 ·rcases hSn b o hs with hs | hs | hs
  ·exact h.old b o hs
  ·exact .inr (hFm b hs)
  ·exact .inr (.inr (Nat.le_trans h.keep.size hs))
 ·refine ⟨hK.os.trans h.keep.os, hK.tape.trans h.keep.tape, hK.output.trans h.keep.output, Nat.le_trans h.keep.size hK.size, fun b h1 h2 => ?_⟩
  rw [hblk b (by have := h.keep.size; omega) (fun hF => ?_)]
  ·exact h.keep.block b h1 h2
  ·rcases hFm b hF with r | r
   ·exact h2 r
   ·omega
theorem sh_ok {w : World} {S : Nat → Nat → Prop} {g g' : Nat} (h : Sh) : ∀ {x : AV} {u : Value} {y : h.T}, FRel w S g x u → h.dec x = some y → FRel w S g' (h.enc y) u := by
 induction h with
 | u => intro x u y hF hd; exact .undef _
 | i =>
  intro x u y hF hd
  simp only [Sh.dec] at hd
  unfold asInt at hd
  split at hd
  ·simp only [Option.some.injEq] at hd; subst hd; exact hF.plain rfl
  ·cases hd
 | b =>
  intro x u y hF hd
  simp only [Sh.dec] at hd
  unfold asBoo at hd
  split at hd
  ·simp only [Option.some.injEq] at hd; subst hd; exact hF.plain rfl
  ·cases hd
 | str =>
  intro x u y hF hd
  simp only [Sh.dec] at hd
  unfold asStr at hd
  split at hd
  ·simp only [Option.some.injEq] at hd; subst hd; exact hF.plain rfl
  ·cases hd
 | e k =>
  intro x u y hF hd
  simp only [Sh.dec] at hd
  split at hd
  rotate_left
  ·cases hd
  rename_i l hl
  unfold asAgL at hl
  split at hl
  ·simp only [Option.some.injEq] at hl; subst hl
   cases hF with
   | agg _ vs hl ho hA =>
    have := (dec_CR hd ⟨hl, hA⟩).plain (g' := g') (El.enc_plain k y)
    exact .agg _ vs this.1 (El.enc_one k y) this.2
  ·cases hl
 | s k =>
  intro x u y hF hd
  simp only [Sh.dec] at hd
  exact (asSl_ok hd hF).plain rfl
 | n τ =>
  intro x u y hF hd
  simp only [Sh.dec] at hd
  split at hd
  rotate_left
  ·cases hd
  rename_i l hl
  unfold asNew at hl
  split at hl
  ·cases hF
  ·cases hl
 | t2 p q ih1 ih2 =>
  intro x u y hF hd
  simp only [Sh.dec] at hd
  split at hd
  rotate_left
  ·cases hd
  rename_i a b ht
  unfold asT2 at ht
  split at ht
  ·simp only [Option.some.injEq, Prod.mk.injEq] at ht
   obtain ⟨rfl, rfl⟩ := ht
   split at hd
   ·rename_i y1 y2 h1 h2
    simp only [Option.some.injEq] at hd; subst hd
    cases hF with
    | tup _ vs hl hA =>
     refine .tup _ vs hl fun i hi => ?_
     match i, hA i hi with
     | 0, r => exact ih1 r h1
     | 1, r => exact ih2 r h2
     | n + 2, _ => simp at hi; omega
   ·cases hd
  ·cases ht
 | t3 p q s ih1 ih2 ih3 =>
  intro x u y hF hd
  simp only [Sh.dec] at hd
  split at hd
  rotate_left
  ·cases hd
  rename_i a b d ht
  unfold asT3 at ht
  split at ht
  ·simp only [Option.some.injEq, Prod.mk.injEq] at ht
   obtain ⟨rfl, rfl, rfl⟩ := ht
   split at hd
   ·rename_i y1 y2 y3 h1 h2 h3
    simp only [Option.some.injEq] at hd; subst hd
    cases hF with
    | tup _ vs hl hA =>
     refine .tup _ vs hl fun i hi => ?_
     match i, hA i hi with
     | 0, r => exact ih1 r h1
     | 1, r => exact ih2 r h2
     | 2, r => exact ih3 r h3
     | n + 3, _ => simp at hi; omega
   ·cases hd
  ·cases ht
theorem asOwn_new {w : World} {S : Nat → Nat → Prop} {g q : Nat} {e : El} {x : AV} {l : List e.T} {v : Value} (h : asOwn [] [] q e x = some l) (hF : FRel w S g x v) : l = [] ∧ ∃ ad, v = .slice ad 0 0 := by
 rcases asOwn_spec h with ⟨rfl, rfl⟩ | ⟨k, w, rfl, _⟩
 ·cases hF; exact ⟨rfl, _, rfl⟩
 ·cases hF
theorem newRow_ok {τ : STy} {x : τ.T} {g : Nat} {l : List AV} {vs : List Value} (hC : CR c.w c.S g l vs) (hd : τ.dec [] [] l = some x) :
  (τ.enc 0 x).length = vs.length ∧ ∀ i, i < (τ.enc 0 x).length → A1 tid c σ ((τ.enc 0 x).getD i .undef) (vs.getD i Go.undef) := by
 have hP : ∀ {x : AV} {v : Value}, x.plain = true → x.fz1 = true → FRel c.w c.S g x v → A1 tid c σ x v := fun h1 h2 r => A1.of_F tid (r.plain h1)
 have hS : ∀ {e : El} {x : AV} {l : List e.T} {v : Value}, asSl e x = some l → FRel c.w c.S g x v → A1 tid c σ (.sl e l) v := fun h r => A1.of_F tid ((asSl_ok h r).plain rfl)
 have hO : ∀ {q : Nat} {e : El} {x : AV} {l : List e.T} {v : Value}, asOwn [] [] q e x = some l → FRel c.w c.S g x v → A1 tid c σ (.own q 0 e l) v := by
  intro q e x l v h r
  obtain ⟨rfl, ad, rfl⟩ := asOwn_new h r
  exact ⟨⟨_, _, _, rfl⟩, Nat.zero_le _, fun _ => .inl ⟨rfl, _, rfl⟩⟩
 cases τ with
 | unit =>
  simp only [STy.dec] at hd
  unfold decU at hd
  split at hd
  ·exact ⟨hC.1, fun i hi => by simp [STy.enc] at hi⟩
  ·cases hd
 | prog =>
  simp only [STy.dec] at hd
  unfold decPS at hd
  split at hd
  rotate_left
  ·cases hd
  split at hd
  rotate_left
  ·cases hd
  rename_i l sig row h0 h1 h4
  simp only [Option.some.injEq] at hd
  subst hd
  refine ⟨hC.1, fun i hi => ?_⟩
  have r := hC.2 i hi
  match i, r with
  | 0, r => exact hS h0 r
  | 1, r => exact hS h1 r
  | 2, r => exact hP rfl rfl r
  | 3, r => exact hP rfl rfl r
  | 4, r => exact hO h4 r
  | 5, r => exact hP rfl rfl r
  | 6, r => exact hP rfl rfl r
  | 7, r => exact hP rfl rfl r
  | 8, r => exact hP rfl rfl r
  | 9, r => exact hP rfl rfl r
  | n + 10, r => simp [STy.enc] at hi; omega
 | ref =>
  simp only [STy.dec] at hd
  unfold decQS at hd
  split at hd
  rotate_left
  ·cases hd
  split at hd
  rotate_left
  ·cases hd
  rename_i l row high h0 h2 h3 hap
  simp only [Option.some.injEq] at hd
  subst hd
  refine ⟨hC.1, fun i hi => ?_⟩
  have r := hC.2 i hi
  match i, r with
  | 0, r => exact hS h0 r
  | 1, r => exact hP rfl rfl r
  | 2, r => exact hO h2 r
  | 3, r => exact hO h3 r
  | 4, r => exact hP rfl rfl r
  | 5, r => exact hP rfl rfl r
  | 6, r => exact hP rfl rfl r
  | 7, r => exact hP rfl rfl r
  | 8, r => exact hP rfl rfl r
  | n + 9, r => simp [STy.enc] at hi; omega
theorem gotK_ok (hR : Rel tid B N c σ a w) {d : Option Nat} (hd : ∀ x, d = some x → x < N) {h : Sh} {x : h.T} {r : AV} {u : Value} {n g : Nat} {κ' : Nat → Option Nat} (hv : RetV c.w c.S g κ' n r u) (hdec : h.dec r = some x)
  (hn : ∀ nb, n ≤ nb → B.w0.heap.size ≤ nb ∧ (σ.s ≠ [] → nb ≠ c.g) ∧ ∀ j, getB σ.b j ≠ [] → nb ≠ c.β j) (hκ : ∀ nb k, k ∉ σ.fr → (∀ k, κ' k ≠ some nb) → n ≤ nb → c.κ k ≠ some nb) (hK : gotK σ d h x some = some σ') :
  ∃ c1, Rel tid B N c1 σ' (a.put d u) w := by
 have plain : FRel c.w c.S g r u → gotK σ d h x some = some (σ.put d (h.enc x)) → ∃ c1, Rel tid B N c1 σ' (a.put d u) w := by
  intro hF hK'
  rw [hK] at hK'
  simp only [Option.some.injEq] at hK'
  subst hK'
  exact ⟨c, hR.put hd (AR.of_F tid (sh_ok h hF hdec))⟩
 have undef : gotK σ d h x some = some (σ.put d .undef) → ∃ c1, Rel tid B N c1 σ' (a.put d u) w := by
  intro hK'
  rw [hK] at hK'
  simp only [Option.some.injEq] at hK'
  subst hK'
  exact ⟨c, hR.put hd (AR.of_F tid (.undef _))⟩
 cases h with
 | u => exact undef rfl
 | n τ' =>
  simp only [Sh.dec] at hdec
  split at hdec
  rotate_left
  ·cases hdec
  rename_i l hl
  unfold asNew at hl
  split at hl
  rotate_left
  ·cases hl
  simp only [Option.some.injEq] at hl
  subst hl
  obtain ⟨nb, vs, T, rfl, hblk, hC, hnb, hnS, hnκ⟩ := hv
  cases d with
  | none =>
   simp only [gotK, Option.some.injEq] at hK
   subst hK
   exact ⟨c, hR⟩
  | some d =>
   simp only [gotK] at hK
   split at hK
   rotate_left
   ·cases hK
   rename_i y l' hb he
   simp only [Option.some.injEq] at hK
   subst hK
   obtain ⟨r1, r2⟩ := newRow_ok (tid := tid) (σ := σ) hC hdec
   have hm := hn nb hnb
   have hR1 := hR.box' (d := d) (nb := nb) (l := τ'.enc 0 x) hb (by rw [he]; simp) hm.1 hnS hm.2.1 hm.2.2 (fun k hk => hκ nb k hk hnκ hnb) ⟨vs, T, hblk, r1, r2⟩
   rw [he] at hR1
   refine ⟨_, hR1.put hd (AR.of_A1' ⟨by simp, ?_⟩)⟩
   show getB ((d, y :: l') :: σ.b) d ≠ []
   rw [getB_cons, if_pos rfl]; simp
 | i =>
  have hF : FRel c.w c.S g r u := by
   cases r <;> first | exact hv | (simp [Sh.dec, asInt] at hdec; done)
  exact plain hF rfl
 | b =>
  have hF : FRel c.w c.S g r u := by
   cases r <;> first | exact hv | (simp [Sh.dec, asBoo] at hdec; done)
  exact plain hF rfl
 | str =>
  have hF : FRel c.w c.S g r u := by
   cases r <;> first | exact hv | (simp [Sh.dec, asStr] at hdec; done)
  exact plain hF rfl
 | e k =>
  have hF : FRel c.w c.S g r u := by
   cases r <;> first | exact hv | (simp [Sh.dec, asAgL] at hdec; done)
  exact plain hF rfl
 | s k =>
  have hF : FRel c.w c.S g r u := by
   cases r <;> first | exact hv | (simp [Sh.dec, asSl] at hdec; done)
  exact plain hF rfl
 | t2 p q =>
  have hF : FRel c.w c.S g r u := by
   cases r <;> first | exact hv | (simp [Sh.dec, asT2] at hdec; done)
  exact plain hF rfl
 | t3 p q s =>
  have hF : FRel c.w c.S g r u := by
   cases r <;> first | exact hv | (simp [Sh.dec, asT3] at hdec; done)
  exact plain hF rfl
end
end Go.AI
namespace Go.AI
section
variable {tid : El → Nat} {c c' : Cx} {σ σ' : St} {B : Base} {N : Nat} {a : Act} {w w' : World} {P : Program}
theorem dec_keys {τ : STy} {p : τ.T} {cells : List AV} (hd : τ.dec σ.v σ.fr cells = some p) : ∀ k, k ∈ ownKeys cells → k ∉ σ.fr := by
 intro k hmem
 obtain ⟨x, hx, hk⟩ := mem_ownKeys hmem
 clear hmem
 cases τ with
 | unit =>
  simp only [STy.dec] at hd
  unfold decU at hd
  split at hd
  ·simp at hx
  ·cases hd
 | prog =>
  simp only [STy.dec] at hd
  unfold decPS at hd
  split at hd
  rotate_left
  ·cases hd
  split at hd
  rotate_left
  ·cases hd
  rename_i l sig row h0 h1 h4
  simp only [List.mem_cons, List.not_mem_nil, or_false] at hx
  rcases hx with rfl | rfl | rfl | rfl | rfl | rfl | rfl | rfl | rfl | rfl <;> first
   | (simp [keyOf] at hk; done)
   | exact key_fr h4 hk
   | (rw [ownKeys_sl h0] at hk; cases hk)
   | (rw [ownKeys_sl h1] at hk; cases hk)
 | ref =>
  simp only [STy.dec] at hd
  unfold decQS at hd
  split at hd
  rotate_left
  ·cases hd
  split at hd
  rotate_left
  ·cases hd
  rename_i l row high h0 h2 h3 hap
  simp only [List.mem_cons, List.not_mem_nil, or_false] at hx
  rcases hx with rfl | rfl | rfl | rfl | rfl | rfl | rfl | rfl | rfl <;> first
   | (simp [keyOf] at hk; done)
   | exact key_fr h2 hk
   | exact key_fr h3 hk
   | (rw [ownKeys_sl h0] at hk; cases hk)
theorem srep_of (R : Rel tid B N c σ a w) {τ : STy} {p : τ.T} {gb : Nat} {cells : List AV} (row : RowR tid c σ gb cells) (hgS : ∀ o, ¬ c.S gb o) (hgκ : ∀ k b, k ∉ σ.fr → c.κ k = some b → b ≠ gb) (hd : τ.dec σ.v σ.fr cells = some p) :
  ∃ κ0 : Nat → Option Nat, SRep tid τ w c.S gb κ0 p ∧ ∀ k b, κ0 k = some b → k ∈ τ.keys ∧ ∃ k', k' ∈ ownKeys cells ∧ k' ∉ σ.fr ∧ c.κ k' = some b := by
 obtain ⟨vs, T, h1, h2, h3⟩ := row
 obtain ⟨κ0, g1, g2, g3, g4, _⟩ := decRow (gb := gb) R.inj h2 h3 hd
 have hw := R.hw
 refine ⟨κ0, ⟨fun _ => ⟨vs, T, by rw [hw] at h1; exact h1, g1, fun i hi => by have := g2 i hi; rw [hw] at this; exact this⟩, R.stsz, fun _ => hgS, fun k b hk => ?_, g4⟩, g3⟩
 obtain ⟨hk0, k', h4, h5, h6⟩ := g3 k b hk
 have r := R.own k' b h5 h6
 exact ⟨hk0, r.2.1, r.2.2.1, hgκ k' b h5 h6⟩
theorem Rel.after (R : Rel tid B N c σ a w) {τ : STy} {p : τ.T} {gb : Nat} {κ0 κ' : Nat → Option Nat} {S' : Nat → Nat → Prop} {Ks : List Nat} (hτ : τ ≠ .unit)
  (hκ0 : ∀ k b, κ0 k = some b → k ∈ τ.keys ∧ ∃ k', k' ∈ Ks ∧ k' ∉ σ.fr ∧ c.κ k' = some b) (hm : B.mine gb) (hgS : ∀ o, ¬ c.S gb o) (hgκ : ∀ k b, k ∉ σ.fr → c.κ k = some b → b ≠ gb) (hlt : gb < w.heap.size)
  (post : SRep tid τ w' S' gb κ' p) (hK : Keep w (Foot τ gb κ0) w') (hSS : ∀ b o, c.S b o → S' b o) (hSn : ∀ b o, S' b o → c.S b o ∨ Foot τ gb κ0 b ∨ w.heap.size ≤ b) (hκn : ∀ k b, κ' k = some b → Foot τ gb κ0 b ∨ w.heap.size ≤ b)
  (hKs : ∀ k, k ∈ τ.keys → k ∈ Ks) (hKf : ∀ k, k ∈ Ks → k ∈ σ.fr → k ∈ τ.keys)
  (ht : σ'.t = σ.t) (hc : σ'.c = σ.c + 1) (hvK : ∀ k, k ∈ Ks → getV σ'.v k = σ.c + 1) (hvO : ∀ k, k ∉ Ks → getV σ'.v k = getV σ.v k) (hfr : ∀ k, k ∈ σ'.fr ↔ k ∈ σ.fr ∧ k ∉ τ.keys)
  (hb1 : ∀ j, getB σ.b j ≠ [] → c.β j ≠ gb → getB σ'.b j = getB σ.b j) (hb2 : ∀ j, getB σ.b j ≠ [] → c.β j = gb → getB σ'.b j = τ.enc (σ.c + 1) p) (hb3 : ∀ j, getB σ'.b j ≠ [] → getB σ.b j ≠ [])
  (hs1 : σ.s ≠ [] → c.g ≠ gb → σ'.s = σ.s) (hs2 : σ.s ≠ [] → c.g = gb → σ'.s = τ.enc (σ.c + 1) p) (hs3 : σ'.s ≠ [] → σ.s ≠ []) :
  ∃ c1, Rel tid B N c1 σ' a w' ∧ c1.S = S' ∧ c1.g = c.g ∧ c1.β = c.β ∧ ∀ k, c1.κ k = if k ∈ Ks then κ' k else c.κ k := by
 have hF : ∀ b, Foot τ gb κ0 b → b = gb ∨ ∃ k', k' ∈ Ks ∧ k' ∉ σ.fr ∧ c.κ k' = some b := by
  intro b hb
  rcases hb with ⟨_, hb⟩ | ⟨k, hb⟩
  ·exact .inl hb
  ·exact .inr (hκ0 k b hb).2
 have hne : τ.enc (σ.c + 1) p ≠ [] := (enc_ne _ _ _).2 hτ
 have hnF : ∀ j, getB σ.b j ≠ [] → c.β j ≠ gb → ¬ Foot τ gb κ0 (c.β j) := by
  intro j hj hne hf
  rcases hF _ hf with h1 | ⟨k', _, h2, h3⟩
  ·exact hne h1
  ·exact (R.own k' _ h2 h3).2.2.2.2 j hj rfl
 have hnG : σ.s ≠ [] → c.g ≠ gb → ¬ Foot τ gb κ0 c.g := by
  intro hs hne hf
  rcases hF _ hf with h1 | ⟨k', _, h2, h3⟩
  ·exact hne h1
  ·exact (R.own k' _ h2 h3).2.2.2.1 hs rfl
 have hw := R.hw
 have hβlt : ∀ j, getB σ.b j ≠ [] → c.β j < w.heap.size := fun j hj => by have := (R.b j hj).lt; rw [hw] at this; exact this
 have hglt : σ.s ≠ [] → c.g < w.heap.size := fun hs => by have := (R.s hs).lt; rw [hw] at this; exact this
 have h0 := post.gs ((enc_ne _ _ _).2 hτ)
 have hrow : ∀ c1 : Cx, c1.w = w' → c1.S = S' → (∀ k, k ∈ τ.keys → c1.κ k = κ' k) → σ'.c = σ.c + 1 → RowR tid c1 σ' gb (τ.enc (σ.c + 1) p) := by
  intro c1 e1 e2 e3 e4
  obtain ⟨vs, T, g1, g2, g3⟩ := post.row ((enc_ne _ _ _).2 hτ)
  refine ⟨vs, T, by rw [e1]; exact g1, by rw [enc_length τ _ 0]; exact g2, fun i hi => ?_⟩
  rw [enc_length τ _ 0] at hi
  have g4 := g3 i hi
  have := enc_ver τ (σ.c + 1) p ⟨w', S', gb, κ', fun _ => 0⟩ { c1 with g := gb } st0 σ' e1 e2 rfl e3 (fun k _ => rfl) (by omega) g4
  -- the struct's place does not matter to its cells
  have hgen : ∀ {x : AV} {v : Value}, A1 tid { c1 with g := gb } σ' x v → (∀ i, x ≠ .rdr i) → (x.plain = true ∨ ∃ k q e l, x = .own k q e l) → A1 tid c1 σ' x v := by
   intro x v hx _ hp
   rcases hp with hp | ⟨k, q, e, l, rfl⟩
   ·have hz : x.fz1 = true := by cases x <;> first | rfl | simp [AV.plain] at hp
    have hq : FRel c1.w c1.S gb x v := A1.to_F (c := { c1 with g := gb }) tid hx hz
    exact A1.of_F tid (hq.plain hp)
   ·refine ⟨hx.1, hx.2.1, fun hv => ?_⟩
    rcases hx.2.2 hv with r | ⟨b, vs, r1, r2, r3, r4⟩
    ·exact .inl r
    ·refine .inr ⟨b, vs, r1, r2, r3, r4.plain ?_⟩
     rw [List.all_eq_true]
     intro y hy
     obtain ⟨z, _, hy⟩ := List.mem_flatMap.1 hy
     exact List.all_eq_true.1 (El.enc_plain e z) y hy
  refine hgen this (fun j e => ?_) ?_
  ·clear this g4 hgen
   cases τ with
   | unit => exact absurd rfl hτ
   | prog =>
    match i with
    | 0 => cases e
    | 1 => cases e
    | 2 => cases e
    | 3 => cases e
    | 4 => cases e
    | 5 => cases e
    | 6 => cases e
    | 7 => cases e
    | 8 => cases e
    | 9 => cases e
    | n + 10 => simp [STy.enc] at hi; omega
   | ref =>
    match i with
    | 0 => cases e
    | 1 => cases e
    | 2 => cases e
    | 3 => cases e
    | 4 => cases e
    | 5 => cases e
    | 6 => cases e
    | 7 => cases e
    | 8 => cases e
    | n + 9 => simp [STy.enc] at hi; omega
  ·clear this g4 hgen
   cases τ with
   | unit => exact absurd rfl hτ
   | prog =>
    match i with
    | 0 => exact .inl rfl
    | 1 => exact .inl rfl
    | 2 => exact .inl rfl
    | 3 => exact .inl rfl
    | 4 => exact .inr ⟨_, _, _, _, rfl⟩
    | 5 => exact .inl rfl
    | 6 => exact .inl rfl
    | 7 => exact .inl rfl
    | 8 => exact .inl rfl
    | 9 => exact .inl rfl
    | n + 10 => exact .inl rfl
   | ref =>
    match i with
    | 0 => exact .inl rfl
    | 1 => exact .inl rfl
    | 2 => exact .inr ⟨_, _, _, _, rfl⟩
    | 3 => exact .inr ⟨_, _, _, _, rfl⟩
    | 4 => exact .inl rfl
    | 5 => exact .inl rfl
    | 6 => exact .inl rfl
    | 7 => exact .inl rfl
    | 8 => exact .inl rfl
    | n + 9 => exact .inl rfl
 have hbne : ∀ j, getB σ'.b j ≠ [] ↔ getB σ.b j ≠ [] := by
  intro j
  refine ⟨hb3 j, fun hj => ?_⟩
  by_cases e : c.β j = gb
  ·rw [hb2 j hj e]; exact hne
  ·rw [hb1 j hj e]; exact hj
 have hR := R.called (σ' := σ') (S' := S') (F := Foot τ gb κ0) (κ' := κ') (Ks := Ks) hK hSS hSn post.st (fun b hb => ?_) (fun b o hb => ?_) (fun k b hk hb hf => ?_) (fun k b hb => ?_) post.inj ht (by omega) (fun k hk => by rw [hvK k hk]; omega) hvO (fun k => ?_) (fun j hj o hs => ?_) (fun hs o hs' => ?_) hbne hs3 (fun st => ⟨fun j hj => ?_, fun hs => ?_⟩)
 ·exact ⟨_, hR.1, rfl, rfl, rfl, fun k => rfl⟩
 ·rcases hF b hb with rfl | ⟨k', _, h2, h3⟩
  ·exact hm
  ·exact (R.own k' b h2 h3).1
 ·rcases hF b hb with rfl | ⟨k', _, h2, h3⟩
  ·exact hgS o
  ·exact (R.own k' b h2 h3).2.2.1 o
 ·rcases hF b hf with rfl | ⟨k', h1, h2, h3⟩
  ·exact absurd rfl (hgκ k b hk hb)
  ·have := R.inj k k' b hk h2 hb h3
   subst this; exact h1
 ·have r := post.own k b hb
  have hx : (∃ k', k' ∉ σ.fr ∧ c.κ k' = some b) ∨ w.heap.size ≤ b := by
   rcases hκn k b hb with hf | hf
   ·rcases hF b hf with rfl | ⟨k', h1, h2, h3⟩
    ·exact absurd rfl r.2.2.2
    ·exact .inl ⟨k', h2, h3⟩
   ·exact .inr hf
  refine ⟨hκn k b hb, r.2.1, r.2.2.1, fun hs e => ?_, fun j hj e => ?_⟩
  ·rcases hx with ⟨k', h2, h3⟩ | hx
   ·exact (R.own k' b h2 h3).2.2.2.1 hs e
   ·have := hglt hs; omega
  ·rcases hx with ⟨k', h2, h3⟩ | hx
   ·exact (R.own k' b h2 h3).2.2.2.2 j hj e
   ·have := hβlt j hj; omega
 ·rw [hfr]
  exact and_congr_right fun hk => ⟨fun h1 h2 => h1 (hKf k h2 hk), fun h1 h2 => h1 (hKs k h2)⟩
 ·by_cases e : c.β j = gb
  ·rw [e] at hs; exact h0 o hs
  ·rcases hSn _ o hs with hs | hs | hs
   ·exact (R.box j hj).2.1 o hs
   ·exact hnF j hj e hs
   ·have := hβlt j hj; omega
 ·by_cases e : c.g = gb
  ·rw [e] at hs'; exact h0 o hs'
  ·rcases hSn _ o hs' with h1 | h1 | h1
   ·exact (R.gg hs).2 o h1
   ·exact hnG hs e h1
   ·have := hglt hs; omega
 ·have hj0 := (hbne j).1 hj
  by_cases e : c.β j = gb
  ·rw [hb2 j hj0 e, e]
   exact .inr (hrow _ rfl rfl (fun k hk => if_pos (hKs k hk)) hc)
  ·exact .inl ⟨hb1 j hj0 e, hnF j hj0 e⟩
 ·have hs0 := hs3 hs
  by_cases e : c.g = gb
  ·rw [hs2 hs0 e, e]
   exact .inr (hrow _ rfl rfl (fun k hk => if_pos (hKs k hk)) hc)
  ·exact .inl ⟨hs1 hs0 e, hnG hs0 e⟩
theorem getV_bumps (Ks : List Nat) (q : Nat) (v : List (Nat × Nat)) (k : Nat) : getV (Ks.map (fun k => (k, q)) ++ v) k = if k ∈ Ks then q else getV v k := by
 induction Ks with
 | nil => simp
 | cons j Ks ih =>
  rw [List.map_cons, List.cons_append, getV_cons, ih]
  by_cases h1 : j = k
  ·subst h1; simp
  ·rw [if_neg h1]; simp [Ne.symm h1]
theorem dec_unit {v : List (Nat × Nat)} {fr : List Nat} {τ : STy} {cells : List AV} {p : τ.T} (hd : τ.dec v fr cells = some p) : cells = [] ↔ τ = .unit := by
 cases τ with
 | unit =>
  simp only [STy.dec] at hd
  unfold decU at hd
  split at hd
  ·simp
  ·cases hd
 | prog =>
  simp only [STy.dec] at hd
  unfold decPS at hd
  split at hd
  ·simp
  ·cases hd
 | ref =>
  simp only [STy.dec] at hd
  unfold decQS at hd
  split at hd
  ·simp
  ·cases hd
theorem shaped_spec {h : Sh} {Q : Type} {o : Option (AV × Q)} {R : Type} {F : h.T × Q → Option R} {r : R} (hh : (shaped h o).bind F = some r) : ∃ x y p, o = some (x, p) ∧ h.dec x = some y ∧ F (y, p) = some r := by
 unfold shaped at hh
 cases o with
 | none => simp at hh
 | some q =>
  obtain ⟨x, p⟩ := q
  simp only [Option.bind_some] at hh
  cases hd : h.dec x with
  | none => simp [hd] at hh
  | some y => simp [hd] at hh; exact ⟨x, y, p, rfl, hd, hh⟩
theorem AR.list {l : List AV} {vs : List Value} (h : CR c.w c.S c.g l vs) (i : Nat) (hi : i < l.length) : AR tid c σ (l.getD i .undef) (vs.getD i Go.undef) := AR.of_F tid (h.2 i hi)
theorem callK_ok {tab : Tab} {call : (τ : STy) → Nat → List AV → τ.T → Option (AV × τ.T)} {τ : STy} (hcall : CallsOK tid P call) (R : Rel tid B N c σ a w) {o : Oper} (hd : ∀ x, o.dst = some x → x < N) {f : Nat} {fst args cap : List AV} {vf va vc : List Value} {static : Bool}
  (h1 : CR c.w c.S c.g fst vf) (h2 : args.length = va.length) (h2' : ∀ i, i < args.length → AR tid c σ (args.getD i .undef) (va.getD i Go.undef)) (h3 : CR c.w c.S c.g cap vc) (hst : static = true → vf = [] ∧ vc = [])
  (hK : callK tab call τ σ o f fst args cap static some = some σ') {R' : Ending → World → Prop} (hn : ∀ u w' c', Rel tid B N c' σ' (a.put o.dst u) w' → R' (.returned u) w') :
  Goes P f ∧ Calls P f (vf ++ (va ++ vc)).toArray w R' := by
 unfold callK at hK
 split at hK
 ·-- a variable of the frame's own is lent
  split at hK
  rotate_left
  ·cases hK
  rename_i k rest _
  simp only at hst
  obtain ⟨rfl, rfl⟩ := hst trivial
  split at hK
  rotate_left
  ·cases hK
  rename_i rest' σ1 hfz
  split at hK
  rotate_left
  ·cases hK
  rename_i p hpl hdec
  obtain ⟨x, y, q, hcl, hsh, hK⟩ := shaped_spec hK
  cases va with
  | nil => simp at h2
  | cons v va =>
   have hA0 : AR tid c σ (.lbox k 0) v := by simpa using h2' 0 (by simp)
   obtain ⟨rfl, hkne⟩ := hA0.to_A1 tid (by intro l h; cases h)
   obtain ⟨c1, s1, R1, C1⟩ := freezeAll_ok (vs := va) R (by simpa using h2) (fun i hi => by simpa using h2' (i + 1) (by simp; omega)) hfz
   have hk1 := s1.box k hkne
   have hw1 := R1.hw
   obtain ⟨hm', hgS, _, hbx⟩ := R1.box k hk1.1
   have hm : B.mine (c1.β k) := .inr hm'
   have hgκ : ∀ k' b, k' ∉ σ1.fr → c1.κ k' = some b → b ≠ c1.β k := fun k' b h4 h5 => (R1.own k' b h4 h5).2.2.2.2 k hk1.1
   have hrow := R1.b k hk1.1
   have hlt : c1.β k < w.heap.size := by have := hrow.lt; rw [hw1] at this; exact this
   obtain ⟨κ0, hsr, hκ0⟩ := srep_of R1 hrow hgS hgκ hdec
   have hτ : tab.sty f ≠ .unit := by
    exact fun e => hk1.1 ((dec_unit hdec).2 e)
   obtain ⟨hgo, hcalls⟩ := hcall _ f _ p (x, q) hcl
   refine ⟨hgo, ?_⟩
   have hargs : CR w c1.S (c1.β k) (.rdr 0 :: rest') (.pointer (some ⟨c1.β k, 0, none⟩) :: va) := by
    rw [hw1] at C1
    refine ⟨by simp [C1.1], fun i hi => ?_⟩
    cases i with
    | zero => exact .rdr 0
    | succ i => simpa using (C1.2 i (by simpa using hi)).plainA (one_of_all hpl i (by simpa using hi))
   rw [← hk1.2]
   simp only [List.nil_append, List.append_nil]
   refine (hcalls w c1.S (c1.β k) κ0 _ hsr hargs).mono fun e w' he => ?_
   cases e with
   | panicked => exact he.elim
   | outgrown => exact he.elim
   | returned u =>
    obtain ⟨S', κ', g1, g2, g3, g4, g5, g6⟩ := he
    have hbk : ∀ j, getB (St.lent σ1 (tab.sty f) k q).b j = if k = j then (tab.sty f).enc (σ1.c + 1) q else getB σ1.b j := fun j => getB_cons ..
    have hfk := dec_keys hdec
    obtain ⟨c2, R2, e1, e2, e3, e4⟩ := R1.after (σ' := St.lent σ1 (tab.sty f) k q) (τ := tab.sty f) (p := q) (gb := c1.β k) (κ0 := κ0) (κ' := κ') (S' := S') (Ks := (tab.sty f).keys ++ ownKeys (getB σ1.b k)) hτ
     (fun k' b h => ⟨(hκ0 k' b h).1, by obtain ⟨k2, h4, h5, h6⟩ := (hκ0 k' b h).2; exact ⟨k2, List.mem_append_right _ h4, h5, h6⟩⟩) hm hgS hgκ hlt g1 g2 g3 g4 g5 (fun k h => List.mem_append_left _ h)
     (fun k' h hf => by rcases List.mem_append.1 h with h | h; exact h; exact absurd hf (hfk k' h)) rfl rfl (fun k' h => by
      show getV (_ ++ _) k' = _
      rw [getV_bumps, if_pos h]) (fun k' h => by
      show getV (_ ++ _) k' = _
      rw [getV_bumps, if_neg h]) (fun k' => by
      show k' ∈ σ1.fr.filter _ ↔ _
      simp [List.mem_filter])
     (fun j hj hne => by rw [hbk, if_neg (fun e => hne (by rw [e]))]) (fun j hj he => by rw [hbk, if_pos (hbx j hj he).symm]) (fun j hj => by
      rw [hbk] at hj
      split at hj
      ·rename_i e; rw [← e]; exact hk1.1
      ·exact hj)
     (fun _ _ => rfl) (fun hs he => absurd he.symm ((R1.box k hk1.1).2.2.1 hs)) (fun hs => hs)
    have e5 := R2.hw
    obtain ⟨c3, R3⟩ := gotK_ok R2 hd (g := c1.β k) (n := w.heap.size) (κ' := κ') (by rw [e5, e1]; exact g6) hsh (fun nb hnb => ⟨Nat.le_trans R1.keep.size hnb, fun hs e => by
      rw [e2] at e
      have := (R1.s hs).lt
      rw [hw1] at this
      omega, fun j hj e => by
      rw [e3] at e
      have hj1 : getB σ1.b j ≠ [] := by
       rw [hbk] at hj
       split at hj
       ·rename_i e; rw [← e]; exact hk1.1
       ·exact hj
      have := (R1.b j hj1).lt
      rw [hw1] at this
      omega⟩) (fun nb k' hk' hno hnb e => by
      rw [e4] at e
      split at e
      ·exact hno _ e
      ·rename_i hks
       have hk2 : k' ∉ σ1.fr := by
        intro hf
        refine hk' ?_
        show k' ∈ σ1.fr.filter _
        rw [List.mem_filter]
        refine ⟨hf, ?_⟩
        have : k' ∉ (tab.sty f).keys := fun h => hks (List.mem_append_left _ h)
        simpa using this
       have := (R1.own k' nb hk2 e).2.1
       omega) hK
    exact hn u w' c3 R3
 ·rename_i args' σ1 hfz
  obtain ⟨c1, s1, R1, C1⟩ := freezeAll_ok R h2 h2' hfz
  have hw1 := R1.hw
  have hargs : CR c1.w c1.S c1.g (fst ++ (args' ++ cap)) (vf ++ (va ++ vc)) := (h1.step s1).append (C1.append (h3.step s1))
  rw [hw1] at hargs
  generalize (if static = true then tab.sty f else τ) = τ1 at hK
  split at hK
  ·obtain ⟨x, y, q, hcl, hsh, hK⟩ := shaped_spec hK
   obtain ⟨hgo, hcalls⟩ := hcall .unit f _ () (x, q) hcl
   refine ⟨hgo, ?_⟩
   refine (hcalls w c1.S c1.g (fun _ => none) _ ⟨fun h => absurd rfl h, R1.stsz, fun h => absurd rfl h, fun k b h => (by cases h), fun k k' b h => (by cases h)⟩ hargs).mono fun e w' he => ?_
   cases e with
   | panicked => exact he.elim
   | outgrown => exact he.elim
   | returned u =>
    obtain ⟨S', κ', g1, g2, g3, g4, g5, g6⟩ := he
    have hκn : ∀ k, κ' k = none := fun k => by
     cases hk : κ' k with
     | none => rfl
     | some b => have := (g1.own k b hk).1; simp [STy.keys] at this
    have hnf : ∀ b, ¬ Foot .unit c1.g (fun _ => none) b := by
     intro b hb
     rcases hb with ⟨h, _⟩ | ⟨k, h⟩
     ·exact h rfl
     ·cases h
    have hnew : ∀ b o, b < w.heap.size → ¬ c1.S b o → ¬ S' b o := by
     intro b o hb hs hs'
     rcases g4 b o hs' with h | h | h
     ·exact hs h
     ·exact hnf b h
     ·omega
    obtain ⟨R2, _⟩ := R1.called (σ' := σ1) (S' := S') (F := Foot .unit c1.g (fun _ => none)) (κ' := κ') (Ks := []) g2 g3 g4 g1.st (fun b hb => (hnf b hb).elim) (fun b o hb => (hnf b hb).elim) (fun k b _ _ hb => (hnf b hb).elim) (fun k b hk => by rw [hκn] at hk; cases hk) (fun k k' b hk => by rw [hκn] at hk; cases hk)
     rfl (Nat.le_refl _) (fun k hk => by simp at hk) (fun k _ => rfl) (fun k => by simp) (fun j hj o => hnew _ o (by have := (R1.b j hj).lt; rw [hw1] at this; exact this) ((R1.box j hj).2.1 o)) (fun hs o => hnew _ o (by have := (R1.s hs).lt; rw [hw1] at this; exact this) ((R1.gg hs).2 o))
     (fun j => Iff.rfl) (fun h => h) (fun _ => ⟨fun j _ => .inl ⟨rfl, hnf _⟩, fun _ => .inl ⟨rfl, hnf _⟩⟩)
    obtain ⟨c3, R3⟩ := gotK_ok R2 hd (g := c1.g) (n := w.heap.size) (κ' := κ') g6 hsh (fun nb hnb => ⟨Nat.le_trans R1.keep.size hnb, fun hs e => by
      have := (R1.s hs).lt; rw [hw1] at this; have e : nb = c1.g := e; omega, fun j hj e => by
      have := (R1.b j hj).lt; rw [hw1] at this; have e : nb = c1.β j := e; omega⟩) (fun nb k' hk' hno hnb e => by
      have e : c1.κ k' = some nb := by simpa using e
      have := (R1.own k' nb hk' e).2.1
      omega) hK
    exact hn u w' c3 R3
  ·rename_i τ' hτ'
   split at hK
   rotate_left
   ·cases hK
   rename_i he
   split at hK
   rotate_left
   ·cases hK
   rename_i p hdec
   obtain ⟨x, y, q, hcl, hsh, hK⟩ := shaped_spec hK
   have hτ : τ ≠ .unit := by rw [← he]; exact hτ'
   have hs : σ1.s ≠ [] := by
    intro e
    rw [e] at hdec
    cases τ with
    | unit => exact hτ rfl
    | prog => simp [STy.dec, decPS] at hdec
    | ref => simp [STy.dec, decQS] at hdec
   obtain ⟨hm, hgS⟩ := R1.gg hs
   have hgκ : ∀ k' b, k' ∉ σ1.fr → c1.κ k' = some b → b ≠ c1.g := fun k' b h4 h5 => (R1.own k' b h4 h5).2.2.2.1 hs
   have hrow := R1.s hs
   have hlt : c1.g < w.heap.size := by have := hrow.lt; rw [hw1] at this; exact this
   obtain ⟨κ0, hsr, hκ0⟩ := srep_of R1 hrow hgS hgκ hdec
   obtain ⟨hgo, hcalls⟩ := hcall τ f _ p (x, q) hcl
   refine ⟨hgo, ?_⟩
   refine (hcalls w c1.S c1.g κ0 _ hsr hargs).mono fun e w' he => ?_
   cases e with
   | panicked => exact he.elim
   | outgrown => exact he.elim
   | returned u =>
    obtain ⟨S', κ', g1, g2, g3, g4, g5, g6⟩ := he
    have hfk := dec_keys hdec
    obtain ⟨c2, R2, e1, e2, e3, e4⟩ := R1.after (σ' := St.back τ σ1 q) (τ := τ) (p := q) (gb := c1.g) (κ0 := κ0) (κ' := κ') (S' := S') (Ks := τ.keys ++ ownKeys σ1.s) hτ
     (fun k' b h => ⟨(hκ0 k' b h).1, by obtain ⟨k2, h4, h5, h6⟩ := (hκ0 k' b h).2; exact ⟨k2, List.mem_append_right _ h4, h5, h6⟩⟩) hm hgS hgκ hlt g1 g2 g3 g4 g5 (fun k h => List.mem_append_left _ h)
     (fun k' h hf => by rcases List.mem_append.1 h with h | h; exact h; exact absurd hf (hfk k' h)) rfl rfl (fun k' h => by
      show getV (_ ++ _) k' = _
      rw [getV_bumps, if_pos h]) (fun k' h => by
      show getV (_ ++ _) k' = _
      rw [getV_bumps, if_neg h]) (fun k' => by
      show k' ∈ σ1.fr.filter _ ↔ _
      simp [List.mem_filter])
     (fun j hj hne => rfl) (fun j hj he => absurd he ((R1.box j hj).2.2.1 hs)) (fun j hj => hj)
     (fun _ hne => absurd rfl hne) (fun _ _ => rfl) (fun _ => hs)
    have e5 := R2.hw
    obtain ⟨c3, R3⟩ := gotK_ok R2 hd (g := c1.g) (n := w.heap.size) (κ' := κ') (by rw [e5, e1]; exact g6) hsh (fun nb hnb => ⟨Nat.le_trans R1.keep.size hnb, fun _ e => by
      rw [e2] at e; omega, fun j hj e => by
      rw [e3] at e
      have := (R1.b j hj).lt
      rw [hw1] at this
      omega⟩) (fun nb k' hk' hno hnb e => by
      rw [e4] at e
      split at e
      ·exact hno _ e
      ·rename_i hks
       have hk2 : k' ∉ σ1.fr := by
        intro hf
        refine hk' ?_
        show k' ∈ σ1.fr.filter _
        rw [List.mem_filter]
        refine ⟨hf, ?_⟩
        have : k' ∉ τ.keys := fun h => hks (List.mem_append_left _ h)
        simpa using this
       have := (R1.own k' nb hk2 e).2.1
       omega) hK
    exact hn u w' c3 R3
end
end Go.AI
namespace Go.AI
def intTb (P : Program) (t : TypeId) : Bool := match P.underlying t with | some (.int _) => true | _ => false
def eqOKb (P : Program) (T : TypeId) (agg : Bool) : Bool :=
 match P.underlying T, agg with
 | some .bool, false => true
 | some (.struct fs), true =>
  (match fs.toList with
  | [f1, f2, f3] => (f1.name != "_" && (f2.name != "_" && f3.name != "_")) && ((intTb P f1.type && (intTb P f2.type && intTb P f3.type)) && (Nat.beq f1.offset 0 && (Nat.beq f2.offset 1 && Nat.beq f3.offset 2)))
  | _ => false) && (!P.stoodInHeld T && !P.eqGuardType P.depth T)
 | _, _ => false
def eqsOKb (P : Program) : List (Nat × Bool) → Bool
 | [] => true
 | (T, a) :: r => eqOKb P T a && eqsOKb P r
theorem eqsOKb_of {P : Program} : ∀ {l : List (Nat × Bool)}, eqsOKb P l = true → ∀ T a, findN l T = some a → eqOKb P T a = true
 | [], _, T, a, h => by simp [findN] at h
 | (U, b) :: r, hl, T, a, h => by
  simp only [eqsOKb, Bool.and_eq_true] at hl
  simp only [findN] at h
  split at h
  ·rename_i he
   have := Nat.eq_of_beq_eq_true he
   simp only [Option.some.injEq] at h
   subst this; subst h; exact hl.1
  ·exact eqsOKb_of hl.2 T a h
theorem eqField_run {P : Program} {w : World} {f : Field} (d : Nat) {i : Nat} (hf : intTb P f.type = true) (ho : f.offset = i) {xs ys : Array Value} {x y : Int} (hx : xs[i]? = some (.int .i64 x)) (hy : ys[i]? = some (.int .i64 y)) :
  (Op.equalIn (d + 1) f.type (.int .i64 x) (.int .i64 y)).run P w = .ok (x == y) w ∧ (part f.type xs f.offset).run P w = .ok (.int .i64 x) w ∧ (part f.type ys f.offset).run P w = .ok (.int .i64 y) w := by
 unfold intTb at hf
 split at hf
 rotate_left
 ·cases hf
 rename_i k hu
 refine ⟨?_, ?_, ?_⟩
 ·simp [Op.equalIn, run_underlying hu]
 ·simp [part, isAgg, run_underlying hu, ho, hx]
 ·simp [part, isAgg, run_underlying hu, ho, hy]
theorem eq3_runD {P : Program} {w : World} {T : TypeId} (d : Nat) (h : eqOKb P T true = true) (a b c a' b' c' : Int) :
  (Op.equalIn (d + 1 + 1) T (.agg #[.int .i64 a, .int .i64 b, .int .i64 c]) (.agg #[.int .i64 a', .int .i64 b', .int .i64 c'])).run P w = .ok (decide ((⟨a, b, c⟩ : Tok) = ⟨a', b', c'⟩)) w := by
 unfold eqOKb at h
 split at h
 ·rename_i h2; cases h2
 ·rename_i fs hu _
  simp only [Bool.and_eq_true, Bool.not_eq_true'] at h
  obtain ⟨h1, h2, h3⟩ := h
  split at h1
  rotate_left
  ·cases h1
  rename_i f1 f2 f3 hfs
  simp only [Bool.and_eq_true, bne_iff_ne, ne_eq] at h1
  obtain ⟨⟨n1, n2, n3⟩, ⟨t1, t2, t3⟩, o1, o2, o3⟩ := h1
  have hff : P.fieldsOf T = fs := by simp [Program.fieldsOf, hu]
  obtain ⟨e1, p1, q1⟩ := eqField_run (w := w) d t1 (Nat.eq_of_beq_eq_true o1) (xs := #[.int .i64 a, .int .i64 b, .int .i64 c]) (ys := #[.int .i64 a', .int .i64 b', .int .i64 c']) rfl rfl
  obtain ⟨e2, p2, q2⟩ := eqField_run (w := w) d t2 (Nat.eq_of_beq_eq_true o2) (xs := #[.int .i64 a, .int .i64 b, .int .i64 c]) (ys := #[.int .i64 a', .int .i64 b', .int .i64 c']) rfl rfl
  obtain ⟨e3, p3, q3⟩ := eqField_run (w := w) d t3 (Nat.eq_of_beq_eq_true o3) (xs := #[.int .i64 a, .int .i64 b, .int .i64 c]) (ys := #[.int .i64 a', .int .i64 b', .int .i64 c']) rfl rfl
  rw [run_equalIn_struct w (d + 1) T _ _ (by rw [hff]; exact hu) h2, hff, hfs]
  simp only [Op.eqFields, Sem.run_bind, Sem.run_ite, n1, n2, n3, ne_eq, not_false_eq_true, if_true, p1, q1, p2, q2, p3, q3, e1, e2, e3, Result.andThen_ok]
  by_cases c1 : a = a' <;> by_cases c2 : b = b' <;> by_cases c3 : c = c' <;> simp [c1, c2, c3]
 ·cases h
theorem eqb_runD {P : Program} {w : World} {T : TypeId} (d : Nat) (h : eqOKb P T false = true) (a b : Bool) : (Op.equalIn (d + 1) T (.bool a) (.bool b)).run P w = .ok (a == b) w := by
 unfold eqOKb at h
 split at h
 ·rename_i hu _
  simp [Op.equalIn, run_underlying hu]
 ·rename_i h2; cases h2
 ·cases h
theorem eq3_run {P : Program} {w : World} {T : TypeId} (h : eqOKb P T true = true) (a b c a' b' c' : Int) :
  (Op.equal T (.agg #[.int .i64 a, .int .i64 b, .int .i64 c]) (.agg #[.int .i64 a', .int .i64 b', .int .i64 c'])).run P w = .ok (decide ((⟨a, b, c⟩ : Tok) = ⟨a', b', c'⟩)) w := eq3_runD 9998 h a b c a' b' c'
theorem eqb_run {P : Program} {w : World} {T : TypeId} (h : eqOKb P T false = true) (a b : Bool) : (Op.equal T (.bool a) (.bool b)).run P w = .ok (a == b) w := eqb_runD 9999 h a b
theorem eqg_run {P : Program} {w : World} {T : TypeId} (h : eqOKb P T true = true) (op : BinOp) (X Y : Operand) (xs ys : Array Value) : (eqGuard op T X Y (.agg xs) (.agg ys)).run P w = .ok () w := by
 have hg : P.eqGuardType P.depth T = false := by
  unfold eqOKb at h
  split at h
  ·rename_i h2; cases h2
  ·simp only [Bool.and_eq_true, Bool.not_eq_true'] at h; exact h.2.2
  ·cases h
 unfold eqGuard
 simp [hg]
def cvOKb (P : Program) (T : TypeId) (c : Cv) : Bool :=
 match P.underlying T, c with
 | some (.int k), .ik k' => decide (k = k')
 | some .string, .str => true
 | some (.slice e), .bytes => (match P.underlying e with | some (.int .u8) => true | _ => false)
 | _, _ => false
theorem cvOK_str {P : Program} {T : TypeId} (h : cvOKb P T .str = true) : P.underlying T = some .string := by
 unfold cvOKb at h
 split at h <;> simp_all
theorem cvOK_ik {P : Program} {T : TypeId} {k : IntKind} (h : cvOKb P T (.ik k) = true) : P.underlying T = some (.int k) := by
 unfold cvOKb at h
 split at h <;> simp_all
def cvsOKb (P : Program) : List (Nat × Cv) → Bool
 | [] => true
 | (T, a) :: r => cvOKb P T a && cvsOKb P r
theorem cvsOKb_of {P : Program} : ∀ {l : List (Nat × Cv)}, cvsOKb P l = true → ∀ T a, findN l T = some a → cvOKb P T a = true
 | [], _, T, a, h => by simp [findN] at h
 | (U, b) :: r, hl, T, a, h => by
  simp only [cvsOKb, Bool.and_eq_true] at hl
  simp only [findN] at h
  split at h
  ·rename_i he
   have := Nat.eq_of_beq_eq_true he
   simp only [Option.some.injEq] at h
   subst this; subst h; exact hl.1
  ·exact cvsOKb_of hl.2 T a h
end Go.AI
