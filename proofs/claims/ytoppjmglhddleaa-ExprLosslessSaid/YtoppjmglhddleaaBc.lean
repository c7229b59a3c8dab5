/- DERIVED. THE EVALUATOR, THE READER, THE SCANNER: lemmas for Lossless. -/
import Derived.Test.YtoppjmglhddleaaBb
import Derived.Test.YtoppjmglhddleaaBa
import Derived.Laws.StructEq
import Derived.Laws.BytesArg
import Derived.Laws.Slices
import Derived.Laws.Strings3
set_option linter.unusedVariables false
set_option linter.unusedSimpArgs false
namespace Go.AI
section
variable {tid : El → Nat} {c c' : Cx} {σ σ' : St} {B : Base} {N : Nat} {a : Act} {w w' : World} {P : Program}
theorem Rel.called (h : Rel tid B N c σ a w) {S' : Nat → Nat → Prop} {F : Nat → Prop} {κ' : Nat → Option Nat} {Ks : List Nat} (hK : Keep w F w') (hSS : ∀ b o, c.S b o → S' b o) (hSn : ∀ b o, S' b o → c.S b o ∨ F b ∨ w.heap.size ≤ b) (hSz : ∀ b o, S' b o → b < w'.heap.size)
  (hFm : ∀ b, F b → B.mine b) (hFS : ∀ b o, F b → ¬ c.S b o) (hFκ : ∀ k b, k ∉ σ.fr → c.κ k = some b → F b → k ∈ Ks)
  (hκ' : ∀ k b, κ' k = some b → (F b ∨ w.heap.size ≤ b) ∧ b < w'.heap.size ∧ (∀ o, ¬ S' b o) ∧ (σ.s ≠ [] → b ≠ c.g) ∧ ∀ j, getB σ.b j ≠ [] → b ≠ c.β j) (hinj : ∀ k k' b, κ' k = some b → κ' k' = some b → k = k')
  (ht : σ'.t = σ.t) (hc : σ.c ≤ σ'.c) (hvK : ∀ k, k ∈ Ks → σ.c < getV σ'.v k ∧ getV σ'.v k ≤ σ'.c) (hvO : ∀ k, k ∉ Ks → getV σ'.v k = getV σ.v k) (hfr : ∀ k, k ∈ σ'.fr ↔ k ∈ σ.fr ∧ k ∉ Ks)
  (hbS : ∀ j, getB σ.b j ≠ [] → ∀ o, ¬ S' (c.β j) o) (hgS : σ.s ≠ [] → ∀ o, ¬ S' c.g o) (hbn : ∀ j, getB σ'.b j ≠ [] ↔ getB σ.b j ≠ []) (hsn : σ'.s ≠ [] → σ.s ≠ [])
  (hrow : Step c σ ⟨w', S', c.g, fun k => if k ∈ Ks then κ' k else c.κ k, c.β⟩ σ' → (∀ j, getB σ'.b j ≠ [] → (getB σ'.b j = getB σ.b j ∧ ¬ F (c.β j)) ∨ RowR tid ⟨w', S', c.g, fun k => if k ∈ Ks then κ' k else c.κ k, c.β⟩ σ' (c.β j) (getB σ'.b j)) ∧
   (σ'.s ≠ [] → (σ'.s = σ.s ∧ ¬ F c.g) ∨ RowR tid ⟨w', S', c.g, fun k => if k ∈ Ks then κ' k else c.κ k, c.β⟩ σ' c.g σ'.s)) :
  Rel tid B N ⟨w', S', c.g, fun k => if k ∈ Ks then κ' k else c.κ k, c.β⟩ σ' a w' ∧ Step c σ ⟨w', S', c.g, fun k => if k ∈ Ks then κ' k else c.κ k, c.β⟩ σ' := by
 have hw := h.hw
 have hblk : ∀ b, b < w.heap.size → ¬ F b → w'.heap[b]? = w.heap[b]? := hK.block
 have hSF : ∀ b o, c.S b o → ¬ F b := fun b o hs hf => hFS b o hf hs
 have hκo : ∀ k b, k ∉ Ks → c.κ k = some b → b < w.heap.size ∧ ¬ F b := by
  intro k b hk hb
  by_cases hf : k ∈ σ.fr
  ·have := h.fz k b hf hb 0; exact ⟨h.stsz b 0 this, hSF b 0 this⟩
  ·exact ⟨(h.own k b hf hb).2.1, fun hF => hk (hFκ k b hf hb hF)⟩
 have st : Step c σ ⟨w', S', c.g, fun k => if k ∈ Ks then κ' k else c.κ k, c.β⟩ σ' := by
  refine ⟨rfl, fun b o x hs hx => ?_, hSS, hc, fun k hk => ⟨(hbn k).2 hk, rfl⟩, fun k => ?_⟩
  ·rw [hw] at hx
   exact (World.cell?_of_block (w := w) (a := ⟨b, o, none⟩) (hblk b (h.stsz b o hs) (hSF b o hs))).trans hx
  ·by_cases hk : k ∈ Ks
   ·exact .inr (hvK k hk).1
   ·refine .inl ⟨hvO k hk, if_neg hk, fun b hb => ?_⟩
    have := hκo k b hk hb
    rw [hw]; exact hblk b this.1 this.2
 obtain ⟨hrb, hrs⟩ := hrow st
 refine ⟨{ hw := rfl, ds := h.ds, n := h.n, t := fun i => by rw [ht]; exact (h.t i).step st, b := fun j hj => ?_, s := fun hs => ?_, ver := fun k => ?_, fz := fun k b hk hb o => ?_, own := fun k b hk hb => ?_, inj := fun k k' b hk hk' h1 h2 => ?_, box := fun j hj => ?_, gg := fun hs => ⟨(h.gg (hsn hs)).1, hgS (hsn hs)⟩, old := fun b o hs => ?_, grow := fun b o hs => hSS b o (h.grow b o hs), stsz := hSz, keep := ?_ }, st⟩
 ·have hj0 := (hbn j).1 hj
  rcases hrb j hj with ⟨h1, h2⟩ | h1
  ·rw [h1]
   have r := h.b j hj0
   exact r.step st (by rw [hw]; exact hblk _ (by have := r.lt; rw [hw] at this; exact this) h2)
  ·exact h1
 ·rcases hrs hs with ⟨h1, h2⟩ | h1
  ·rw [h1]
   have r := h.s (hsn hs)
   exact r.step st (by rw [hw]; exact hblk _ (by have := r.lt; rw [hw] at this; exact this) h2)
  ·exact h1
 ·by_cases hk : k ∈ Ks
  ·exact (hvK k hk).2
  ·rw [hvO k hk]; exact Nat.le_trans (h.ver k) hc
 ·have hk' := (hfr k).1 hk
  simp only [if_neg hk'.2] at hb
  exact hSS b o (h.fz k b hk'.1 hb o)
 ·by_cases hkK : k ∈ Ks
  ·simp only [if_pos hkK] at hb
   have r := hκ' k b hb
   refine ⟨?_, r.2.1, r.2.2.1, fun hs => r.2.2.2.1 (hsn hs), fun j hj => r.2.2.2.2 j ((hbn j).1 hj)⟩
   rcases r.1 with r1 | r1
   ·exact hFm b r1
   ·exact .inr (Nat.le_trans h.keep.size r1)
  ·simp only [if_neg hkK] at hb
   have hk0 : k ∉ σ.fr := fun hf => hk ((hfr k).2 ⟨hf, hkK⟩)
   have r := h.own k b hk0 hb
   refine ⟨r.1, by have := r.2.1; have := hK.size; show b < w'.heap.size; omega, fun o hs => ?_, fun hs => r.2.2.2.1 (hsn hs), fun j hj => r.2.2.2.2 j ((hbn j).1 hj)⟩
   rcases hSn b o hs with hs | hs | hs
   ·exact r.2.2.1 o hs
   ·exact (hκo k b hkK hb).2 hs
   ·have := r.2.1; omega
 ·have hx : ∀ i, i ∉ σ'.fr → i ∉ Ks → i ∉ σ.fr := fun i hi hiK hf => hi ((hfr i).2 ⟨hf, hiK⟩)
  by_cases e1 : k ∈ Ks <;> by_cases e2 : k' ∈ Ks
  ·simp only [if_pos e1] at h1; simp only [if_pos e2] at h2
   exact hinj k k' b h1 h2
  ·simp only [if_pos e1] at h1; simp only [if_neg e2] at h2
   have := hκo k' b e2 h2
   rcases (hκ' k b h1).1 with r | r
   ·exact (this.2 r).elim
   ·omega
  ·simp only [if_neg e1] at h1; simp only [if_pos e2] at h2
   have := hκo k b e1 h1
   rcases (hκ' k' b h2).1 with r | r
   ·exact (this.2 r).elim
   ·omega
  ·simp only [if_neg e1] at h1; simp only [if_neg e2] at h2
   exact h.inj k k' b (hx k hk e1) (hx k' hk' e2) h1 h2
 ·have hj0 := (hbn j).1 hj
  have r := h.box j hj0
  exact ⟨r.1, hbS j hj0, fun hs => r.2.2.1 (hsn hs), fun j' hj' => r.2.2.2 j' ((hbn j').1 hj')⟩
 ·rcases hSn b o hs with hs | hs | hs
  ·exact h.old b o hs
  ·exact .inr (hFm b hs)
  ·exact .inr (.inr (Nat.le_trans h.keep.size hs))
 ·refine ⟨hK.os.trans h.keep.os, hK.tape.trans h.keep.tape, hK.output.trans h.keep.output, Nat.le_trans h.keep.size hK.size, fun b h1 h2 => ?_⟩
  rw [hblk b (by have := h.keep.size; omega) (fun hF => ?_)]
  ·exact h.keep.block b h1 h2
  ·rcases hFm b hF with r | r
   ·exact h2 r
   ·omega
theorem sh_ok {w : World} {S : Nat → Nat → Prop} {g g' : Nat} (h : Sh) : ∀ {x : AV} {u : Value} {y : h.T}, FRel w S g x u → h.dec x = some y → FRel w S g' (h.enc y) u := by
 induction h with
 | u => intro x u y hF hd; exact .undef _
 | i =>
  intro x u y hF hd
  simp only [Sh.dec] at hd
  unfold asInt at hd
  split at hd
  ·simp only [Option.some.injEq] at hd; subst hd; exact hF.plain rfl
  ·cases hd
 | b =>
  intro x u y hF hd
  simp only [Sh.dec] at hd
  unfold asBoo at hd
  split at hd
  ·simp only [Option.some.injEq] at hd; subst hd; exact hF.plain rfl
  ·cases hd
 | str =>
  intro x u y hF hd
  simp only [Sh.dec] at hd
  unfold asStr at hd
  split at hd
  ·simp only [Option.some.injEq] at hd; subst hd; exact hF.plain rfl
  ·cases hd
 | e k =>
  intro x u y hF hd
  simp only [Sh.dec] at hd
  split at hd
  rotate_left
  ·cases hd
  rename_i l hl
  unfold asAgL at hl
  split at hl
  ·simp only [Option.some.injEq] at hl; subst hl
   cases hF with
   | agg _ vs hl ho hA =>
    have := (dec_CR hd ⟨hl, hA⟩).plain (g' := g') (El.enc_plain k y)
    exact .agg _ vs this.1 (El.enc_one k y) this.2
  ·cases hl
 | s k =>
  intro x u y hF hd
  simp only [Sh.dec] at hd
  exact (asSl_ok hd hF).plain rfl
 | n τ =>
  intro x u y hF hd
  simp only [Sh.dec] at hd
  split at hd
  rotate_left
  ·cases hd
  rename_i l hl
  unfold asNew at hl
  split at hl
  ·cases hF
  ·cases hl
 | t2 p q ih1 ih2 =>
  intro x u y hF hd
  simp only [Sh.dec] at hd
  split at hd
  rotate_left
  ·cases hd
  rename_i a b ht
  unfold asT2 at ht
  split at ht
  ·simp only [Option.some.injEq, Prod.mk.injEq] at ht
   obtain ⟨rfl, rfl⟩ := ht
   split at hd
   ·rename_i y1 y2 h1 h2
    simp only [Option.some.injEq] at hd; subst hd
    cases hF with
    | tup _ vs hl hA =>
     refine .tup _ vs hl fun i hi => ?_
     match i, hA i hi with
     | 0, r => exact ih1 r h1
     | 1, r => exact ih2 r h2
     | n + 2, _ => simp at hi; omega
   ·cases hd
  ·cases ht
 | t3 p q s ih1 ih2 ih3 =>
  intro x u y hF hd
  simp only [Sh.dec] at hd
  split at hd
  rotate_left
  ·cases hd
  rename_i a b d ht
  unfold asT3 at ht
  split at ht
  ·simp only [Option.some.injEq, Prod.mk.injEq] at ht
   obtain ⟨rfl, rfl, rfl⟩ := ht
   split at hd
   ·rename_i y1 y2 y3 h1 h2 h3
    simp only [Option.some.injEq] at hd; subst hd
    cases hF with
    | tup _ vs hl hA =>
     refine .tup _ vs hl fun i hi => ?_
     match i, hA i hi with
     | 0, r => exact ih1 r h1
     | 1, r => exact ih2 r h2
     | 2, r => exact ih3 r h3
     | n + 3, _ => simp at hi; omega
   ·cases hd
  ·cases ht
theorem asOwn_new {w : World} {S : Nat → Nat → Prop} {g q : Nat} {e : El} {x : AV} {l : List e.T} {v : Value} (h : asOwn [] [] q e x = some l) (hF : FRel w S g x v) : l = [] ∧ ∃ ad, v = .slice ad 0 0 := by
 rcases asOwn_spec h with ⟨rfl, rfl⟩ | ⟨k, w, rfl, _⟩
 ·cases hF; exact ⟨rfl, _, rfl⟩
 ·cases hF
theorem newRow_ok {τ : STy} {x : τ.T} {g : Nat} {l : List AV} {vs : List Value} (hC : CR c.w c.S g l vs) (hd : τ.dec [] [] l = some x) :
  (τ.enc 0 x).length = vs.length ∧ ∀ i, i < (τ.enc 0 x).length → A1 tid c σ ((τ.enc 0 x).getD i .undef) (vs.getD i Go.undef) := by
 have hP : ∀ {x : AV} {v : Value}, x.plain = true → x.fz1 = true → FRel c.w c.S g x v → A1 tid c σ x v := fun h1 h2 r => A1.of_F tid (r.plain h1)
 have hS : ∀ {e : El} {x : AV} {l : List e.T} {v : Value}, asSl e x = some l → FRel c.w c.S g x v → A1 tid c σ (.sl e l) v := fun h r => A1.of_F tid ((asSl_ok h r).plain rfl)
 have hO : ∀ {q : Nat} {e : El} {x : AV} {l : List e.T} {v : Value}, asOwn [] [] q e x = some l → FRel c.w c.S g x v → A1 tid c σ (.own q 0 e l) v := by
  intro q e x l v h r
  obtain ⟨rfl, ad, rfl⟩ := asOwn_new h r
  exact ⟨⟨_, _, _, rfl⟩, Nat.zero_le _, fun _ => .inl ⟨rfl, _, rfl⟩⟩
 cases τ with
 | unit =>
  simp only [STy.dec] at hd
  unfold decU at hd
  split at hd
  ·exact ⟨hC.1, fun i hi => by simp [STy.enc] at hi⟩
  ·cases hd
 | prog =>
  simp only [STy.dec] at hd
  unfold decPS at hd
  split at hd
  rotate_left
  ·cases hd
  split at hd
  rotate_left
  ·cases hd
  rename_i l sig row h0 h1 h4
  simp only [Option.some.injEq] at hd
  subst hd
  refine ⟨hC.1, fun i hi => ?_⟩
  have r := hC.2 i hi
  match i, r with
  | 0, r => exact hS h0 r
  | 1, r => exact hS h1 r
  | 2, r => exact hP rfl rfl r
  | 3, r => exact hP rfl rfl r
  | 4, r => exact hO h4 r
  | 5, r => exact hP rfl rfl r
  | 6, r => exact hP rfl rfl r
  | 7, r => exact hP rfl rfl r
  | 8, r => exact hP rfl rfl r
  | 9, r => exact hP rfl rfl r
  | n + 10, r => simp [STy.enc] at hi; omega
 | ref =>
  simp only [STy.dec] at hd
  unfold decQS at hd
  split at hd
  rotate_left
  ·cases hd
  split at hd
  rotate_left
  ·cases hd
  rename_i l row high h0 h2 h3 hap
  simp only [Option.some.injEq] at hd
  subst hd
  refine ⟨hC.1, fun i hi => ?_⟩
  have r := hC.2 i hi
  match i, r with
  | 0, r => exact hS h0 r
  | 1, r => exact hP rfl rfl r
  | 2, r => exact hO h2 r
  | 3, r => exact hO h3 r
  | 4, r => exact hP rfl rfl r
  | 5, r => exact hP rfl rfl r
  | 6, r => exact hP rfl rfl r
  | 7, r => exact hP rfl rfl r
  | 8, r => exact hP rfl rfl r
  | n + 9, r => simp [STy.enc] at hi; omega
theorem gotK_ok (hR : Rel tid B N c σ a w) {d : Option Nat} (hd : ∀ x, d = some x → x < N) {h : Sh} {x : h.T} {r : AV} {u : Value} {n g : Nat} {κ' : Nat → Option Nat} (hv : RetV c.w c.S g κ' n r u) (hdec : h.dec r = some x)
  (hn : ∀ nb, n ≤ nb → B.w0.heap.size ≤ nb ∧ (σ.s ≠ [] → nb ≠ c.g) ∧ ∀ j, getB σ.b j ≠ [] → nb ≠ c.β j) (hκ : ∀ nb k, k ∉ σ.fr → (∀ k, κ' k ≠ some nb) → n ≤ nb → c.κ k ≠ some nb) (hK : gotK σ d h x some = some σ') :
  ∃ c1, Rel tid B N c1 σ' (a.put d u) w := by
 have plain : FRel c.w c.S g r u → gotK σ d h x some = some (σ.put d (h.enc x)) → ∃ c1, Rel tid B N c1 σ' (a.put d u) w := by
  intro hF hK'
  rw [hK] at hK'
  simp only [Option.some.injEq] at hK'
  subst hK'
  exact ⟨c, hR.put hd (AR.of_F tid (sh_ok h hF hdec))⟩
 have undef : gotK σ d h x some = some (σ.put d .undef) → ∃ c1, Rel tid B N c1 σ' (a.put d u) w := by
  intro hK'
  rw [hK] at hK'
  simp only [Option.some.injEq] at hK'
  subst hK'
  exact ⟨c, hR.put hd (AR.of_F tid (.undef _))⟩
 cases h with
 | u => exact undef rfl
 | n τ' =>
  simp only [Sh.dec] at hdec
  split at hdec
  rotate_left
  ·cases hdec
  rename_i l hl
  unfold asNew at hl
  split at hl
  rotate_left
  ·cases hl
  simp only [Option.some.injEq] at hl
  subst hl
  obtain ⟨nb, vs, T, rfl, hblk, hC, hnb, hnS, hnκ⟩ := hv
  cases d with
  | none =>
   simp only [gotK, Option.some.injEq] at hK
   subst hK
   exact ⟨c, hR⟩
  | some d =>
   simp only [gotK] at hK
   split at hK
   rotate_left
   ·cases hK
   rename_i y l' hb he
   simp only [Option.some.injEq] at hK
   subst hK
   obtain ⟨r1, r2⟩ := newRow_ok (tid := tid) (σ := σ) hC hdec
   have hm := hn nb hnb
   have hR1 := hR.box' (d := d) (nb := nb) (l := τ'.enc 0 x) hb (by rw [he]; simp) hm.1 hnS hm.2.1 hm.2.2 (fun k hk => hκ nb k hk hnκ hnb) ⟨vs, T, hblk, r1, r2⟩
   rw [he] at hR1
   refine ⟨_, hR1.put hd (AR.of_A1' ⟨by simp, ?_⟩)⟩
   show getB ((d, y :: l') :: σ.b) d ≠ []
   rw [getB_cons, if_pos rfl]; simp
 | i =>
  have hF : FRel c.w c.S g r u := by
   cases r <;> first | exact hv | (simp [Sh.dec, asInt] at hdec; done)
  exact plain hF rfl
 | b =>
  have hF : FRel c.w c.S g r u := by
   cases r <;> first | exact hv | (simp [Sh.dec, asBoo] at hdec; done)
  exact plain hF rfl
 | str =>
  have hF : FRel c.w c.S g r u := by
   cases r <;> first | exact hv | (simp [Sh.dec, asStr] at hdec; done)
  exact plain hF rfl
 | e k =>
  have hF : FRel c.w c.S g r u := by
   cases r <;> first | exact hv | (simp [Sh.dec, asAgL] at hdec; done)
  exact plain hF rfl
 | s k =>
  have hF : FRel c.w c.S g r u := by
   cases r <;> first | exact hv | (simp [Sh.dec, asSl] at hdec; done)
  exact plain hF rfl
 | t2 p q =>
  have hF : FRel c.w c.S g r u := by
   cases r <;> first | exact hv | (simp [Sh.dec, asT2] at hdec; done)
  exact plain hF rfl
 | t3 p q s =>
  have hF : FRel c.w c.S g r u := by
   cases r <;> first | exact hv | (simp [Sh.dec, asT3] at hdec; done)
  exact plain hF rfl
end
end Go.AI
namespace Go.AI
section
variable {tid : El → Nat} {c c' : Cx} {σ σ' : St} {B : Base} {N : Nat} {a : Act} {w w' : World} {P : Program}
theorem dec_keys {τ : STy} {p : τ.T} {cells : List AV} (hd : τ.dec σ.v σ.fr cells = some p) : ∀ k, k ∈ ownKeys cells → k ∉ σ.fr := by
 intro k hmem
 obtain ⟨x, hx, hk⟩ := mem_ownKeys hmem
 clear hmem
 cases τ with
 | unit =>
  simp only [STy.dec] at hd
  unfold decU at hd
  split at hd
  ·simp at hx
  ·cases hd
 | prog =>
  simp only [STy.dec] at hd
  unfold decPS at hd
  split at hd
  rotate_left
  ·cases hd
  split at hd
  rotate_left
  ·cases hd
  rename_i l sig row h0 h1 h4
  simp only [List.mem_cons, List.not_mem_nil, or_false] at hx
  rcases hx with rfl | rfl | rfl | rfl | rfl | rfl | rfl | rfl | rfl | rfl <;> first
   | (simp [keyOf] at hk; done)
   | exact key_fr h4 hk
   | (rw [ownKeys_sl h0] at hk; cases hk)
   | (rw [ownKeys_sl h1] at hk; cases hk)
 | ref =>
  simp only [STy.dec] at hd
  unfold decQS at hd
  split at hd
  rotate_left
  ·cases hd
  split at hd
  rotate_left
  ·cases hd
  rename_i l row high h0 h2 h3 hap
  simp only [List.mem_cons, List.not_mem_nil, or_false] at hx
  rcases hx with rfl | rfl | rfl | rfl | rfl | rfl | rfl | rfl | rfl <;> first
   | (simp [keyOf] at hk; done)
   | exact key_fr h2 hk
   | exact key_fr h3 hk
   | (rw [ownKeys_sl h0] at hk; cases hk)
theorem srep_of (R : Rel tid B N c σ a w) {τ : STy} {p : τ.T} {gb : Nat} {cells : List AV} (row : RowR tid c σ gb cells) (hgS : ∀ o, ¬ c.S gb o) (hgκ : ∀ k b, k ∉ σ.fr → c.κ k = some b → b ≠ gb) (hd : τ.dec σ.v σ.fr cells = some p) :
  ∃ κ0 : Nat → Option Nat, SRep tid τ w c.S gb κ0 p ∧ ∀ k b, κ0 k = some b → k ∈ τ.keys ∧ ∃ k', k' ∈ ownKeys cells ∧ k' ∉ σ.fr ∧ c.κ k' = some b := by
 obtain ⟨vs, T, h1, h2, h3⟩ := row
 obtain ⟨κ0, g1, g2, g3, g4, _⟩ := decRow (gb := gb) R.inj h2 h3 hd
 have hw := R.hw
 refine ⟨κ0, ⟨fun _ => ⟨vs, T, by rw [hw] at h1; exact h1, g1, fun i hi => by have := g2 i hi; rw [hw] at this; exact this⟩, R.stsz, fun _ => hgS, fun k b hk => ?_, g4⟩, g3⟩
 obtain ⟨hk0, k', h4, h5, h6⟩ := g3 k b hk
 have r := R.own k' b h5 h6
 exact ⟨hk0, r.2.1, r.2.2.1, hgκ k' b h5 h6⟩
theorem Rel.after (R : Rel tid B N c σ a w) {τ : STy} {p : τ.T} {gb : Nat} {κ0 κ' : Nat → Option Nat} {S' : Nat → Nat → Prop} {Ks : List Nat} (hτ : τ ≠ .unit)
  (hκ0 : ∀ k b, κ0 k = some b → k ∈ τ.keys ∧ ∃ k', k' ∈ Ks ∧ k' ∉ σ.fr ∧ c.κ k' = some b) (hm : B.mine gb) (hgS : ∀ o, ¬ c.S gb o) (hgκ : ∀ k b, k ∉ σ.fr → c.κ k = some b → b ≠ gb) (hlt : gb < w.heap.size)
  (post : SRep tid τ w' S' gb κ' p) (hK : Keep w (Foot τ gb κ0) w') (hSS : ∀ b o, c.S b o → S' b o) (hSn : ∀ b o, S' b o → c.S b o ∨ Foot τ gb κ0 b ∨ w.heap.size ≤ b) (hκn : ∀ k b, κ' k = some b → Foot τ gb κ0 b ∨ w.heap.size ≤ b)
  (hKs : ∀ k, k ∈ τ.keys → k ∈ Ks) (hKf : ∀ k, k ∈ Ks → k ∈ σ.fr → k ∈ τ.keys)
  (ht : σ'.t = σ.t) (hc : σ'.c = σ.c + 1) (hvK : ∀ k, k ∈ Ks → getV σ'.v k = σ.c + 1) (hvO : ∀ k, k ∉ Ks → getV σ'.v k = getV σ.v k) (hfr : ∀ k, k ∈ σ'.fr ↔ k ∈ σ.fr ∧ k ∉ τ.keys)
  (hb1 : ∀ j, getB σ.b j ≠ [] → c.β j ≠ gb → getB σ'.b j = getB σ.b j) (hb2 : ∀ j, getB σ.b j ≠ [] → c.β j = gb → getB σ'.b j = τ.enc (σ.c + 1) p) (hb3 : ∀ j, getB σ'.b j ≠ [] → getB σ.b j ≠ [])
  (hs1 : σ.s ≠ [] → c.g ≠ gb → σ'.s = σ.s) (hs2 : σ.s ≠ [] → c.g = gb → σ'.s = τ.enc (σ.c + 1) p) (hs3 : σ'.s ≠ [] → σ.s ≠ []) :
  ∃ c1, Rel tid B N c1 σ' a w' ∧ c1.S = S' ∧ c1.g = c.g ∧ c1.β = c.β ∧ ∀ k, c1.κ k = if k ∈ Ks then κ' k else c.κ k := by
 have hF : ∀ b, Foot τ gb κ0 b → b = gb ∨ ∃ k', k' ∈ Ks ∧ k' ∉ σ.fr ∧ c.κ k' = some b := by
  intro b hb
  rcases hb with ⟨_, hb⟩ | ⟨k, hb⟩
  ·exact .inl hb
  ·exact .inr (hκ0 k b hb).2
 have hne : τ.enc (σ.c + 1) p ≠ [] := (enc_ne _ _ _).2 hτ
 have hnF : ∀ j, getB σ.b j ≠ [] → c.β j ≠ gb → ¬ Foot τ gb κ0 (c.β j) := by
  intro j hj hne hf
  rcases hF _ hf with h1 | ⟨k', _, h2, h3⟩
  ·exact hne h1
  ·exact (R.own k' _ h2 h3).2.2.2.2 j hj rfl
 have hnG : σ.s ≠ [] → c.g ≠ gb → ¬ Foot τ gb κ0 c.g := by
  intro hs hne hf
  rcases hF _ hf with h1 | ⟨k', _, h2, h3⟩
  ·exact hne h1
  ·exact (R.own k' _ h2 h3).2.2.2.1 hs rfl
 have hw := R.hw
 have hβlt : ∀ j, getB σ.b j ≠ [] → c.β j < w.heap.size := fun j hj => by have := (R.b j hj).lt; rw [hw] at this; exact this
 have hglt : σ.s ≠ [] → c.g < w.heap.size := fun hs => by have := (R.s hs).lt; rw [hw] at this; exact this
 have h0 := post.gs ((enc_ne _ _ _).2 hτ)
 have hrow : ∀ c1 : Cx, c1.w = w' → c1.S = S' → (∀ k, k ∈ τ.keys → c1.κ k = κ' k) → σ'.c = σ.c + 1 → RowR tid c1 σ' gb (τ.enc (σ.c + 1) p) := by
  intro c1 e1 e2 e3 e4
  obtain ⟨vs, T, g1, g2, g3⟩ := post.row ((enc_ne _ _ _).2 hτ)
  refine ⟨vs, T, by rw [e1]; exact g1, by rw [enc_length τ _ 0]; exact g2, fun i hi => ?_⟩
  rw [enc_length τ _ 0] at hi
  have g4 := g3 i hi
  have := enc_ver τ (σ.c + 1) p ⟨w', S', gb, κ', fun _ => 0⟩ { c1 with g := gb } st0 σ' e1 e2 rfl e3 (fun k _ => rfl) (by omega) g4
  -- the struct's place does not matter to its cells
  have hgen : ∀ {x : AV} {v : Value}, A1 tid { c1 with g := gb } σ' x v → (∀ i, x ≠ .rdr i) → (x.plain = true ∨ ∃ k q e l, x = .own k q e l) → A1 tid c1 σ' x v := by
   intro x v hx _ hp
   rcases hp with hp | ⟨k, q, e, l, rfl⟩
   ·have hz : x.fz1 = true := by cases x <;> first | rfl | simp [AV.plain] at hp
    have hq : FRel c1.w c1.S gb x v := A1.to_F (c := { c1 with g := gb }) tid hx hz
    exact A1.of_F tid (hq.plain hp)
   ·refine ⟨hx.1, hx.2.1, fun hv => ?_⟩
    rcases hx.2.2 hv with r | ⟨b, vs, r1, r2, r3, r4⟩
    ·exact .inl r
    ·refine .inr ⟨b, vs, r1, r2, r3, r4.plain ?_⟩
     rw [List.all_eq_true]
     intro y hy
     obtain ⟨z, _, hy⟩ := List.mem_flatMap.1 hy
     exact List.all_eq_true.1 (El.enc_plain e z) y hy
  refine hgen this (fun j e => ?_) ?_
  ·clear this g4 hgen
   cases τ with
   | unit => exact absurd rfl hτ
   | prog =>
    match i with
    | 0 => cases e
    | 1 => cases e
    | 2 => cases e
    | 3 => cases e
    | 4 => cases e
    | 5 => cases e
    | 6 => cases e
    | 7 => cases e
    | 8 => cases e
    | 9 => cases e
    | n + 10 => simp [STy.enc] at hi; omega
   | ref =>
    match i with
    | 0 => cases e
    | 1 => cases e
    | 2 => cases e
    | 3 => cases e
    | 4 => cases e
    | 5 => cases e
    | 6 => cases e
    | 7 => cases e
    | 8 => cases e
    | n + 9 => simp [STy.enc] at hi; omega
  ·clear this g4 hgen
   cases τ with
   | unit => exact absurd rfl hτ
   | prog =>
    match i with
    | 0 => exact .inl rfl
    | 1 => exact .inl rfl
    | 2 => exact .inl rfl
    | 3 => exact .inl rfl
    | 4 => exact .inr ⟨_, _, _, _, rfl⟩
    | 5 => exact .inl rfl
    | 6 => exact .inl rfl
    | 7 => exact .inl rfl
    | 8 => exact .inl rfl
    | 9 => exact .inl rfl
    | n + 10 => exact .inl rfl
   | ref =>
    match i with
    | 0 => exact .inl rfl
    | 1 => exact .inl rfl
    | 2 => exact .inr ⟨_, _, _, _, rfl⟩
    | 3 => exact .inr ⟨_, _, _, _, rfl⟩
    | 4 => exact .inl rfl
    | 5 => exact .inl rfl
    | 6 => exact .inl rfl
    | 7 => exact .inl rfl
    | 8 => exact .inl rfl
    | n + 9 => exact .inl rfl
 have hbne : ∀ j, getB σ'.b j ≠ [] ↔ getB σ.b j ≠ [] := by
  intro j
  refine ⟨hb3 j, fun hj => ?_⟩
  by_cases e : c.β j = gb
  ·rw [hb2 j hj e]; exact hne
  ·rw [hb1 j hj e]; exact hj
 have hR := R.called (σ' := σ') (S' := S') (F := Foot τ gb κ0) (κ' := κ') (Ks := Ks) hK hSS hSn post.st (fun b hb => ?_) (fun b o hb => ?_) (fun k b hk hb hf => ?_) (fun k b hb => ?_) post.inj ht (by omega) (fun k hk => by rw [hvK k hk]; omega) hvO (fun k => ?_) (fun j hj o hs => ?_) (fun hs o hs' => ?_) hbne hs3 (fun st => ⟨fun j hj => ?_, fun hs => ?_⟩)
 ·exact ⟨_, hR.1, rfl, rfl, rfl, fun k => rfl⟩
 ·rcases hF b hb with rfl | ⟨k', _, h2, h3⟩
  ·exact hm
  ·exact (R.own k' b h2 h3).1
 ·rcases hF b hb with rfl | ⟨k', _, h2, h3⟩
  ·exact hgS o
  ·exact (R.own k' b h2 h3).2.2.1 o
 ·rcases hF b hf with rfl | ⟨k', h1, h2, h3⟩
  ·exact absurd rfl (hgκ k b hk hb)
  ·have := R.inj k k' b hk h2 hb h3
   subst this; exact h1
 ·have r := post.own k b hb
  have hx : (∃ k', k' ∉ σ.fr ∧ c.κ k' = some b) ∨ w.heap.size ≤ b := by
   rcases hκn k b hb with hf | hf
   ·rcases hF b hf with rfl | ⟨k', h1, h2, h3⟩
    ·exact absurd rfl r.2.2.2
    ·exact .inl ⟨k', h2, h3⟩
   ·exact .inr hf
  refine ⟨hκn k b hb, r.2.1, r.2.2.1, fun hs e => ?_, fun j hj e => ?_⟩
  ·rcases hx with ⟨k', h2, h3⟩ | hx
   ·exact (R.own k' b h2 h3).2.2.2.1 hs e
   ·have := hglt hs; omega
  ·rcases hx with ⟨k', h2, h3⟩ | hx
   ·exact (R.own k' b h2 h3).2.2.2.2 j hj e
   ·have := hβlt j hj; omega
 ·rw [hfr]
  exact and_congr_right fun hk => ⟨fun h1 h2 => h1 (hKf k h2 hk), fun h1 h2 => h1 (hKs k h2)⟩
 ·by_cases e : c.β j = gb
  ·rw [e] at hs; exact h0 o hs
  ·rcases hSn _ o hs with hs | hs | hs
   ·exact (R.box j hj).2.1 o hs
   ·exact hnF j hj e hs
   ·have := hβlt j hj; omega
 ·by_cases e : c.g = gb
  ·rw [e] at hs'; exact h0 o hs'
  ·rcases hSn _ o hs' with h1 | h1 | h1
   ·exact (R.gg hs).2 o h1
   ·exact hnG hs e h1
   ·have := hglt hs; omega
 ·have hj0 := (hbne j).1 hj
  by_cases e : c.β j = gb
  ·rw [hb2 j hj0 e, e]
   exact .inr (hrow _ rfl rfl (fun k hk => if_pos (hKs k hk)) hc)
  ·exact .inl ⟨hb1 j hj0 e, hnF j hj0 e⟩
 ·have hs0 := hs3 hs
  by_cases e : c.g = gb
  ·rw [hs2 hs0 e, e]
   exact .inr (hrow _ rfl rfl (fun k hk => if_pos (hKs k hk)) hc)
  ·exact .inl ⟨hs1 hs0 e, hnG hs0 e⟩
theorem getV_bumps (Ks : List Nat) (q : Nat) (v : List (Nat × Nat)) (k : Nat) : getV (Ks.map (fun k => (k, q)) ++ v) k = if k ∈ Ks then q else getV v k := by
 induction Ks with
 | nil => simp
 | cons j Ks ih =>
  rw [List.map_cons, List.cons_append, getV_cons, ih]
  by_cases h1 : j = k
  ·subst h1; simp
  ·rw [if_neg h1]; simp [Ne.symm h1]
theorem dec_unit {v : List (Nat × Nat)} {fr : List Nat} {τ : STy} {cells : List AV} {p : τ.T} (hd : τ.dec v fr cells = some p) : cells = [] ↔ τ = .unit := by
 cases τ with
 | unit =>
  simp only [STy.dec] at hd
  unfold decU at hd
  split at hd
  ·simp
  ·cases hd
 | prog =>
  simp only [STy.dec] at hd
  unfold decPS at hd
  split at hd
  ·simp
  ·cases hd
 | ref =>
  simp only [STy.dec] at hd
  unfold decQS at hd
  split at hd
  ·simp
  ·cases hd
theorem shaped_spec {h : Sh} {Q : Type} {o : Option (AV × Q)} {R : Type} {F : h.T × Q → Option R} {r : R} (hh : (shaped h o).bind F = some r) : ∃ x y p, o = some (x, p) ∧ h.dec x = some y ∧ F (y, p) = some r := by
 unfold shaped at hh
 cases o with
 | none => simp at hh
 | some q =>
  obtain ⟨x, p⟩ := q
  simp only [Option.bind_some] at hh
  cases hd : h.dec x with
  | none => simp [hd] at hh
  | some y => simp [hd] at hh; exact ⟨x, y, p, rfl, hd, hh⟩
theorem AR.list {l : List AV} {vs : List Value} (h : CR c.w c.S c.g l vs) (i : Nat) (hi : i < l.length) : AR tid c σ (l.getD i .undef) (vs.getD i Go.undef) := AR.of_F tid (h.2 i hi)
theorem callK_ok {tab : Tab} {call : (τ : STy) → Nat → List AV → τ.T → Option (AV × τ.T)} {τ : STy} (hcall : CallsOK tid P call) (R : Rel tid B N c σ a w) {o : Oper} (hd : ∀ x, o.dst = some x → x < N) {f : Nat} {fst args cap : List AV} {vf va vc : List Value} {static : Bool}
  (h1 : CR c.w c.S c.g fst vf) (h2 : args.length = va.length) (h2' : ∀ i, i < args.length → AR tid c σ (args.getD i .undef) (va.getD i Go.undef)) (h3 : CR c.w c.S c.g cap vc) (hst : static = true → vf = [] ∧ vc = [])
  (hK : callK tab call τ σ o f fst args cap static some = some σ') {R' : Ending → World → Prop} (hn : ∀ u w' c', Rel tid B N c' σ' (a.put o.dst u) w' → R' (.returned u) w') :
  Goes P f ∧ Calls P f (vf ++ (va ++ vc)).toArray w R' := by
 unfold callK at hK
 split at hK
 ·-- a variable of the frame's own is lent
  split at hK
  rotate_left
  ·cases hK
  rename_i k rest _
  simp only at hst
  obtain ⟨rfl, rfl⟩ := hst trivial
  split at hK
  rotate_left
  ·cases hK
  rename_i rest' σ1 hfz
  split at hK
  rotate_left
  ·cases hK
  rename_i p hpl hdec
  obtain ⟨x, y, q, hcl, hsh, hK⟩ := shaped_spec hK
  cases va with
  | nil => simp at h2
  | cons v va =>
   have hA0 : AR tid c σ (.lbox k 0) v := by simpa using h2' 0 (by simp)
   obtain ⟨rfl, hkne⟩ := hA0.to_A1 tid (by intro l h; cases h)
   obtain ⟨c1, s1, R1, C1⟩ := freezeAll_ok (vs := va) R (by simpa using h2) (fun i hi => by simpa using h2' (i + 1) (by simp; omega)) hfz
   have hk1 := s1.box k hkne
   have hw1 := R1.hw
   obtain ⟨hm', hgS, _, hbx⟩ := R1.box k hk1.1
   have hm : B.mine (c1.β k) := .inr hm'
   have hgκ : ∀ k' b, k' ∉ σ1.fr → c1.κ k' = some b → b ≠ c1.β k := fun k' b h4 h5 => (R1.own k' b h4 h5).2.2.2.2 k hk1.1
   have hrow := R1.b k hk1.1
   have hlt : c1.β k < w.heap.size := by have := hrow.lt; rw [hw1] at this; exact this
   obtain ⟨κ0, hsr, hκ0⟩ := srep_of R1 hrow hgS hgκ hdec
   have hτ : tab.sty f ≠ .unit := by
    exact fun e => hk1.1 ((dec_unit hdec).2 e)
   obtain ⟨hgo, hcalls⟩ := hcall _ f _ p (x, q) hcl
   refine ⟨hgo, ?_⟩
   have hargs : CR w c1.S (c1.β k) (.rdr 0 :: rest') (.pointer (some ⟨c1.β k, 0, none⟩) :: va) := by
    rw [hw1] at C1
    refine ⟨by simp [C1.1], fun i hi => ?_⟩
    cases i with
    | zero => exact .rdr 0
    | succ i => simpa using (C1.2 i (by simpa using hi)).plainA (one_of_all hpl i (by simpa using hi))
   rw [← hk1.2]
   simp only [List.nil_append, List.append_nil]
   refine (hcalls w c1.S (c1.β k) κ0 _ hsr hargs).mono fun e w' he => ?_
   cases e with
   | panicked => exact he.elim
   | outgrown => exact he.elim
   | returned u =>
    obtain ⟨S', κ', g1, g2, g3, g4, g5, g6⟩ := he
    have hbk : ∀ j, getB (St.lent σ1 (tab.sty f) k q).b j = if k = j then (tab.sty f).enc (σ1.c + 1) q else getB σ1.b j := fun j => getB_cons ..
    have hfk := dec_keys hdec
    obtain ⟨c2, R2, e1, e2, e3, e4⟩ := R1.after (σ' := St.lent σ1 (tab.sty f) k q) (τ := tab.sty f) (p := q) (gb := c1.β k) (κ0 := κ0) (κ' := κ') (S' := S') (Ks := (tab.sty f).keys ++ ownKeys (getB σ1.b k)) hτ
     (fun k' b h => ⟨(hκ0 k' b h).1, by obtain ⟨k2, h4, h5, h6⟩ := (hκ0 k' b h).2; exact ⟨k2, List.mem_append_right _ h4, h5, h6⟩⟩) hm hgS hgκ hlt g1 g2 g3 g4 g5 (fun k h => List.mem_append_left _ h)
     (fun k' h hf => by rcases List.mem_append.1 h with h | h; exact h; exact absurd hf (hfk k' h)) rfl rfl (fun k' h => by
      show getV (_ ++ _) k' = _
      rw [getV_bumps, if_pos h]) (fun k' h => by
      show getV (_ ++ _) k' = _
      rw [getV_bumps, if_neg h]) (fun k' => by
      show k' ∈ σ1.fr.filter _ ↔ _
      simp [List.mem_filter])
     (fun j hj hne => by rw [hbk, if_neg (fun e => hne (by rw [e]))]) (fun j hj he => by rw [hbk, if_pos (hbx j hj he).symm]) (fun j hj => by
      rw [hbk] at hj
      split at hj
      ·rename_i e; rw [← e]; exact hk1.1
      ·exact hj)
     (fun _ _ => rfl) (fun hs he => absurd he.symm ((R1.box k hk1.1).2.2.1 hs)) (fun hs => hs)
    have e5 := R2.hw
    obtain ⟨c3, R3⟩ := gotK_ok R2 hd (g := c1.β k) (n := w.heap.size) (κ' := κ') (by rw [e5, e1]; exact g6) hsh (fun nb hnb => ⟨Nat.le_trans R1.keep.size hnb, fun hs e => by
      rw [e2] at e
      have := (R1.s hs).lt
      rw [hw1] at this
      omega, fun j hj e => by
      rw [e3] at e
      have hj1 : getB σ1.b j ≠ [] := by
       rw [hbk] at hj
       split at hj
       ·rename_i e; rw [← e]; exact hk1.1
       ·exact hj
      have := (R1.b j hj1).lt
      rw [hw1] at this
      omega⟩) (fun nb k' hk' hno hnb e => by
      rw [e4] at e
      split at e
      ·exact hno _ e
      ·rename_i hks
       have hk2 : k' ∉ σ1.fr := by
        intro hf
        refine hk' ?_
        show k' ∈ σ1.fr.filter _
        rw [List.mem_filter]
        refine ⟨hf, ?_⟩
        have : k' ∉ (tab.sty f).keys := fun h => hks (List.mem_append_left _ h)
        simpa using this
       have := (R1.own k' nb hk2 e).2.1
       omega) hK
    exact hn u w' c3 R3
 ·rename_i args' σ1 hfz
  obtain ⟨c1, s1, R1, C1⟩ := freezeAll_ok R h2 h2' hfz
  have hw1 := R1.hw
  have hargs : CR c1.w c1.S c1.g (fst ++ (args' ++ cap)) (vf ++ (va ++ vc)) := (h1.step s1).append (C1.append (h3.step s1))
  rw [hw1] at hargs
  generalize (if static = true then tab.sty f else τ) = τ1 at hK
  split at hK
  ·obtain ⟨x, y, q, hcl, hsh, hK⟩ := shaped_spec hK
   obtain ⟨hgo, hcalls⟩ := hcall .unit f _ () (x, q) hcl
   refine ⟨hgo, ?_⟩
   refine (hcalls w c1.S c1.g (fun _ => none) _ ⟨fun h => absurd rfl h, R1.stsz, fun h => absurd rfl h, fun k b h => (by cases h), fun k k' b h => (by cases h)⟩ hargs).mono fun e w' he => ?_
   cases e with
   | panicked => exact he.elim
   | outgrown => exact he.elim
   | returned u =>
    obtain ⟨S', κ', g1, g2, g3, g4, g5, g6⟩ := he
    have hκn : ∀ k, κ' k = none := fun k => by
     cases hk : κ' k with
     | none => rfl
     | some b => have := (g1.own k b hk).1; simp [STy.keys] at this
    have hnf : ∀ b, ¬ Foot .unit c1.g (fun _ => none) b := by
     intro b hb
     rcases hb with ⟨h, _⟩ | ⟨k, h⟩
     ·exact h rfl
     ·cases h
    have hnew : ∀ b o, b < w.heap.size → ¬ c1.S b o → ¬ S' b o := by
     intro b o hb hs hs'
     rcases g4 b o hs' with h | h | h
     ·exact hs h
     ·exact hnf b h
     ·omega
    obtain ⟨R2, _⟩ := R1.called (σ' := σ1) (S' := S') (F := Foot .unit c1.g (fun _ => none)) (κ' := κ') (Ks := []) g2 g3 g4 g1.st (fun b hb => (hnf b hb).elim) (fun b o hb => (hnf b hb).elim) (fun k b _ _ hb => (hnf b hb).elim) (fun k b hk => by rw [hκn] at hk; cases hk) (fun k k' b hk => by rw [hκn] at hk; cases hk)
     rfl (Nat.le_refl _) (fun k hk => by simp at hk) (fun k _ => rfl) (fun k => by simp) (fun j hj o => hnew _ o (by have := (R1.b j hj).lt; rw [hw1] at this; exact this) ((R1.box j hj).2.1 o)) (fun hs o => hnew _ o (by have := (R1.s hs).lt; rw [hw1] at this; exact this) ((R1.gg hs).2 o))
     (fun j => Iff.rfl) (fun h => h) (fun _ => ⟨fun j _ => .inl ⟨rfl, hnf _⟩, fun _ => .inl ⟨rfl, hnf _⟩⟩)
    obtain ⟨c3, R3⟩ := gotK_ok R2 hd (g := c1.g) (n := w.heap.size) (κ' := κ') g6 hsh (fun nb hnb => ⟨Nat.le_trans R1.keep.size hnb, fun hs e => by
      have := (R1.s hs).lt; rw [hw1] at this; have e : nb = c1.g := e; omega, fun j hj e => by
      have := (R1.b j hj).lt; rw [hw1] at this; have e : nb = c1.β j := e; omega⟩) (fun nb k' hk' hno hnb e => by
      have e : c1.κ k' = some nb := by simpa using e
      have := (R1.own k' nb hk' e).2.1
      omega) hK
    exact hn u w' c3 R3
  ·rename_i τ' hτ'
   split at hK
   rotate_left
   ·cases hK
   rename_i he
   split at hK
   rotate_left
   ·cases hK
   rename_i p hdec
   obtain ⟨x, y, q, hcl, hsh, hK⟩ := shaped_spec hK
   have hτ : τ ≠ .unit := by rw [← he]; exact hτ'
   have hs : σ1.s ≠ [] := by
    intro e
    rw [e] at hdec
    cases τ with
    | unit => exact hτ rfl
    | prog => simp [STy.dec, decPS] at hdec
    | ref => simp [STy.dec, decQS] at hdec
   obtain ⟨hm, hgS⟩ := R1.gg hs
   have hgκ : ∀ k' b, k' ∉ σ1.fr → c1.κ k' = some b → b ≠ c1.g := fun k' b h4 h5 => (R1.own k' b h4 h5).2.2.2.1 hs
   have hrow := R1.s hs
   have hlt : c1.g < w.heap.size := by have := hrow.lt; rw [hw1] at this; exact this
   obtain ⟨κ0, hsr, hκ0⟩ := srep_of R1 hrow hgS hgκ hdec
   obtain ⟨hgo, hcalls⟩ := hcall τ f _ p (x, q) hcl
   refine ⟨hgo, ?_⟩
   refine (hcalls w c1.S c1.g κ0 _ hsr hargs).mono fun e w' he => ?_
   cases e with
   | panicked => exact he.elim
   | outgrown => exact he.elim
   | returned u =>
    obtain ⟨S', κ', g1, g2, g3, g4, g5, g6⟩ := he
    have hfk := dec_keys hdec
    obtain ⟨c2, R2, e1, e2, e3, e4⟩ := R1.after (σ' := St.back τ σ1 q) (τ := τ) (p := q) (gb := c1.g) (κ0 := κ0) (κ' := κ') (S' := S') (Ks := τ.keys ++ ownKeys σ1.s) hτ
     (fun k' b h => ⟨(hκ0 k' b h).1, by obtain ⟨k2, h4, h5, h6⟩ := (hκ0 k' b h).2; exact ⟨k2, List.mem_append_right _ h4, h5, h6⟩⟩) hm hgS hgκ hlt g1 g2 g3 g4 g5 (fun k h => List.mem_append_left _ h)
     (fun k' h hf => by rcases List.mem_append.1 h with h | h; exact h; exact absurd hf (hfk k' h)) rfl rfl (fun k' h => by
      show getV (_ ++ _) k' = _
      rw [getV_bumps, if_pos h]) (fun k' h => by
      show getV (_ ++ _) k' = _
      rw [getV_bumps, if_neg h]) (fun k' => by
      show k' ∈ σ1.fr.filter _ ↔ _
      simp [List.mem_filter])
     (fun j hj hne => rfl) (fun j hj he => absurd he ((R1.box j hj).2.2.1 hs)) (fun j hj => hj)
     (fun _ hne => absurd rfl hne) (fun _ _ => rfl) (fun _ => hs)
    have e5 := R2.hw
    obtain ⟨c3, R3⟩ := gotK_ok R2 hd (g := c1.g) (n := w.heap.size) (κ' := κ') (by rw [e5, e1]; exact g6) hsh (fun nb hnb => ⟨Nat.le_trans R1.keep.size hnb, fun _ e => by
      rw [e2] at e; omega, fun j hj e => by
      rw [e3] at e
      have := (R1.b j hj).lt
      rw [hw1] at this
      omega⟩) (fun nb k' hk' hno hnb e => by
      rw [e4] at e
      split at e
      ·exact hno _ e
      ·rename_i hks
       have hk2 : k' ∉ σ1.fr := by
        intro hf
        refine hk' ?_
        show k' ∈ σ1.fr.filter _
        rw [List.mem_filter]
        refine ⟨hf, ?_⟩
        have : k' ∉ τ.keys := fun h => hks (List.mem_append_left _ h)
        simpa using this
       have := (R1.own k' nb hk2 e).2.1
       omega) hK
    exact hn u w' c3 R3
end
end Go.AI
namespace Go.AI
def intTb (P : Program) (t : TypeId) : Bool := match P.underlying t with | some (.int _) => true | _ => false
def eqOKb (P : Program) (T : TypeId) (agg : Bool) : Bool :=
 match P.underlying T, agg with
 | some .bool, false => true
 | some (.struct fs), true =>
  (match fs.toList with
  | [f1, f2, f3] => (f1.name != "_" && (f2.name != "_" && f3.name != "_")) && ((intTb P f1.type && (intTb P f2.type && intTb P f3.type)) && (Nat.beq f1.offset 0 && (Nat.beq f2.offset 1 && Nat.beq f3.offset 2)))
  | _ => false) && (!P.stoodInHeld T && !P.eqGuardType P.depth T)
 | _, _ => false
def eqsOKb (P : Program) : List (Nat × Bool) → Bool
 | [] => true
 | (T, a) :: r => eqOKb P T a && eqsOKb P r
theorem eqsOKb_of {P : Program} : ∀ {l : List (Nat × Bool)}, eqsOKb P l = true → ∀ T a, findN l T = some a → eqOKb P T a = true
 | [], _, T, a, h => by simp [findN] at h
 | (U, b) :: r, hl, T, a, h => by
  simp only [eqsOKb, Bool.and_eq_true] at hl
  simp only [findN] at h
  split at h
  ·rename_i he
   have := Nat.eq_of_beq_eq_true he
   simp only [Option.some.injEq] at h
   subst this; subst h; exact hl.1
  ·exact eqsOKb_of hl.2 T a h
theorem eqField_run {P : Program} {w : World} {f : Field} (d : Nat) {i : Nat} (hf : intTb P f.type = true) (ho : f.offset = i) {xs ys : Array Value} {x y : Int} (hx : xs[i]? = some (.int .i64 x)) (hy : ys[i]? = some (.int .i64 y)) :
  (Op.equalIn (d + 1) f.type (.int .i64 x) (.int .i64 y)).run P w = .ok (x == y) w ∧ (part f.type xs f.offset).run P w = .ok (.int .i64 x) w ∧ (part f.type ys f.offset).run P w = .ok (.int .i64 y) w := by
 unfold intTb at hf
 split at hf
 rotate_left
 ·cases hf
 rename_i k hu
 refine ⟨?_, ?_, ?_⟩
 ·simp [Op.equalIn, run_underlying hu]
 ·simp [part, isAgg, run_underlying hu, ho, hx]
 ·simp [part, isAgg, run_underlying hu, ho, hy]
theorem eq3_runD {P : Program} {w : World} {T : TypeId} (d : Nat) (h : eqOKb P T true = true) (a b c a' b' c' : Int) :
  (Op.equalIn (d + 1 + 1) T (.agg #[.int .i64 a, .int .i64 b, .int .i64 c]) (.agg #[.int .i64 a', .int .i64 b', .int .i64 c'])).run P w = .ok (decide ((⟨a, b, c⟩ : Tok) = ⟨a', b', c'⟩)) w := by
 unfold eqOKb at h
 split at h
 ·rename_i h2; cases h2
 ·rename_i fs hu _
  simp only [Bool.and_eq_true, Bool.not_eq_true'] at h
  obtain ⟨h1, h2, h3⟩ := h
  split at h1
  rotate_left
  ·cases h1
  rename_i f1 f2 f3 hfs
  simp only [Bool.and_eq_true, bne_iff_ne, ne_eq] at h1
  obtain ⟨⟨n1, n2, n3⟩, ⟨t1, t2, t3⟩, o1, o2, o3⟩ := h1
  have hff : P.fieldsOf T = fs := by simp [Program.fieldsOf, hu]
  obtain ⟨e1, p1, q1⟩ := eqField_run (w := w) d t1 (Nat.eq_of_beq_eq_true o1) (xs := #[.int .i64 a, .int .i64 b, .int .i64 c]) (ys := #[.int .i64 a', .int .i64 b', .int .i64 c']) rfl rfl
  obtain ⟨e2, p2, q2⟩ := eqField_run (w := w) d t2 (Nat.eq_of_beq_eq_true o2) (xs := #[.int .i64 a, .int .i64 b, .int .i64 c]) (ys := #[.int .i64 a', .int .i64 b', .int .i64 c']) rfl rfl
  obtain ⟨e3, p3, q3⟩ := eqField_run (w := w) d t3 (Nat.eq_of_beq_eq_true o3) (xs := #[.int .i64 a, .int .i64 b, .int .i64 c]) (ys := #[.int .i64 a', .int .i64 b', .int .i64 c']) rfl rfl
  rw [run_equalIn_struct w (d + 1) T _ _ (by rw [hff]; exact hu) h2, hff, hfs]
  simp only [Op.eqFields, Sem.run_bind, Sem.run_ite, n1, n2, n3, ne_eq, not_false_eq_true, if_true, p1, q1, p2, q2, p3, q3, e1, e2, e3, Result.andThen_ok]
  by_cases c1 : a = a' <;> by_cases c2 : b = b' <;> by_cases c3 : c = c' <;> simp [c1, c2, c3]
 ·cases h
theorem eqb_runD {P : Program} {w : World} {T : TypeId} (d : Nat) (h : eqOKb P T false = true) (a b : Bool) : (Op.equalIn (d + 1) T (.bool a) (.bool b)).run P w = .ok (a == b) w := by
 unfold eqOKb at h
 split at h
 ·rename_i hu _
  simp [Op.equalIn, run_underlying hu]
 ·rename_i h2; cases h2
 ·cases h
theorem eq3_run {P : Program} {w : World} {T : TypeId} (h : eqOKb P T true = true) (a b c a' b' c' : Int) :
  (Op.equal T (.agg #[.int .i64 a, .int .i64 b, .int .i64 c]) (.agg #[.int .i64 a', .int .i64 b', .int .i64 c'])).run P w = .ok (decide ((⟨a, b, c⟩ : Tok) = ⟨a', b', c'⟩)) w := eq3_runD 9998 h a b c a' b' c'
theorem eqb_run {P : Program} {w : World} {T : TypeId} (h : eqOKb P T false = true) (a b : Bool) : (Op.equal T (.bool a) (.bool b)).run P w = .ok (a == b) w := eqb_runD 9999 h a b
theorem eqg_run {P : Program} {w : World} {T : TypeId} (h : eqOKb P T true = true) (op : BinOp) (X Y : Operand) (xs ys : Array Value) : (eqGuard op T X Y (.agg xs) (.agg ys)).run P w = .ok () w := by
 have hg : P.eqGuardType P.depth T = false := by
  unfold eqOKb at h
  split at h
  ·rename_i h2; cases h2
  ·simp only [Bool.and_eq_true, Bool.not_eq_true'] at h; exact h.2.2
  ·cases h
 unfold eqGuard
 simp [hg]
def cvOKb (P : Program) (T : TypeId) (c : Cv) : Bool :=
 match P.underlying T, c with
 | some (.int k), .ik k' => decide (k = k')
 | some .string, .str => true
 | some (.slice e), .bytes => (match P.underlying e with | some (.int .u8) => true | _ => false)
 | _, _ => false
theorem cvOK_str {P : Program} {T : TypeId} (h : cvOKb P T .str = true) : P.underlying T = some .string := by
 unfold cvOKb at h
 split at h <;> simp_all
theorem cvOK_ik {P : Program} {T : TypeId} {k : IntKind} (h : cvOKb P T (.ik k) = true) : P.underlying T = some (.int k) := by
 unfold cvOKb at h
 split at h <;> simp_all
def cvsOKb (P : Program) : List (Nat × Cv) → Bool
 | [] => true
 | (T, a) :: r => cvOKb P T a && cvsOKb P r
theorem cvsOKb_of {P : Program} : ∀ {l : List (Nat × Cv)}, cvsOKb P l = true → ∀ T a, findN l T = some a → cvOKb P T a = true
 | [], _, T, a, h => by simp [findN] at h
 | (U, b) :: r, hl, T, a, h => by
  simp only [cvsOKb, Bool.and_eq_true] at hl
  simp only [findN] at h
  split at h
  ·rename_i he
   have := Nat.eq_of_beq_eq_true he
   simp only [Option.some.injEq] at h
   subst this; subst h; exact hl.1
  ·exact cvsOKb_of hl.2 T a h
end Go.AI
namespace Go.AI
structure TabOK (P : Program) (tab : Tab) : Prop where
 ty : ∀ T ty, tab.ty T = some ty → TyOK P tab.tid T ty
 eqs : ∀ T a, findN tab.eqs T = some a → eqOKb P T a = true
 cvs : ∀ T a, findN tab.cvs T = some a → cvOKb P T a = true
def opFine (N : Nat) (o : Oper) : Bool :=
 (match o.dst with | some d => Nat.blt d N | none => true) && (match o.op with | .store .. => o.dst.isNone | _ => true)
section
variable {tab : Tab} {call : (τ : STy) → Nat → List AV → τ.T → Option (AV × τ.T)} {τ : STy} {c c' : Cx} {σ σ' : St} {B : Base} {N : Nat} {a : Act} {w w' : World} {P : Program}
theorem TabOK.el (hTab : TabOK P tab) {T : Nat} : ∀ e, tab.elOf T = some e → ElOK P tab.tid T e := by
 intro e he
 unfold Tab.elOf at he
 split at he
 ·rename_i ty hty
  exact ⟨((hTab.ty T ty hty).el e he).1, ((hTab.ty T ty hty).el e he).2⟩
 ·cases he
theorem run_callFunc {f : Nat} (h : Goes P f) (args : Array Value) (w : World) : (callFunc f args).run P w = .ok (.enter f args) w := by
 obtain ⟨fn, h1, h2, h3⟩ := h
 have h2' : ¬ fn.name = "runtime.NumGoroutine" := by simpa using h2
 cases hb : fn.body with
 | none => simp [hb] at h3
 | some b => simp [callFunc, h1, h2', hb]
theorem one_fz {x : AV} (h : x.one = true) : x.fz = true := by cases x <;> first | rfl | simp [AV.one] at h
theorem list_map_getD {α β : Type} (f : α → β) (l : List α) (d : β) (i : Nat) (hi : i < l.length) : (l.map f).getD i d = f (l[i]) := by
 rw [List.getD_eq_getElem?_getD, List.getElem?_map, List.getElem?_eq_getElem hi]; rfl
theorem args_ok (h : Rel tab.tid B N c σ a w) (args : Array Operand) : (args.toList.map (getO σ.t)).length = (args.toList.map a.eval).length ∧ ∀ i, i < (args.toList.map (getO σ.t)).length → AR tab.tid c σ ((args.toList.map (getO σ.t)).getD i .undef) ((args.toList.map a.eval).getD i Go.undef) := by
 refine ⟨by simp, fun i hi => ?_⟩
 have hi : i < args.toList.length := by simpa using hi
 rw [list_map_getD _ _ _ _ hi, list_map_getD _ _ _ _ hi]
 exact h.getO _
theorem bound_ok (h : Rel tab.tid B N c σ a w) (x : Option Operand) : (optO σ.t x = none ∧ x.map a.eval = none) ∨ (∃ n, optO σ.t x = some (.int n)) ∨ (∃ y, optO σ.t x = some y ∧ ∀ n, y ≠ .int n) := by
 cases x with
 | none => exact .inl ⟨rfl, rfl⟩
 | some x =>
  refine .inr ?_
  cases hx : getO σ.t x <;> first
   | exact .inl ⟨_, congrArg some hx⟩
   | exact .inr ⟨_, congrArg some hx, fun n h => by cases h⟩
theorem boundR (h : Rel tab.tid B N c σ a w) {x : Option Operand} (hx : ∀ y, optO σ.t x = some y → ∃ n, y = .int n) : BoundR c (optO σ.t x) (x.map a.eval) := by
 cases x with
 | none => trivial
 | some x =>
  obtain ⟨n, hn⟩ := hx _ rfl
  have hr := h.getO x
  show BoundR c (some (getO σ.t x)) (some (a.eval x))
  rw [hn] at hr ⊢
  generalize a.eval x = v at hr
  cases hr.to_F tab.tid rfl
  rfl
theorem sliceK_bounds {E : Option El} {x : AV} {lo hi : Option AV} {R : Type} {K : AV → Option R} {r : R} (h : sliceK E σ x lo hi K = some r) : (∀ y, lo = some y → ∃ n, y = .int n) ∧ (∀ y, hi = some y → ∃ n, y = .int n) := by
 unfold sliceK at h
 split at h <;> (try (cases h; done)) <;> split at h <;> (try (cases h; done)) <;> split at h <;> (try (cases h; done)) <;> exact ⟨fun y hy => (by first | (cases hy; done) | (cases hy; exact ⟨_, rfl⟩)), fun y hy => (by first | (cases hy; done) | (cases hy; exact ⟨_, rfl⟩))⟩
theorem eq_tail {P : Program} {w : World} {tid : El → Nat} {op : BinOp} {T : Nat} {X Y : Operand} {z : AV} {v u : Value} {b : Bool} (hg : (eqGuard op T X Y v u).run P w = .ok () w) (he : (Op.equal T v u).run P w = .ok b w) (h1 : ∀ k n, v ≠ .int k n) (h2 : binOp .eql T v u = (do pure (.bool (← Op.equal T v u)))) (h3 : binOp .neq T v u = (do pure (.bool (!(← Op.equal T v u)))))
  (hz : eqAV op b = some z) : ∃ r, (do eqGuard op T X Y v u; binOp op T v u : Sem Value).run P w = .ok r w ∧ AR tid c σ z r := by
 unfold eqAV at hz
 split at hz <;> simp only [Option.some.injEq, reduceCtorEq] at hz <;> subst hz <;> simp only [Sem.run_bind, hg, Result.andThen_ok]
 ·exact ⟨.bool b, by rw [h2]; simp [he], AR.of_F tid (.bool _)⟩
 ·exact ⟨.bool (!b), by rw [h3]; simp [he], AR.of_F tid (.bool _)⟩
theorem ik_ok {k : IntKind} {op : BinOp} {T : Nat} {X Y : Operand} {p q : Int} {z : AV} (hz : ikAV op k p q = some z) :
  ∃ r, (do eqGuard op T X Y (.int k p) (.int k q); binOp op T (.int k p) (.int k q) : Sem Value).run P w = .ok r w ∧ AR tab.tid c σ z r := by
 have hg : (eqGuard op T X Y (.int k p) (.int k q)).run P w = .ok () w := by unfold eqGuard; split <;> rfl
 unfold ikAV at hz
 split at hz
 ·rename_i y hy
  simp only [Option.some.injEq] at hz
  subst hz
  refine ⟨.int k y, ?_, AR.of_F tab.tid (.ik _ _)⟩
  unfold arI at hy
  split at hy <;> simp only [Option.some.injEq, reduceCtorEq] at hy <;> subst hy <;> simp only [Sem.run_bind, hg, Result.andThen_ok] <;> simp [binOp, Op.intArith, Op.intBits, andI, orI]
 ·unfold cmpAV at hz
  split at hz <;> simp only [Option.some.injEq, reduceCtorEq] at hz <;> subst hz <;> simp only [Sem.run_bind, hg, Result.andThen_ok] <;> refine ⟨.bool _, ?_, AR.of_F tab.tid (.bool _)⟩ <;> simp [binOp, Op.intCmp] <;> rfl
theorem i64_ok {op : BinOp} {T : Nat} {X Y : Operand} {p q : Int} {z : AV} {v u : Value} (hx : AR tab.tid c σ (.int p) v) (hy : AR tab.tid c σ (.int q) u) (hz : i64AV op p q = some z) :
  ∃ r, (do eqGuard op T X Y v u; binOp op T v u : Sem Value).run P w = .ok r w ∧ AR tab.tid c σ z r := by
 unfold i64AV at hz
 split at hz
 all_goals first
  | exact bin_ok hx hy hz
  | skip
 all_goals
  cases hx.to_F tab.tid rfl
  cases hy.to_F tab.tid rfl
  have hg : ∀ op, (eqGuard op T X Y (.int .i64 p) (.int .i64 q)).run P w = .ok () w := by intro op; unfold eqGuard; split <;> rfl
 ·simp only [Option.some.injEq] at hz; subst hz
  exact ⟨.int .i64 _, by simp only [Sem.run_bind, hg, Result.andThen_ok]; simp [binOp, Op.intArith], AR.of_F tab.tid (.int _)⟩
 ·simp only [Option.some.injEq] at hz; subst hz
  exact ⟨.int .i64 _, by simp only [Sem.run_bind, hg, Result.andThen_ok]; simp [binOp, Op.intBits]; rfl, AR.of_F tab.tid (.int _)⟩
 ·simp only [Option.some.injEq] at hz; subst hz
  exact ⟨.int .i64 _, by simp only [Sem.run_bind, hg, Result.andThen_ok]; simp [binOp, Op.intBits]; rfl, AR.of_F tab.tid (.int _)⟩
theorem binT_ok (hTab : TabOK P tab) {op : BinOp} {T : Nat} {X Y : Operand} {x y z : AV} {v u : Value} (hx : AR tab.tid c σ x v) (hy : AR tab.tid c σ y u) (hz : binT tab op T x y = some z) :
  ∃ r, (do eqGuard op T X Y v u; binOp op T v u : Sem Value).run P w = .ok r w ∧ AR tab.tid c σ z r := by
 unfold binT at hz
 split at hz
 ·exact i64_ok hx hy hz
 ·rename_i k p k' q
  split at hz
  rotate_left
  ·cases hz
  rename_i hk
  subst hk
  cases hx.to_F tab.tid rfl
  cases hy.to_F tab.tid rfl
  exact ik_ok hz
 ·rename_i p q
  cases hx.to_F tab.tid rfl
  cases hy.to_F tab.tid rfl
  have hg : ∀ op, (eqGuard op T X Y (.string p) (.string q)).run P w = .ok () w := by intro op; unfold eqGuard; split <;> rfl
  unfold strAV at hz
  split at hz
  ·simp only [Option.some.injEq] at hz; subst hz
   exact ⟨.bool _, by simp only [Sem.run_bind, hg, Result.andThen_ok, binOp, Op.stringOp]; rfl, AR.of_F tab.tid (.bool _)⟩
  ·simp only [Option.some.injEq] at hz; subst hz
   exact ⟨.bool _, by simp only [Sem.run_bind, hg, Result.andThen_ok, binOp, Op.stringOp]; rfl, AR.of_F tab.tid (.bool _)⟩
  ·cases hz
 ·rename_i p q
  split at hz
  rotate_left
  ·cases hz
  rename_i he
  cases hx.to_F tab.tid rfl
  cases hy.to_F tab.tid rfl
  have hg : (eqGuard op T X Y (.bool p) (.bool q)).run P w = .ok () w := by unfold eqGuard; split <;> rfl
  exact eq_tail hg (eqb_run (hTab.eqs T false he) p q) (by intro k n h; cases h) rfl rfl hz
 ·rename_i l m
  split at hz
  rotate_left
  ·cases hz
  rename_i he hl hm
  have d3 : ∀ {l : List AV} {a : Tok}, decTok l = some a → l = [.int a.k, .int a.f, .int a.t] := by
   intro l a h
   unfold decTok at h
   split at h <;> simp only [Option.some.injEq, reduceCtorEq] at h
   subst h; rfl
  rename_i a b
  rw [d3 hl] at hx
  rw [d3 hm] at hy
  have f3 : ∀ {a : Tok} {v : Value}, AR tab.tid c σ (.agg [.int a.k, .int a.f, .int a.t]) v → v = .agg #[.int .i64 a.k, .int .i64 a.f, .int .i64 a.t] := by
   intro a v h
   obtain ⟨vs, rfl, hlen, hA⟩ := h
   have hA0 := hA 0 (by simp)
   have hA1 := hA 1 (by simp)
   have hA2 := hA 2 (by simp)
   obtain ⟨x0, x1, x2, rfl⟩ : ∃ x0 x1 x2, vs = [x0, x1, x2] := by
    match vs, hlen with
    | [x0, x1, x2], _ => exact ⟨x0, x1, x2, rfl⟩
   simp only [List.getD_cons_zero, List.getD_cons_succ] at hA0 hA1 hA2
   cases A1.to_F tab.tid hA0 rfl
   cases A1.to_F tab.tid hA1 rfl
   cases A1.to_F tab.tid hA2 rfl
   rfl
  rw [f3 hx, f3 hy]
  exact eq_tail (eqg_run (hTab.eqs T true he) op X Y _ _) (eq3_run (hTab.eqs T true he) _ _ _ _ _ _) (by intro k n h; cases h) rfl rfl hz
 ·cases hz
theorem lenT_ok (hTab : TabOK P tab) {T ty : Nat} {R : Type} {K : AV → Option R} {r : R} (h : Rel tab.tid B N c σ a w) {x : AV} {v : Value} (hx : AR tab.tid c σ x v) (hK : lenT tab T σ x K = some r) :
  ∃ n : Int, K (.int n) = some r ∧ (Builtin.len_ #[T] ty #[v]).run P w = .ok (.int .i64 n) w := by
 unfold lenT at hK
 split at hK
 ·rename_i n hn
  unfold strLen at hn
  split at hn
  rotate_left
  ·cases hn
  rename_i s
  split at hn
  rotate_left
  ·cases hn
  rename_i hT
  simp only [Option.some.injEq] at hn
  subst hn
  have hu := cvOK_str (hTab.cvs T .str hT)
  cases hx.to_F tab.tid rfl
  exact ⟨_, hK, by simp [Builtin.len_, run_underlying hu, goInt]⟩
 ·exact len_ok hTab.el h hx hK
theorem binP_ok {op : BinOp} {T : Nat} {X Y : Operand} {x y z : AV} {v u : Value} (hx : AR tab.tid c σ x v) (hy : AR tab.tid c σ y u) (hz : binP op x y = .may true z) :
  ∃ r, (do eqGuard op T X Y v u; binOp op T v u : Sem Value).run P w = .ok r w ∧ AR tab.tid c σ z r := by
 have sh : ∀ {p : Int} {k : IntKind} {q : Int}, shG op p q = .may true z → ∃ r, (do eqGuard op T X Y (.int .i64 p) (.int k q); binOp op T (.int .i64 p) (.int k q) : Sem Value).run P w = .ok r w ∧ AR tab.tid c σ z r := by
  intro p k q hz
  have hg : ∀ op, (eqGuard op T X Y (.int .i64 p) (.int k q)).run P w = .ok () w := by intro op; unfold eqGuard; split <;> rfl
  unfold shG at hz
  split at hz <;> simp only [GV.may.injEq, decide_eq_true_eq, reduceCtorEq] at hz
  all_goals
   obtain ⟨hq, hz⟩ := hz
   subst hz
   exact ⟨.int .i64 _, by simp only [Sem.run_bind, hg, Result.andThen_ok, binOp, Op.shift]; rw [if_neg (by omega)]; rfl, AR.of_F tab.tid (.int _)⟩
 unfold binP at hz
 split at hz
 ·cases hx.to_F tab.tid rfl
  cases hy.to_F tab.tid rfl
  exact sh hz
 ·cases hx.to_F tab.tid rfl
  cases hy.to_F tab.tid rfl
  exact sh hz
 ·rename_i p q
  cases hx.to_F tab.tid rfl
  cases hy.to_F tab.tid rfl
  have hg : ∀ op, (eqGuard op T X Y (.string p) (.string q)).run P w = .ok () w := by intro op; unfold eqGuard; split <;> rfl
  split at hz <;> simp only [GV.may.injEq, decide_eq_true_eq, reduceCtorEq] at hz
  obtain ⟨hlen, hz⟩ := hz
  subst hz
  refine ⟨.string (p ++ q), ?_, AR.of_F tab.tid (.str _)⟩
  have hm : ¬ (((p.size + q.size : Nat) : Int) > IntKind.i64.max) := by
   have : IntKind.i64.max = 9223372036854775807 := by decide
   omega
  simp only [Sem.run_bind, hg, Result.andThen_ok, binOp, Op.stringOp]
  rw [if_neg hm]; rfl
 ·cases hz
theorem gK_some {R : Type} {o : GV} {K : AV → Option R} {r : R} (h : gK o K = some r) : ∃ a, (o = .may true a ∨ o = .sure a) ∧ K a = some r := by
 unfold gK at h
 split at h
 ·exact ⟨_, .inr rfl, h⟩
 ·rename_i g a
  cases g
  ·cases h
  ·exact ⟨a, .inl rfl, h⟩
 ·cases h
theorem binG_ok (hTab : TabOK P tab) {op : BinOp} {T : Nat} {X Y : Operand} {x y z : AV} {v u : Value} (hx : AR tab.tid c σ x v) (hy : AR tab.tid c σ y u) (hz : binG tab op T x y = .may true z ∨ binG tab op T x y = .sure z) :
  ∃ r, (do eqGuard op T X Y v u; binOp op T v u : Sem Value).run P w = .ok r w ∧ AR tab.tid c σ z r := by
 unfold binG at hz
 split at hz
 ·rename_i g a hr
  rcases hz with hz | hz
  ·cases hz; exact binP_ok hx hy hr
  ·cases hz
 ·split at hz
  ·rename_i a ha
   rcases hz with hz | hz
   ·cases hz
   ·cases hz; exact binT_ok hTab hx hy ha
  ·rcases hz with hz | hz <;> cases hz
theorem optO_int (h : Rel tab.tid B N c σ a w) {x : Option Operand} : (optO σ.t x = none → x.map a.eval = none) ∧ ∀ n, optO σ.t x = some (.int n) → x.map a.eval = some (.int .i64 n) := by
 cases x with
 | none => exact ⟨fun _ => rfl, fun n h => by cases h⟩
 | some x =>
  refine ⟨fun h => (by cases h), fun n hn => ?_⟩
  have hr := h.getO x
  rw [Option.some.inj hn] at hr
  show some (a.eval x) = _
  generalize a.eval x = v at hr
  cases hr.to_F tab.tid rfl
  rfl
theorem cut_ok (hTab : TabOK P tab) (h : Rel tab.tid B N c σ a w) {T : Nat} {x z : AV} {v : Value} {lo hi : Option Operand} (hx : AR tab.tid c σ x v) (hz : cutG tab T x (optO σ.t lo) (optO σ.t hi) = .may true z) :
  ∃ r, (Instr.sliceAt T v (lo.map a.eval) (hi.map a.eval) none).run P w = .ok r w ∧ AR tab.tid c σ z r := by
 unfold cutG at hz
 split at hz
 rotate_left
 ·cases hz
 rename_i s
 split at hz
 rotate_left
 ·cases hz
 rename_i hT
 have hu := cvOK_str (hTab.cvs T .str hT)
 cases hx.to_F tab.tid rfl
 have l1 := optO_int h (x := lo)
 have l2 := optO_int h (x := hi)
 split at hz <;> simp only [GV.may.injEq, Bool.and_eq_true, decide_eq_true_eq, reduceCtorEq] at hz
 ·rename_i e1 e2
  obtain ⟨⟨h1, h2⟩, rfl⟩ := hz
  rw [l1.1 e1, l2.2 _ e2]
  exact ⟨_, by rw [run_sliceAt_string _ _ _ _ _ _ hu, run_slice_string_to_if _ _ _ _ _ hu, if_pos ⟨h1, h2⟩], AR.of_F tab.tid (.str _)⟩
 ·rename_i e1 e2
  obtain ⟨⟨h1, h2⟩, rfl⟩ := hz
  rw [l1.2 _ e1, l2.1 e2]
  exact ⟨_, by rw [run_sliceAt_string _ _ _ _ _ _ hu, run_slice_string_from_if _ _ _ _ _ hu, if_pos ⟨h1, h2⟩], AR.of_F tab.tid (.str _)⟩
 ·rename_i e1 e2
  obtain ⟨⟨h1, h2, h3⟩, rfl⟩ := hz
  rw [l1.2 _ e1, l2.2 _ e2]
  exact ⟨_, by rw [run_sliceAt_string _ _ _ _ _ _ hu, run_slice_string _ _ _ _ _ _ _ hu h1 h2 h3], AR.of_F tab.tid (.str _)⟩
theorem bytes_ok {S D : Nat} {l : List Int} {v : Value} (hS : cvOKb P S .bytes = true) (hD : cvOKb P D .str = true) (hx : FRel w c.S c.g (.sl .u8 l) v) : (convert S D v).run P w = .ok (.string (strOfL l)) w := by
 have hd := cvOK_str hD
 obtain ⟨e, he, hb⟩ : ∃ e, P.underlying S = some (.slice e) ∧ P.underlying e = some (.int .u8) := by
  unfold cvOKb at hS
  cases hu : P.underlying S with
  | none => rw [hu] at hS; cases hS
  | some d =>
   rw [hu] at hS
   cases d <;> first | (cases hS; done) | skip
   rename_i e
   refine ⟨e, rfl, ?_⟩
   simp only at hS
   split at hS
   ·assumption
   ·cases hS
 generalize hl : AV.sl .u8 l = x at hx
 cases hx with
 | sl0 e1 b n =>
  injection hl with h1 h2
  subst h1
  have h2 := eq_of_heq h2
  subst h2
  cases b with
  | none => exact run_convert_bytes_nil w S e he hb _ _ D hd
  | some ad =>
   rw [run_convert_bytes_string w S D e _ _ _ he hb hd]
   simp [Conv.bytesToString, loadCells]
   rfl
 | sl e1 xs b off n V hc hn hV hm =>
  injection hl with h1 h2
  subst h1
  have h2 := eq_of_heq h2
  subst h2
  refine run_convert_bytes_arg w S e he hb b off _ _ l rfl (fun i hi => ?_) D hd
  have h3 := (hm i 0 hi (by decide)).2
  have h4 := hV i 0 hi (by decide)
  have e5 : (El.enc .u8 (l.getD i (El.dflt .u8))).getD 0 .undef = .ik .u8 (l.getD i 0) := rfl
  rw [e5] at h4
  generalize V i 0 = y at h3 h4
  cases h4
  have e6 : off + i * El.sz .u8 + 0 = off + i := by simp [El.sz]
  rw [e6] at h3
  exact h3
 | _ => cases hl
theorem op_ok (hTab : TabOK P tab) (hcall : CallsOK tab.tid P call) {o : Oper} (hfine : opFine N o = true) (h : Rel tab.tid B N c σ a w) (hs : stepOp tab call τ o σ some = some σ')
  {next : Act → World → Prop} {Q : Exit → Act → World → Prop} (hn : ∀ c' a' w', Rel tab.tid B N c' σ' a' w' → next a' w') : o.wp P a w next Q := by
 obtain ⟨dst, op, type, pos, after, guard⟩ := o
 simp only [opFine, Bool.and_eq_true] at hfine
 obtain ⟨hd0, hst⟩ := hfine
 have hd : ∀ x, dst = some x → x < N := by
  intro x hx; subst hx; exact Nat.le_of_ble_eq_true hd0
 clear hd0
 -- a value that is put, in the world as it is
 have val : ∀ {x : AV} {v : Value}, (execOp a.eval ⟨dst, op, type, pos, after, guard⟩).run P w = .ok (.value v) w → AR tab.tid c σ x v → some (σ.put dst x) = some σ' → Oper.wp P ⟨dst, op, type, pos, after, guard⟩ a w next Q := by
  intro x v hr hx he
  simp only [Option.some.injEq] at he
  subst he
  unfold Oper.wp
  rw [hr]
  exact hn _ _ _ (h.put hd hx)
 -- a value that is put, in another world
 have any : ∀ {v : Value} {w' : World} {c' : Cx}, (execOp a.eval ⟨dst, op, type, pos, after, guard⟩).run P w = .ok (.value v) w' → Rel tab.tid B N c' σ' (a.put dst v) w' → Oper.wp P ⟨dst, op, type, pos, after, guard⟩ a w next Q := by
  intro v w' c' hr hx
  unfold Oper.wp
  rw [hr]
  exact hn _ _ _ hx
 have skp : ∀ {w' : World} {c' : Cx}, (execOp a.eval ⟨dst, op, type, pos, after, guard⟩).run P w = .ok .skip w' → dst = none → Rel tab.tid B N c' σ' a w' → Oper.wp P ⟨dst, op, type, pos, after, guard⟩ a w next Q := by
  intro w' c' hr he hx
  unfold Oper.wp
  rw [hr]
  subst he
  exact hn _ _ _ hx
 cases op with
 | move x => exact val rfl (h.getO x) hs
 | assign x => exact val rfl (h.getO x) hs
 | pick x y z =>
  simp only [stepOp] at hs
  split at hs
  rotate_left
  ·cases hs
  rename_i b hb
  have hr := h.getO x
  rw [hb] at hr
  have hv : a.eval x = .bool b := by generalize a.eval x = v at hr; cases hr.to_F tab.tid rfl; rfl
  cases b
  ·exact val (v := a.eval z) (by simp [execOp, hv, asBool]) (h.getO z) hs
  ·exact val (v := a.eval y) (by simp [execOp, hv, asBool]) (h.getO y) hs
 | alloc T =>
  simp only [stepOp] at hs
  split at hs
  rotate_left
  ·cases hs
  rename_i d
  split at hs
  rotate_left
  ·cases hs
  rename_i ty hb hT
  simp only [Option.some.injEq] at hs
  subst hs
  obtain ⟨v, w', c', r1, r2⟩ := alloc_ok (hTab.ty T ty hT) h (hd d rfl) hb
  exact any (v := v) (w' := w') (by simp [execOp, r1]) r2
 | box T x =>
  simp only [stepOp] at hs
  split at hs
  rotate_left
  ·cases hs
  rename_i d ty hT
  split at hs
  ·split at hs
   rotate_left
   ·cases hs
   rename_i hb hl hc
   simp only [Option.some.injEq] at hs
   subst hs
   have hl := Nat.eq_of_beq_eq_true hl
   obtain ⟨v, w', c', r1, r2⟩ := box_ok (P := P) (T := T) h (hd d rfl) hb (h.getO x) hc (fun e => by rw [e] at hl; have := (hTab.ty T ty hT).pos; simp at hl; omega)
   exact any (v := v) (w' := w') (by simp [execOp, r1]) r2
  ·split at hs
   rotate_left
   ·cases hs
   rename_i ho
   simp only [Option.some.injEq] at hs
   subst hs
   obtain ⟨v, w', c', r1, r2⟩ := cbox_ok (P := P) (T := T) h (hd d rfl) (h.getO x) ho
   exact any (v := v) (w' := w') (by simp [execOp, r1]) r2
 | build T parts =>
  simp only [stepOp] at hs
  split at hs
  rotate_left
  ·cases hs
  rename_i ty hT
  split at hs
  rotate_left
  ·cases hs
  rename_i l hne hf
  obtain ⟨v, r1, r2⟩ := build_ok (hTab.ty T ty hT) h (fun e => by rw [e] at hne; simp at hne) hf
  exact val (v := v) (by simp [execOp, r1]) r2 hs
 | buildSlice T n parts =>
  simp only [stepOp] at hs
  split at hs
  ·split at hs
   rotate_left
   ·cases hs
   rename_i e he hp
   obtain ⟨ii, z, h5, h6, h7, h8, _, _⟩ := (hTab.el e he).info
   have hp0 : parts = #[] := by cases parts; simpa using hp
   subst hp0
   simp only [Option.some.injEq] at hs
   subst hs
   refine any (v := .slice (some ⟨w.heap.size, 0, none⟩) 0 0) (w' := w.alloc (.cells #[] (tab.tid e))) ?_ ((h.new (.cells #[] (tab.tid e)) false).put hd (AR.of_F tab.tid (.nil _)))
   have e0 : Array.range 0 = #[] := rfl
   simp [execOp, Instr.buildSlice, run_underlying (hTab.el e he).und, sizeOf, typeInfo, h5, Instr.fill, newRow, e0]
  ·split at hs
   rotate_left
   ·cases hs
   rename_i hn0 _ _ _ _ e l σ1 he hf hdn
   simp only [Bool.and_eq_true] at hdn
   split at hs
   rotate_left
   ·cases hs
   rename_i xs hx
   obtain ⟨v, w', c', r1, r2, r3⟩ := buildSlice_ok (T := T) (hTab.el e he) h hf hdn.1 (Nat.eq_of_beq_eq_true hdn.2.1) (by rcases Nat.eq_zero_or_pos n with e | e; exact absurd e ‹_›; exact e) (Nat.le_of_ble_eq_true hdn.2.2) hx
   simp only [Option.some.injEq] at hs
   subst hs
   exact any (v := v) (w' := w') (by simp [execOp, r1]) (r2.put hd r3)
 | load T x =>
  simp only [stepOp] at hs
  split at hs
  rotate_left
  ·cases hs
  rename_i ty hT
  split at hs
  rotate_left
  ·cases hs
  rename_i y hl
  obtain ⟨ad, v, r1, r2, r3⟩ := load_ok (hTab.ty T ty hT) h (h.getO x) hl
  exact val (v := v) (by simp [execOp, Instr.loadAt, Instr.sureAddr, r1, r2]) r3 hs
 | store T x y =>
  simp only [stepOp] at hs
  split at hs
  rotate_left
  ·cases hs
  rename_i ty hT
  split at hs
  rotate_left
  ·cases hs
  rename_i σ1 hl
  simp only [Option.some.injEq] at hs
  subst hs
  have hdn : dst = none := by simpa using hst
  have fin : ∀ {ad w' c'}, a.eval x = .pointer (some ad) → (storeVar T ad (a.eval y)).run P w = .ok () w' → Rel tab.tid B N c' σ1 a w' → Oper.wp P ⟨dst, .store T x y, type, pos, after, guard⟩ a w next Q := by
   intro ad w' c' r1 r2 r3
   exact skp (w' := w') (by simp [execOp, Instr.storeAt, Instr.sureAddr, r1, r2]) hdn r3
  by_cases ho : ∃ k w e z i o, getO σ.t x = .opt k w e z i o
  ·obtain ⟨k, ver, e, z, i, o, ho⟩ := ho
   have hp := h.getO x
   rw [ho] at hl hp
   obtain ⟨ad, w', c', r1, r2, r3⟩ := optStore_ok (hTab.ty T ty hT) h hp (h.getO y) hl
   exact fin r1 r2 r3
  ·obtain ⟨ad, w', c', r1, r2, r3⟩ := store_ok (hTab.ty T ty hT) h (h.getO x) (h.getO y) (fun k w e z i o e' => ho ⟨k, w, e, z, i, o, e'⟩) hl
   exact fin r1 r2 r3
 | nilCheck x =>
  simp only [stepOp] at hs
  split at hs
  rotate_left
  ·cases hs
  rename_i y hp
  obtain ⟨ad, r1, r2⟩ := addPt_ok (h.getO x) hp
  have e : ad.add 0 = ad := by unfold Addr.add; split <;> simp_all
  rw [e] at r2
  exact val (v := .pointer (some ad)) (by simp [execOp, r1]) r2 hs
 | binOp op T x y T' =>
  simp only [stepOp] at hs
  obtain ⟨z, hz, hs⟩ := gK_some hs
  obtain ⟨r, r1, r2⟩ := binG_ok hTab (w := w) (X := x) (Y := y) (h.getO x) (h.getO y) hz
  refine val (v := r) ?_ r2 hs
  simp only [execOp, Sem.run_bind] at r1 ⊢
  rw [r1]; rfl
 | unOp op T x =>
  cases op with
  | not =>
   simp only [stepOp] at hs
   split at hs
   rotate_left
   ·cases hs
   rename_i b hb
   have hr := h.getO x
   rw [hb] at hr
   have hv : a.eval x = .bool b := by generalize a.eval x = v at hr; cases hr.to_F tab.tid rfl; rfl
   exact val (v := .bool (!b)) (by simp [execOp, hv, Op.unary]) (AR.of_F tab.tid (.bool _)) hs
  | _ => simp [stepOp] at hs
 | makeFunc fn fst cap =>
  cases fn with
  | func f =>
   simp only [stepOp] at hs
   split at hs
   rotate_left
   ·cases hs
   rename_i o1 o2
   have h1 := args_ok h fst
   have h2 := args_ok h cap
   refine val (v := .func (.func f) (fst.map a.eval) (cap.map a.eval)) (by simp [execOp, Instr.makeFunc]) ?_ hs
   have e1 : (fst.map a.eval) = (fst.toList.map a.eval).toArray := by rw [← Array.toList_map, Array.toArray_toList]
   have e2 : (cap.map a.eval) = (cap.toList.map a.eval).toArray := by rw [← Array.toList_map, Array.toArray_toList]
   rw [e1, e2]
   refine AR.of_F tab.tid (.clos f _ _ _ _ h1.1 h2.1 o1 o2 (fun i hi => ?_) (fun i hi => ?_))
   ·exact (h1.2 i hi).to_F tab.tid (one_fz (one_of_all o1 i hi))
   ·exact (h2.2 i hi).to_F tab.tid (one_fz (one_of_all o2 i hi))
  | _ => simp [stepOp] at hs
 | slice T x lo hi mx =>
  cases mx with
  | some _ => simp [stepOp] at hs
  | none =>
   simp only [stepOp] at hs
   unfold sliceT at hs
   split at hs
   ·rename_i q qa hq
    obtain ⟨z, hz, hs⟩ := gK_some hs
    rcases hz with hz | hz
    rotate_left
    ·cases hz
    cases hz
    obtain ⟨r, r1, r2⟩ := cut_ok hTab h (h.getO x) hq
    exact val (v := r) (by simp [execOp, r1]) r2 hs
   have hb := sliceK_bounds hs
   obtain ⟨y, u, r1, r2, r3⟩ := slice_ok hTab.el h (h.getO x) (boundR h hb.1) (boundR h hb.2) hs
   exact val (v := u) (by simp [execOp, r2]) r3 r1
 | fieldAddr T x f =>
  simp only [stepOp] at hs
  split at hs
  rotate_left
  ·cases hs
  rename_i ty hT
  split at hs
  rotate_left
  ·cases hs
  rename_i n hf
  split at hs
  rotate_left
  ·cases hs
  rename_i y hp
  obtain ⟨ad, r1, r2⟩ := addPt_ok (h.getO x) hp
  exact val (v := .pointer (some (ad.add n))) (by simp [execOp, r1, run_fieldAt (hTab.ty T ty hT) hf]) r2 hs
 | indexAddr T x i =>
  simp only [stepOp] at hs
  split at hs
  rotate_left
  ·cases hs
  rename_i n hi
  have hr := h.getO i
  rw [hi] at hr
  have hv : a.eval i = .int .i64 n := by generalize a.eval i = v at hr; cases hr.to_F tab.tid rfl; rfl
  obtain ⟨y, ad, r1, r2, r3⟩ := idx_ok hTab.el h (h.getO x) hs
  exact val (v := .pointer (some ad)) (by simp [execOp, hv, r2]) r3 r1
 | field T x f =>
  simp only [stepOp] at hs
  split at hs
  rotate_left
  ·cases hs
  rename_i ty l ty' hT hx hT'
  split at hs
  rotate_left
  ·cases hs
  rename_i n q hf hq
  split at hs
  rotate_left
  ·cases hs
  rename_i y he hy
  have he := Nat.eq_of_beq_eq_true he
  subst he
  have hr := h.getO x
  rw [hx] at hr
  obtain ⟨u, r1, r2⟩ := field_ok (P := P) (w := w) (hTab.ty T ty hT) (hTab.ty _ ty' hT') hf hq hr hy
  exact val (v := u) (by simp [execOp, r1]) r2 hs
 | index T x i =>
  simp only [stepOp] at hs
  obtain ⟨z, hz, hs⟩ := gK_some hs
  unfold idxG at hz
  split at hz
  rotate_left
  ·rcases hz with hz | hz <;> cases hz
  rename_i s n hx hi
  split at hz
  rotate_left
  ·rcases hz with hz | hz <;> cases hz
  rename_i hT
  simp only [GV.may.injEq, Bool.and_eq_true, decide_eq_true_eq, reduceCtorEq, or_false] at hz
  obtain ⟨⟨h0, h1⟩, hz⟩ := hz
  subst hz
  have r1 := h.getO x
  have r2 := h.getO i
  rw [hx] at r1
  rw [hi] at r2
  have e1 : a.eval x = .string s := by generalize a.eval x = v at r1; cases r1.to_F tab.tid rfl; rfl
  have e2 : a.eval i = .int .i64 n := by generalize a.eval i = v at r2; cases r2.to_F tab.tid rfl; rfl
  have hu : P.underlying T = some .string := cvOK_str (hTab.cvs T .str hT)
  have hn : n.toNat < s.size := by omega
  refine val (v := .int .u8 (bt s n)) ?_ (AR.of_F tab.tid (.ik _ _)) hs
  simp [execOp, e1, e2, Instr.index, asIntOf, run_underlying hu, h0, bt, hn]
 | convert S D x =>
  simp only [stepOp] at hs
  split at hs
  rotate_left
  ·cases hs
  rename_i z hz
  have key : ∀ {k' k0 k : IntKind} {n : Int}, a.eval x = .int k' n → findN tab.cvs S = some (.ik k0) → findN tab.cvs D = some (.ik k) → z = mkI k (k.wrap n) → Oper.wp P ⟨dst, .convert S D x, type, pos, after, guard⟩ a w next Q := by
   intro k' k0 k n e1 hS hD hzz
   have hu1 := cvOK_ik (hTab.cvs S _ hS)
   have hu2 := cvOK_ik (hTab.cvs D _ hD)
   refine val (v := .int k (k.wrap n)) ?_ (x := z) ?_ hs
   ·simp [execOp, e1, convert, run_underlying hu1, run_underlying hu2, Conv.intToInt]
   ·rw [hzz]; unfold mkI; split
    ·exact AR.of_F tab.tid (.int _)
    ·exact AR.of_F tab.tid (.ik _ _)
  unfold cvAV at hz
  split at hz
  ·rename_i n hx
   split at hz
   rotate_left
   ·cases hz
   rename_i hS hD
   simp only [Option.some.injEq] at hz
   have r1 := h.getO x
   rw [hx] at r1
   exact key (k' := .i64) (by generalize a.eval x = v at r1; cases r1.to_F tab.tid rfl; rfl) hS hD hz.symm
  ·rename_i k' n hx
   split at hz
   rotate_left
   ·cases hz
   rename_i hS hD
   simp only [Option.some.injEq] at hz
   have r1 := h.getO x
   rw [hx] at r1
   exact key (k' := k') (by generalize a.eval x = v at r1; cases r1.to_F tab.tid rfl; rfl) hS hD hz.symm
  ·rename_i l hx
   split at hz
   rotate_left
   ·cases hz
   rename_i hS hD
   simp only [Option.some.injEq] at hz
   subst hz
   have r1 := h.getO x
   rw [hx] at r1
   have r2 := bytes_ok (P := P) (w := w) (c := c) (hTab.cvs S _ hS) (hTab.cvs D _ hD) (by have := r1.to_F tab.tid rfl; rw [h.hw] at this; exact this)
   exact val (v := .string (strOfL l)) (by simp [execOp, r2]) (AR.of_F tab.tid (.str _)) hs
  ·cases hz
 | extract x i =>
  simp only [stepOp] at hs
  split at hs
  rotate_left
  ·cases hs
  rename_i l hx
  have hr := h.getO x
  rw [hx] at hr
  have hF : FRel c.w c.S c.g (.tup l) (a.eval x) := hr
  split at hs
  rotate_left
  ·cases hs
  rename_i y hy
  have hlt := (List.getElem?_eq_some_iff.1 hy).1
  generalize hv : a.eval x = v at hF
  cases hF with
  | tup _ vs hl hA =>
   have h1 := hA i hlt
   rw [getD_of_get? hy] at h1
   refine val (v := vs.getD i Go.undef) ?_ (AR.of_F tab.tid h1) hs
   have h2 : i < vs.length := by omega
   simp [execOp, hv, Instr.extract, List.getElem?_eq_getElem h2]
 | call cl =>
  obtain ⟨callee, args, argTypes⟩ := cl
  have hlist : ∀ {x : List Operand}, args.toList = x → args = x.toArray := fun h => by rw [← h, Array.toArray_toList]
  have hts : ∀ {x : List Nat}, argTypes.toList = x → argTypes = x.toArray := fun h => by rw [← h, Array.toArray_toList]
  cases callee with
  | invoke r m => simp [stepOp] at hs
  | builtin b =>
   simp only [stepOp] at hs
   unfold stepBuiltin at hs
   split at hs
   ·split at hs
    rotate_left
    ·cases hs
    rename_i x T hA hT
    obtain ⟨n, r1, r2⟩ := lenT_ok (T := T) (ty := type) hTab h (h.getO x) hs
    have := hlist hA; subst this
    have := hts hT; subst this
    exact val (v := .int .i64 n) (by simp [execOp, resolve, invoke, builtin, r2]) (AR.of_F tab.tid (.int n)) r1
   ·split at hs
    rotate_left
    ·cases hs
    rename_i x y T T' d hA hT hdd
    simp only at hdd
    subst hdd
    split at hs
    rotate_left
    ·cases hs
    rename_i hb
    have hb := Nat.eq_of_beq_eq_true hb
    subst hb
    obtain ⟨σ1, v', w', c', r1, r2, r3⟩ := append_ok (P := P) (T := T) (ty := type) hTab.el h (hd d rfl) (h.getO x) (h.getO y) hs
    have := hlist hA; subst this
    have := hts hT; subst this
    simp only [Option.some.injEq] at r1
    subst r1
    exact any (v := v') (w' := w') (by simp [execOp, resolve, invoke, builtin, r2]) r3
   ·split at hs
    rotate_left
    ·cases hs
    rename_i x y hA
    split at hs
    rotate_left
    ·cases hs
    rename_i p q hp hq
    have := hlist hA; subst this
    have r1 := h.getO x
    have r2 := h.getO y
    rw [hp] at r1
    rw [hq] at r2
    have e1 : a.eval x = .int .i64 p := by generalize a.eval x = v at r1; cases r1.to_F tab.tid rfl; rfl
    have e2 : a.eval y = .int .i64 q := by generalize a.eval y = v at r2; cases r2.to_F tab.tid rfl; rfl
    exact val (v := .int .i64 (max p q)) (by simp [execOp, resolve, invoke, builtin, e1, e2, max_ok]) (AR.of_F tab.tid (.int _)) hs
   ·split at hs
    rotate_left
    ·cases hs
    rename_i x y hA
    split at hs
    rotate_left
    ·cases hs
    rename_i p q hp hq
    have := hlist hA; subst this
    have r1 := h.getO x
    have r2 := h.getO y
    rw [hp] at r1
    rw [hq] at r2
    have e1 : a.eval x = .int .i64 p := by generalize a.eval x = v at r1; cases r1.to_F tab.tid rfl; rfl
    have e2 : a.eval y = .int .i64 q := by generalize a.eval y = v at r2; cases r2.to_F tab.tid rfl; rfl
    exact val (v := .int .i64 (min p q)) (by simp [execOp, resolve, invoke, builtin, e1, e2, min_ok]) (AR.of_F tab.tid (.int _)) hs
   ·cases hs
  | value fo =>
   simp only [stepOp] at hs
   unfold stepCall at hs
   have hargs := args_ok h args
   split at hs
   ·rename_i f
    obtain ⟨r1, r2⟩ := callK_ok (va := args.toList.map a.eval) (vf := []) (vc := []) hcall h (o := ⟨dst, _, type, pos, after, guard⟩) hd (.nil _ _ _) hargs.1 hargs.2 (.nil _ _ _) (fun _ => ⟨rfl, rfl⟩) hs
     (R' := fun e w'' => match e with | .returned v => next (a.put dst v) w'' | .panicked ch => Q (.panic ch) a w'' | .outgrown => LetsOut Q) (fun u w' c' hR => hn _ _ _ hR)
    unfold Oper.wp
    have e1 : (execOp a.eval ⟨dst, .call ⟨.value (.func f), args, argTypes⟩, type, pos, after, guard⟩).run P w = .ok (.enter f (args.toList.map a.eval).toArray) w := by
     have e2 : args.map a.eval = (args.toList.map a.eval).toArray := by rw [← Array.toList_map, Array.toArray_toList]
     simp [execOp, resolve, Act.eval, Deferred.ofValue, invoke, run_callFunc r1, e2]
    rw [e1]
    simp only [List.nil_append, List.append_nil] at r2
    refine r2.mono fun e w'' he => ?_
    cases e <;> exact he
   ·split at hs
    rotate_left
    ·cases hs
    rename_i x hx _ f fst cap hcl
    have hr := h.getO fo
    rw [hcl] at hr
    have hF : FRel c.w c.S c.g (.clos f fst cap) (a.eval fo) := hr
    generalize hv : a.eval fo = v at hF
    cases hF with
    | clos _ _ _ vf vc g1 g2 o1 o2 g3 g4 =>
     obtain ⟨r1, r2⟩ := callK_ok (va := args.toList.map a.eval) (vf := vf) (vc := vc) hcall h (o := ⟨dst, _, type, pos, after, guard⟩) hd ⟨g1, g3⟩ hargs.1 hargs.2 ⟨g2, g4⟩ (fun h => by cases h) hs
      (R' := fun e w'' => match e with | .returned v => next (a.put dst v) w'' | .panicked ch => Q (.panic ch) a w'' | .outgrown => LetsOut Q) (fun u w' c' hR => hn _ _ _ hR)
     unfold Oper.wp
     have e1 : (execOp a.eval ⟨dst, .call ⟨.value fo, args, argTypes⟩, type, pos, after, guard⟩).run P w = .ok (.enter f (vf ++ (args.toList.map a.eval ++ vc)).toArray) w := by
      have e2 : args.map a.eval = (args.toList.map a.eval).toArray := by rw [← Array.toList_map, Array.toArray_toList]
      simp [execOp, resolve, hv, Deferred.ofValue, invoke, run_callFunc r1, e2]
     rw [e1]
     refine r2.mono fun e w'' he => ?_
     cases e <;> exact he
 | _ => simp [stepOp] at hs
end
end Go.AI
namespace Go.AI
section
variable {R : Type} {tab : Tab} {call : (τ : STy) → Nat → List AV → τ.T → Option (AV × τ.T)} {τ : STy}
theorem idxK_bind (E : Option El) (σ : St) (x : AV) (i : Int) (f : AV → St) (K : St → Option R) : idxK E σ x i (fun a => K (f a)) = (idxK E σ x i fun a => some (f a)).bind K := by
 unfold idxK; repeat' split
 all_goals rfl
theorem lenK_bind (E : Option El) (σ : St) (x : AV) (f : AV → St) (K : St → Option R) : lenK E σ x (fun a => K (f a)) = (lenK E σ x fun a => some (f a)).bind K := by
 unfold lenK; repeat' split
 all_goals rfl
theorem lenT_bind (T : Nat) (σ : St) (x : AV) (f : AV → St) (K : St → Option R) : lenT tab T σ x (fun a => K (f a)) = (lenT tab T σ x fun a => some (f a)).bind K := by
 unfold lenT
 cases strLen tab T x with
 | some n => rfl
 | none => exact lenK_bind _ _ _ _ _
theorem appendK_bind (E : Option El) (σ : St) (d : Nat) (x y : AV) (K : St → Option R) : appendK E σ d x y K = (appendK E σ d x y some).bind K := by
 unfold appendK; repeat' split
 all_goals rfl
theorem sliceK_bind (E : Option El) (σ : St) (x : AV) (lo hi : Option AV) (f : AV → St) (K : St → Option R) : sliceK E σ x lo hi (fun a => K (f a)) = (sliceK E σ x lo hi fun a => some (f a)).bind K := by
 unfold sliceK; repeat' split
 all_goals rfl
theorem gK_bind (o : GV) (f : AV → St) (K : St → Option R) : gK o (fun a => K (f a)) = (gK o fun a => some (f a)).bind K := by
 unfold gK; repeat' split
 all_goals rfl
theorem sliceT_bind (T : Nat) (σ : St) (x : AV) (lo hi : Option AV) (f : AV → St) (K : St → Option R) : sliceT tab T σ x lo hi (fun a => K (f a)) = (sliceT tab T σ x lo hi fun a => some (f a)).bind K := by
 unfold sliceT
 cases cutG tab T x lo hi with
 | may g a => exact gK_bind _ _ _
 | _ => exact sliceK_bind _ _ _ _ _ _ _
theorem gotK_bind (σ : St) (d : Option Nat) (h : Sh) (x : h.T) (K : St → Option R) : gotK σ d h x K = (gotK σ d h x some).bind K := by
 unfold gotK; split
 ·split <;> rfl
 ·rfl
theorem bind_gotK {Q : Type} (o : Option (Q)) (f : Q → St) (d : Option Nat) (h : Sh) (x : Q → h.T) (K : St → Option R) : (o.bind fun r => gotK (f r) d h (x r) K) = (o.bind fun r => gotK (f r) d h (x r) some).bind K := by
 cases o with
 | none => rfl
 | some q => exact gotK_bind _ _ _ _ _
theorem callK_bind (σ : St) (o : Oper) (f : Nat) (fst args cap : List AV) (static : Bool) (K : St → Option R) : callK tab call τ σ o f fst args cap static K = (callK tab call τ σ o f fst args cap static some).bind K := by
 unfold callK
 split
 ·split
  ·split
   ·split
    ·exact bind_gotK _ _ _ _ _ _
    ·rfl
   ·rfl
  ·rfl
 ·generalize (if static = true then tab.sty f else τ) = τ1
  split
  ·exact bind_gotK _ _ _ _ _ _
  ·split
   ·split
    ·exact bind_gotK _ _ _ _ _ _
    ·rfl
   ·rfl
theorem stepBuiltin_bind (o : Oper) (b : Builtin) (args : List Operand) (ts : List Nat) (σ : St) (K : St → Option R) : stepBuiltin tab o b args ts σ K = (stepBuiltin tab o b args ts σ some).bind K := by
 unfold stepBuiltin
 split
 ·split
  ·exact lenT_bind _ _ _ _ _
  ·rfl
 ·split
  ·split
   ·exact appendK_bind _ _ _ _ _ _
   ·rfl
  ·rfl
 ·repeat' split
  all_goals rfl
 ·repeat' split
  all_goals rfl
 ·rfl
theorem stepCall_bind (o : Oper) (f : Operand) (args : List Operand) (σ : St) (K : St → Option R) : stepCall tab call τ o f args σ K = (stepCall tab call τ o f args σ some).bind K := by
 unfold stepCall
 split
 ·exact callK_bind _ _ _ _ _ _ _ _
 ·split
  ·exact callK_bind _ _ _ _ _ _ _ _
  ·rfl
theorem stepOp_bind (o : Oper) (σ : St) (K : St → Option R) : stepOp tab call τ o σ K = (stepOp tab call τ o σ some).bind K := by
 obtain ⟨dst, op, type, pos, after, guard⟩ := o
 cases op with
 | slice T x lo hi mx =>
  cases mx with
  | none => exact sliceT_bind _ _ _ _ _ _ _
  | some _ => rfl
 | binOp op T x y _ => exact gK_bind _ _ _
 | index T x i => exact gK_bind _ _ _
 | indexAddr T x i =>
  simp only [stepOp]
  split
  ·exact idxK_bind _ _ _ _ _ _
  ·rfl
 | call cl =>
  simp only [stepOp]
  split
  ·exact stepBuiltin_bind _ _ _ _ _ _
  ·exact stepCall_bind _ _ _ _ _
  ·rfl
 | makeFunc fn fst cap =>
  cases fn <;> simp only [stepOp]
  ·repeat' split
   all_goals rfl
  all_goals rfl
 | unOp op T x =>
  cases op <;> simp only [stepOp]
  all_goals first | rfl | (repeat' split)
  all_goals rfl
 | _ => simp only [stepOp] <;> (repeat' split) <;> rfl
end
end Go.AI
namespace Go.AI
section
variable {tab : Tab} {call : (τ : STy) → Nat → List AV → τ.T → Option (AV × τ.T)} {τ : STy} {σ σ' σ1 σ2 : St}
structure HE (σ σ' : St) : Prop where
 b : ∀ k, getB σ'.b k = getB σ.b k
 s : σ'.s = σ.s
 v : σ'.v = σ.v
 c : σ'.c = σ.c
 fr : σ'.fr = σ.fr
structure Eqv (σ σ' : St) : Prop where
 t : ∀ i, getT σ'.t i = getT σ.t i
 h : HE σ σ'
theorem HE.refl (σ : St) : HE σ σ := ⟨fun _ => rfl, rfl, rfl, rfl, rfl⟩
theorem HE.symm (h : HE σ σ') : HE σ' σ := ⟨fun k => (h.b k).symm, h.s.symm, h.v.symm, h.c.symm, h.fr.symm⟩
theorem HE.trans (h : HE σ σ1) (k : HE σ1 σ2) : HE σ σ2 := ⟨fun i => (k.b i).trans (h.b i), k.s.trans h.s, k.v.trans h.v, k.c.trans h.c, k.fr.trans h.fr⟩
theorem Eqv.refl (σ : St) : Eqv σ σ := ⟨fun _ => rfl, .refl σ⟩
theorem Eqv.symm (h : Eqv σ σ') : Eqv σ' σ := ⟨fun k => (h.t k).symm, h.h.symm⟩
theorem Eqv.trans (h : Eqv σ σ1) (k : Eqv σ1 σ2) : Eqv σ σ2 := ⟨fun i => (k.t i).trans (h.t i), h.h.trans k.h⟩
theorem HE.put (h : HE σ σ') (d d' : Option Nat) (x y : AV) : HE (σ.put d x) (σ'.put d' y) := by
 refine ⟨fun k => ?_, ?_, ?_, ?_, ?_⟩
 ·rw [put_b, put_b]; exact h.b k
 ·rw [put_s, put_s]; exact h.s
 ·rw [put_v, put_v]; exact h.v
 ·rw [put_c, put_c]; exact h.c
 ·rw [put_fr, put_fr]; exact h.fr
theorem Rel.eqv {tid : El → Nat} {B : Base} {N : Nat} {c : Cx} {a : Act} {w : World} (e : Eqv σ σ') (h : Rel tid B N c σ a w) : Rel tid B N c σ' a w := by
 have st : Step c σ c σ' := ⟨rfl, fun _ _ _ _ h => h, fun _ _ h => h, by rw [e.h.c]; exact Nat.le_refl _, fun k hk => ⟨by rw [e.h.b]; exact hk, rfl⟩, fun k => .inl ⟨by rw [e.h.v], rfl, fun _ _ => rfl⟩⟩
 refine { hw := h.hw, ds := h.ds, n := h.n, t := fun i => by rw [e.t]; exact (h.t i).step st, b := fun k hk => ?_, s := fun hs => ?_, ver := fun k => by rw [e.h.v, e.h.c]; exact h.ver k, fz := by rw [e.h.fr]; exact h.fz, own := fun k b hk hb => ?_, inj := by rw [e.h.fr]; exact h.inj, box := fun k hk => ?_, gg := by rw [e.h.s]; exact h.gg, old := h.old, grow := h.grow, stsz := h.stsz, keep := h.keep }
 ·rw [e.h.b] at hk ⊢; exact (h.b k hk).step st rfl
 ·rw [e.h.s] at hs ⊢; exact (h.s hs).step st rfl
 ·rw [e.h.fr] at hk
  have r := h.own k b hk hb
  exact ⟨r.1, r.2.1, r.2.2.1, by rw [e.h.s]; exact r.2.2.2.1, fun j hj => r.2.2.2.2 j (by rw [← e.h.b]; exact hj)⟩
 ·rw [e.h.b] at hk
  have r := h.box k hk
  exact ⟨r.1, r.2.1, by rw [e.h.s]; exact r.2.2.1, fun j hj => r.2.2.2 j (by rw [← e.h.b]; exact hj)⟩
def valBuiltin (tab : Tab) (b : Builtin) (args : List Operand) (ts : List Nat) (σ : St) : Option AV :=
 match b with
 | .len => match args, ts with | [x], [T] => lenT tab T σ (getO σ.t x) some | _, _ => none
 | .max => match args with | [x, y] => (match getO σ.t x, getO σ.t y with | .int a, .int b => some (.int (max a b)) | _, _ => none) | _ => none
 | .min => match args with | [x, y] => (match getO σ.t x, getO σ.t y with | .int a, .int b => some (.int (min a b)) | _, _ => none) | _ => none
 | _ => none
def valOp (tab : Tab) (o : Oper) (σ : St) : Option AV :=
 match o.op with
 | .move x => some (getO σ.t x)
 | .assign x => some (getO σ.t x)
 | .pick c a b => match getO σ.t c with | .bool x => if x then some (getO σ.t a) else some (getO σ.t b) | _ => none
 | .build T parts =>
  match tab.ty T with
  | some ty => match ty.offs.isEmpty, fillAll ty.offs ty.szs (parts.toList.map fun p => (p.1, getO σ.t p.2)) ty.zero with | false, some c => some (.agg c) | _, _ => none
  | none => none
 | .buildSlice T n parts =>
  match n with
  | 0 => match tab.elOf T, parts.toList with | some _, [] => some .nil | _, _ => none
  | n =>
   match tab.elOf T, dense parts.toList 0 && (Nat.beq parts.toList.length n && Nat.ble n 4096) with
   | some e, true => match decAll e (parts.toList.map fun p => getO σ.t p.2) with | some xs => some (.sl e xs) | none => none
   | _, _ => none
 | .load T p => match tab.ty T with | some ty => loadAV σ ty (getO σ.t p) | none => none
 | .nilCheck x => addPt (getO σ.t x) 0
 | .binOp op T x y _ => gK (binG tab op T (getO σ.t x) (getO σ.t y)) some
 | .unOp .not _ x => match getO σ.t x with | .bool b => some (.bool (!b)) | _ => none
 | .makeFunc (.func f) fst cap =>
  match (fst.toList.map (getO σ.t)).all AV.one, (cap.toList.map (getO σ.t)).all AV.one with
  | true, true => some (.clos f (fst.toList.map (getO σ.t)) (cap.toList.map (getO σ.t)))
  | _, _ => none
 | .slice T x lo hi none => sliceT tab T σ (getO σ.t x) (optO σ.t lo) (optO σ.t hi) some
 | .fieldAddr T x f =>
  match tab.ty T with
  | some ty => match ty.offs[f]? with | some n => addPt (getO σ.t x) n | none => none
  | none => none
 | .indexAddr T x i => match getO σ.t i with | .int n => idxK (tab.elOf T) σ (getO σ.t x) n some | _ => none
 | .field T x f =>
  match tab.ty T, getO σ.t x, tab.ty o.type with
  | some ty, .agg l, some ty' =>
   match ty.offs[f]?, ty.ftys[f]? with
   | some n, some q => match Nat.beq q o.type, readAt ty' l n with | true, some a => some a | _, _ => none
   | _, _ => none
  | _, _, _ => none
 | .index T x i => gK (idxG tab T (getO σ.t x) (getO σ.t i)) some
 | .convert S D x => cvAV tab S D (getO σ.t x)
 | .extract x i => match getO σ.t x with | .tup l => l[i]? | _ => none
 | .call cl =>
  match cl.callee with
  | .builtin b => valBuiltin tab b cl.args.toList cl.argTypes.toList σ
  | _ => none
 | _ => none
def isVal (o : Oper) (σ : St) : Bool :=
 match o.op with
 | .alloc _ | .box .. | .store .. => false
 | .buildSlice _ _ parts => parts.toList.all fun p => (getO σ.t p.2).fz
 | .call cl => (match cl.callee with | .builtin b => (match b with | .append => false | _ => true) | _ => false)
 | _ => true
theorem idxK_map (E : Option El) (σ : St) (x : AV) (i : Int) (f : AV → St) : idxK E σ x i (fun a => some (f a)) = (idxK E σ x i some).map f := by
 unfold idxK; repeat' split
 all_goals rfl
theorem lenK_map (E : Option El) (σ : St) (x : AV) (f : AV → St) : lenK E σ x (fun a => some (f a)) = (lenK E σ x some).map f := by
 unfold lenK; repeat' split
 all_goals rfl
theorem lenT_map (T : Nat) (σ : St) (x : AV) (f : AV → St) : lenT tab T σ x (fun a => some (f a)) = (lenT tab T σ x some).map f := by
 unfold lenT
 cases strLen tab T x with
 | some n => rfl
 | none => exact lenK_map _ _ _ _
theorem sliceK_map (E : Option El) (σ : St) (x : AV) (lo hi : Option AV) (f : AV → St) : sliceK E σ x lo hi (fun a => some (f a)) = (sliceK E σ x lo hi some).map f := by
 unfold sliceK; repeat' split
 all_goals rfl
theorem gK_map (o : GV) (f : AV → St) : gK o (fun a => some (f a)) = (gK o some).map f := by
 unfold gK; repeat' split
 all_goals rfl
theorem sliceT_map (T : Nat) (σ : St) (x : AV) (lo hi : Option AV) (f : AV → St) : sliceT tab T σ x lo hi (fun a => some (f a)) = (sliceT tab T σ x lo hi some).map f := by
 unfold sliceT
 cases cutG tab T x lo hi with
 | may g a => exact gK_map _ _
 | _ => exact sliceK_map _ _ _ _ _ _
theorem freezeL_fz : ∀ {l : List AV}, l.all AV.one = true → freezeL l σ = some (l, σ)
 | [], _ => rfl
 | x :: l, h => by
  simp only [List.all_cons, Bool.and_eq_true] at h
  have h1 : freezeC σ x = some (x, σ) := by
   unfold freezeC
   rw [AV.cell_of_one h.1]
   cases x <;> first | rfl | (simp [AV.one] at h; done)
  simp only [freezeL, h1, freezeL_fz h.2]
theorem freeze_fz {x : AV} (h : x.fz = true) : freeze σ x = some (x, σ) := by
 cases x with
 | agg l => simp only [freeze, freezeL_fz h]
 | _ => first | rfl | (simp [AV.fz, AV.fz1, AV.one] at h; done)
theorem freezeAll_fz : ∀ {l : List AV}, l.all AV.fz = true → freezeAll l σ = some (l, σ)
 | [], _ => rfl
 | x :: l, h => by
  simp only [List.all_cons, Bool.and_eq_true] at h
  simp only [freezeAll, freeze_fz h.1, freezeAll_fz h.2]
theorem stepOp_val {o : Oper} (hv : isVal o σ = true) : stepOp tab call τ o σ some = (valOp tab o σ).map (σ.put o.dst) := by
 obtain ⟨dst, op, type, pos, after, guard⟩ := o
 cases op with
 | slice T x lo hi mx =>
  cases mx with
  | none => exact sliceT_map _ _ _ _ _ _
  | some _ => rfl
 | indexAddr T x i =>
  simp only [stepOp, valOp]
  cases getO σ.t i <;> first | exact idxK_map _ _ _ _ _ | rfl
 | alloc _ => simp [isVal] at hv
 | box _ _ => simp [isVal] at hv
 | store _ _ _ => simp [isVal] at hv
 | buildSlice T n parts =>
  have hf : freezeAll (parts.toList.map fun p => getO σ.t p.2) σ = some (parts.toList.map (fun p => getO σ.t p.2), σ) := freezeAll_fz (by simpa [isVal, List.all_map] using hv)
  simp only [stepOp, valOp, hf]
  cases n with
  | zero => cases tab.elOf T <;> cases parts.toList <;> rfl
  | succ n =>
   cases tab.elOf T with
   | none => rfl
   | some e =>
    cases hd : dense parts.toList 0 && (Nat.beq parts.toList.length (n + 1) && Nat.ble (n + 1) 4096) with
    | false => simp only [hd]; rfl
    | true =>
     simp only [hd]
     cases decAll e (parts.toList.map fun p => getO σ.t p.2) <;> rfl
 | call cl =>
  simp only [stepOp, valOp]
  cases hc : cl.callee with
  | builtin b =>
   cases b <;> simp only [stepBuiltin, valBuiltin] <;> (try rfl)
   ·simp [isVal, hc] at hv
   ·rcases cl.args.toList with _ | ⟨x, _ | ⟨y, l⟩⟩ <;> rcases cl.argTypes.toList with _ | ⟨T, _ | ⟨T', l'⟩⟩ <;> first | exact lenT_map _ _ _ _ | rfl
   ·rcases cl.args.toList with _ | ⟨x, _ | ⟨y, _ | ⟨z, l⟩⟩⟩ <;> first | rfl | skip
    dsimp only
    generalize getO σ.t x = u
    generalize getO σ.t y = v
    cases u <;> cases v <;> rfl
   ·rcases cl.args.toList with _ | ⟨x, _ | ⟨y, _ | ⟨z, l⟩⟩⟩ <;> first | rfl | skip
    dsimp only
    generalize getO σ.t x = u
    generalize getO σ.t y = v
    cases u <;> cases v <;> rfl
  | _ => simp [isVal, hc] at hv
 | makeFunc fn fst cap =>
  cases fn <;> simp only [stepOp, valOp]
  ·cases (fst.toList.map (getO σ.t)).all AV.one <;> cases (cap.toList.map (getO σ.t)).all AV.one <;> rfl
  all_goals rfl
 | unOp op T x =>
  cases op <;> simp only [stepOp, valOp]
  all_goals first | rfl | (cases getO σ.t x <;> rfl)
 | pick c a b =>
  simp only [stepOp, valOp]
  cases getO σ.t c <;> try rfl
  rename_i q
  cases q <;> rfl
 | build T parts =>
  simp only [stepOp, valOp]
  cases tab.ty T with
  | none => rfl
  | some ty =>
   dsimp only
   generalize ty.offs.isEmpty = u
   generalize fillAll ty.offs ty.szs (parts.toList.map fun p => (p.1, getO σ.t p.2)) ty.zero = v
   cases u <;> cases v <;> rfl
 | load T p =>
  simp only [stepOp, valOp]
  cases tab.ty T with
  | none => rfl
  | some ty =>
   dsimp only
   generalize loadAV σ ty (getO σ.t p) = v
   cases v <;> rfl
 | nilCheck x =>
  simp only [stepOp, valOp]
  cases addPt (getO σ.t x) 0 <;> rfl
 | binOp op T x y T' =>
  exact gK_map _ _
 | fieldAddr T x f =>
  simp only [stepOp, valOp]
  cases tab.ty T with
  | none => rfl
  | some ty =>
   dsimp only
   generalize ty.offs[f]? = u
   cases u with
   | none => rfl
   | some n =>
    dsimp only
    generalize addPt (getO σ.t x) n = v
    cases v <;> rfl
 | field T x f =>
  simp only [stepOp, valOp]
  cases tab.ty T with
  | none => rfl
  | some ty =>
   cases tab.ty type with
   | none => cases getO σ.t x <;> rfl
   | some ty' =>
    generalize getO σ.t x = z
    cases z <;> try rfl
    rename_i l
    dsimp only
    generalize ty.offs[f]? = u
    generalize ty.ftys[f]? = v
    cases u <;> cases v <;> try rfl
    rename_i n q
    dsimp only
    generalize Nat.beq q type = u
    generalize readAt ty' l n = v
    cases u <;> cases v <;> rfl
 | index T x i =>
  exact gK_map _ _
 | convert S D x =>
  simp only [stepOp, valOp]
  cases cvAV tab S D (getO σ.t x) <;> rfl
 | extract x i =>
  simp only [stepOp, valOp]
  generalize getO σ.t x = z
  cases z <;> try rfl
  rename_i l
  dsimp only
  generalize l[i]? = u
  cases u <;> rfl
 | move x => rfl
 | assign x => rfl
 | _ => rfl
end
end Go.AI
namespace Go.AI
section
variable {tab : Tab} {call : (τ : STy) → Nat → List AV → τ.T → Option (AV × τ.T)} {τ : STy} {σ σ' σ1 σ2 : St}
def Looks (o : Oper) (σ σ' : St) : Prop := ∀ x, x ∈ o.op.operands.toList → getO σ'.t x = getO σ.t x
def Agree (σ σ' : St) : Acc → Prop
 | .none_ => True
 | .plc => True
 | .rdB k => getB σ'.b k = getB σ.b k
 | .rdF i n => σ'.s.length = σ.s.length ∧ ∀ j, i ≤ j → j < i + n → σ'.s.getD j .undef = σ.s.getD j .undef
 | .rdK k => getV σ'.v k = getV σ.v k
 | _ => HE σ σ'
theorem HE.agree (h : HE σ σ') (A : Acc) : Agree σ σ' A := by
 cases A <;> first
  | trivial
  | exact h.b _
  | exact ⟨by rw [h.s], fun _ _ _ => by rw [h.s]⟩
  | exact congrArg (fun v => getV v _) h.v
  | exact h
theorem getD_ext {l m : List AV} (h1 : l.length = m.length) {i n : Nat} (h2 : ∀ j, i ≤ j → j < i + n → l.getD j .undef = m.getD j .undef) : (l.drop i).take n = (m.drop i).take n := by
 apply List.ext_getElem?
 intro j
 rw [get?_piece, get?_piece]
 split
 ·rename_i hj
  have h3 := h2 (i + j) (by omega) (by omega)
  by_cases hl : i + j < l.length
  ·rw [get?_of_lt .undef hl, get?_of_lt .undef (by omega), h3]
  ·rw [List.getElem?_eq_none (by omega), List.getElem?_eq_none (by omega)]
 ·rfl
theorem readAt_congr {ty : Ty} {l m : List AV} {i : Nat} (hp : 0 < ty.zero.length) (h1 : l.length = m.length) (h2 : ∀ j, i ≤ j → j < i + ty.zero.length → l.getD j .undef = m.getD j .undef) : readAt ty l i = readAt ty m i := by
 unfold readAt
 rw [h1, getD_ext h1 h2, h2 i (Nat.le_refl _) (by omega)]
theorem cur_congr {k w : Nat} (h : getV σ'.v k = getV σ.v k) : σ'.cur k w = σ.cur k w := by unfold St.cur; rw [h]
theorem loadAV_congr {ty : Ty} (hp : 0 < ty.zero.length) {p : AV} (h : Agree σ σ' (match p with
  | .lbox k _ => .rdB k
  | .rdr i => .rdF i ty.zero.length
  | .cbox _ => .none_
  | .spt .. => .none_
  | .vpt k .. => .rdK k
  | .opt k .. => .rdK k
  | _ => .big)) : loadAV σ' ty p = loadAV σ ty p := by
 cases p with
 | lbox k i => simp only [loadAV]; rw [show getB σ'.b k = getB σ.b k from h]
 | rdr i => exact readAt_congr hp h.1 h.2
 | vpt k w e x o => simp only [loadAV]; rw [cur_congr h]
 | opt k w e x i o => simp only [loadAV]; rw [cur_congr h]
 | _ => rfl
theorem lst_congr {x : AV} (h : Agree σ σ' (accLst x)) : (∀ k w e l, x = .own k w e l → σ'.cur k w = σ.cur k w) ∧ (∀ k w e l, x = .vw k w e l → σ'.cur k w = σ.cur k w) :=
 ⟨fun k w e l hx => by subst hx; exact cur_congr h, fun k w e l hx => by subst hx; exact cur_congr h⟩
theorem lenK_congr {R : Type} {E : Option El} {x : AV} {K : AV → Option R} (h : Agree σ σ' (accLst x)) : lenK E σ' x K = lenK E σ x K := by
 obtain ⟨h1, h2⟩ := lst_congr h
 unfold lenK
 cases E with
 | none => rfl
 | some e =>
  cases x with
  | own k w e l => simp only [h1 k w e l rfl]
  | vw k w e l => simp only [h2 k w e l rfl]
  | _ => rfl
theorem lenT_congr {R : Type} {T : Nat} {x : AV} {K : AV → Option R} (h : Agree σ σ' (accLst x)) : lenT tab T σ' x K = lenT tab T σ x K := by
 unfold lenT
 cases strLen tab T x with
 | some n => rfl
 | none => exact lenK_congr h
theorem idxK_congr {R : Type} {E : Option El} {x : AV} {i : Int} {K : AV → Option R} (h : Agree σ σ' (accLst x)) : idxK E σ' x i K = idxK E σ x i K := by
 obtain ⟨h1, h2⟩ := lst_congr h
 unfold idxK
 cases x with
 | own k w e l => simp only [h1 k w e l rfl]
 | vw k w e l => simp only [h2 k w e l rfl]
 | _ => rfl
theorem sliceK_congr {R : Type} {E : Option El} {x : AV} {lo hi : Option AV} {K : AV → Option R} (h : Agree σ σ' (accLst x)) : sliceK E σ' x lo hi K = sliceK E σ x lo hi K := by
 obtain ⟨h1, h2⟩ := lst_congr h
 unfold sliceK
 cases x with
 | own k w e l => simp only [h1 k w e l rfl]
 | _ => rfl
theorem sliceT_congr {R : Type} {T : Nat} {x : AV} {lo hi : Option AV} {K : AV → Option R} (h : Agree σ σ' (accLst x)) : sliceT tab T σ' x lo hi K = sliceT tab T σ x lo hi K := by
 unfold sliceT
 cases cutG tab T x lo hi with
 | may g a => rfl
 | _ => exact sliceK_congr h
theorem map_congr_looks {α : Type} {l : List α} {f : α → Operand} (h : ∀ x, x ∈ l → getO σ'.t (f x) = getO σ.t (f x)) {β : Type} (g : α → AV → β) : (l.map fun p => g p (getO σ'.t (f p))) = l.map fun p => g p (getO σ.t (f p)) :=
 List.map_congr_left fun x hx => by rw [h x hx]
theorem optO_congr {x : Option Operand} (h : ∀ y, x = some y → getO σ'.t y = getO σ.t y) : optO σ'.t x = optO σ.t x := by
 cases x with
 | none => rfl
 | some y => exact congrArg some (h y rfl)
theorem acc_congr {o : Oper} (hO : Looks o σ σ') : accOf tab σ' o = accOf tab σ o := by
 obtain ⟨dst, op, type, pos, after, guard⟩ := o
 unfold Looks at hO
 cases op <;> simp only [Op.operands] at hO <;> simp only [accOf]
 case nilCheck x => rw [hO x (by simp)]
 case fieldAddr T x f => rw [hO x (by simp)]
 case load T p => rw [hO p (by simp)]
 case store T p x => rw [hO p (by simp)]
 case buildSlice T n parts =>
  have : (parts.toList.all fun p => (getO σ'.t p.2).fz) = parts.toList.all fun p => (getO σ.t p.2).fz := by
   rw [Bool.eq_iff_iff, List.all_eq_true, List.all_eq_true]
   exact forall_congr' fun p => imp_congr_right fun hp => by rw [hO p.2 (by simp only [List.mem_map]; exact ⟨p, hp, rfl⟩)]
  rw [this]
 case slice T x lo hi mx => rw [hO x (by simp)]
 case indexAddr T x i => rw [hO x (by simp)]
 case call cl =>
  cases hc : cl.callee with
  | builtin b =>
   cases b <;> simp only [hc]
   rcases ha : cl.args.toList with _ | ⟨x, _ | ⟨y, l⟩⟩ <;> simp only [ha]
   rw [hO x (by simp [Call.operands, hc, ha])]
  | value f =>
   simp only [hc]
   have : (cl.args.toList.all fun x => (getO σ'.t x).fz) = cl.args.toList.all fun x => (getO σ.t x).fz := by
    rw [Bool.eq_iff_iff, List.all_eq_true, List.all_eq_true]
    exact forall_congr' fun p => imp_congr_right fun hp => by rw [hO p (by simp [Call.operands, hc]; exact .inr (by simpa using hp))]
   rw [this]
  | invoke r m => simp only [hc]
theorem isVal_congr {o : Oper} (hO : Looks o σ σ') : isVal o σ' = isVal o σ := by
 obtain ⟨dst, op, type, pos, after, guard⟩ := o
 unfold Looks at hO
 cases op <;> simp only [Op.operands] at hO <;> simp only [isVal]
 case buildSlice T n parts =>
  rw [Bool.eq_iff_iff, List.all_eq_true, List.all_eq_true]
  exact forall_congr' fun p => imp_congr_right fun hp => by rw [hO p.2 (by simp only [List.mem_map]; exact ⟨p, hp, rfl⟩)]
theorem valOp_congr {P : Program} (hTab : TabOK P tab) {o : Oper} (hO : Looks o σ σ') (hr : Agree σ σ' (accOf tab σ o)) : valOp tab o σ' = valOp tab o σ := by
 obtain ⟨dst, op, type, pos, after, guard⟩ := o
 unfold Looks at hO
 cases op <;> simp only [Op.operands] at hO <;> simp only [accOf] at hr <;> simp only [valOp]
 case move x => rw [hO x (by simp)]
 case assign x => rw [hO x (by simp)]
 case pick c a b => rw [hO c (by simp), hO a (by simp), hO b (by simp)]
 case build T parts =>
  have := map_congr_looks (σ := σ) (σ' := σ') (l := parts.toList) (f := (·.2)) (fun p hp => hO p.2 (by simp only [List.mem_map]; exact ⟨p, hp, rfl⟩)) (fun p a => (p.1, a))
  simp only [this]
 case buildSlice T n parts =>
  have := map_congr_looks (σ := σ) (σ' := σ') (l := parts.toList) (f := (·.2)) (fun p hp => hO p.2 (by simp only [List.mem_map]; exact ⟨p, hp, rfl⟩)) (fun p a => a)
  simp only [this]
 case load T p =>
  rw [hO p (by simp)]
  cases hT : tab.ty T with
  | none => rfl
  | some ty =>
   dsimp only
   refine loadAV_congr (hTab.ty T ty hT).pos ?_
   rw [hT] at hr
   exact hr
 case nilCheck x => rw [hO x (by simp)]
 case binOp op T x y T' => rw [hO x (by simp), hO y (by simp)]
 case unOp op T x => cases op <;> simp only [] ; rw [hO x (by simp)]
 case makeFunc fn fst cap =>
  cases fn <;> simp only []
  have h1 := map_congr_looks (σ := σ) (σ' := σ') (l := fst.toList) (f := id) (fun p hp => hO p (by simp at hp ⊢; exact .inl hp)) (fun p a => a)
  have h2 := map_congr_looks (σ := σ) (σ' := σ') (l := cap.toList) (f := id) (fun p hp => hO p (by simp at hp ⊢; exact .inr hp)) (fun p a => a)
  simp only [id] at h1 h2
  rw [show cap.toList.map (getO σ'.t) = cap.toList.map (getO σ.t) from h2, show fst.toList.map (getO σ'.t) = fst.toList.map (getO σ.t) from h1]
 case slice T x lo hi mx =>
  cases mx with
  | some _ => rfl
  | none =>
   simp only []
   have hx := hO x (by simp)
   have h1 := optO_congr (σ := σ) (σ' := σ') (x := lo) (fun y hy => hO y (by subst hy; simp))
   have h2 := optO_congr (σ := σ) (σ' := σ') (x := hi) (fun y hy => hO y (by subst hy; cases lo <;> simp))
   rw [hx, h1, h2]
   exact sliceT_congr hr
 case fieldAddr T x f => rw [hO x (by simp)]
 case indexAddr T x i =>
  rw [hO x (by simp), hO i (by simp)]
  cases getO σ.t i <;> first | rfl | exact idxK_congr hr
 case field T x f => rw [hO x (by simp)]
 case index T x i => rw [hO x (by simp), hO i (by simp)]
 case convert S D x => rw [hO x (by simp)]
 case extract x i => rw [hO x (by simp)]
 case call cl =>
  cases hc : cl.callee with
  | builtin b =>
   simp only [hc] at hr ⊢
   have hA : ∀ x, x ∈ cl.args.toList → getO σ'.t x = getO σ.t x := fun x hx => hO x (by simp [Call.operands, hc]; simpa using hx)
   cases b <;> simp only [valBuiltin] at hr ⊢
   ·rcases ha : cl.args.toList with _ | ⟨x, _ | ⟨y, l⟩⟩ <;> rw [ha] at hA hr <;> rcases cl.argTypes.toList with _ | ⟨T, _ | ⟨T', l'⟩⟩ <;> simp only []
    rw [hA x (by simp)]
    exact lenT_congr hr
   ·rcases ha : cl.args.toList with _ | ⟨x, _ | ⟨y, _ | ⟨z, l⟩⟩⟩ <;> rw [ha] at hA <;> simp only []
    rw [hA x (by simp), hA y (by simp)]
   ·rcases ha : cl.args.toList with _ | ⟨x, _ | ⟨y, _ | ⟨z, l⟩⟩⟩ <;> rw [ha] at hA <;> simp only []
    rw [hA x (by simp), hA y (by simp)]
  | _ => simp only [hc]
end
end Go.AI
namespace Go.AI
section
variable {tab : Tab} {call : (τ : STy) → Nat → List AV → τ.T → Option (AV × τ.T)} {τ : STy} {σ σ' σ1 σ2 : St}
structure RelS (d : Option Nat) (σ σ' σ1 σ1' : St) : Prop where
 h : HE σ1 σ1'
 t : ∀ i, getT σ1'.t i = if d = some i then getT σ1.t i else getT σ'.t i
 o : ∀ i, d ≠ some i → getT σ1.t i = getT σ.t i
theorem RelS.put {τ τ' : St} (h : HE τ τ') (ht : τ.t = σ.t) (ht' : τ'.t = σ'.t) (d : Option Nat) (x : AV) : RelS d σ σ' (τ.put d x) (τ'.put d x) := by
 refine ⟨h.put _ _ _ _, fun i => ?_, fun i hi => ?_⟩
 ·rw [getT_put, getT_put, ht']; split <;> rfl
 ·rw [getT_put, if_neg hi, ht]
theorem RelS.same {τ τ' : St} (h : HE τ τ') (ht : τ.t = σ.t) (ht' : τ'.t = σ'.t) : RelS none σ σ' τ τ' := ⟨h, fun i => by simp [ht'], fun i _ => by rw [ht]⟩
theorem cur_v (h : σ'.v = σ.v) (k w : Nat) : σ'.cur k w = σ.cur k w := by unfold St.cur; rw [h]
theorem freeze1_loc {x y : AV} (h : freeze1 σ x = some (y, σ1)) : σ1 = { σ with fr := σ1.fr } ∧ ∀ σ' : St, σ'.v = σ.v → σ'.fr = σ.fr → freeze1 σ' x = some (y, { σ' with fr := σ1.fr }) := by
 cases x with
 | own k ver e l =>
  simp only [freeze1] at h ⊢
  split at h
  ·rename_i h1 h2
   simp only [Option.some.injEq, Prod.mk.injEq] at h
   obtain ⟨rfl, rfl⟩ := h
   refine ⟨rfl, fun σ' hv hf => ?_⟩
   simp only [cur_v hv, h1, h2, hf]
  ·cases h
 | _ => first
  | (simp [freeze1, AV.fz1, AV.one] at h; done)
  | (simp only [freeze1, AV.fz1, AV.one, Option.some.injEq, Prod.mk.injEq] at h; obtain ⟨rfl, rfl⟩ := h; exact ⟨rfl, fun σ' hv hf => by simp only [freeze1, AV.fz1, AV.one, ← hf]⟩)
theorem freeze_na {x : AV} (h : ∀ l, x ≠ .agg l) (σ : St) : freeze σ x = freeze1 σ x := by
 cases x <;> first | rfl | exact absurd rfl (h _)
theorem freezeL_loc : ∀ {l l' : List AV} {σ σ1 : St}, freezeL l σ = some (l', σ1) → σ1 = { σ with fr := σ1.fr } ∧ ∀ σ' : St, σ'.v = σ.v → σ'.fr = σ.fr → freezeL l σ' = some (l', { σ' with fr := σ1.fr })
 | [], l', σ, σ1, h => by
  simp only [freezeL, Option.some.injEq, Prod.mk.injEq] at h
  obtain ⟨rfl, rfl⟩ := h
  exact ⟨rfl, fun σ' hv hf => by simp only [freezeL]; rw [← hf]⟩
 | x :: l, l', σ, σ1, h => by
  simp only [freezeL] at h
  split at h
  rotate_left
  ·cases h
  rename_i y τ h1
  split at h
  rotate_left
  ·cases h
  rename_i r τ' h2
  simp only [Option.some.injEq, Prod.mk.injEq] at h
  obtain ⟨rfl, rfl⟩ := h
  unfold freezeC at h1
  split at h1
  rotate_left
  ·cases h1
  rename_i hc
  obtain ⟨g1, g2⟩ := freeze1_loc h1
  obtain ⟨g3, g4⟩ := freezeL_loc h2
  refine ⟨by rw [g3, g1], fun σ' hv hf => ?_⟩
  have g5 := g4 { σ' with fr := τ.fr } (by rw [g1]; exact hv) rfl
  simp only [freezeL, freezeC, hc, g2 σ' hv hf, g5]
theorem freeze_loc {x y : AV} (h : freeze σ x = some (y, σ1)) : σ1 = { σ with fr := σ1.fr } ∧ ∀ σ' : St, σ'.v = σ.v → σ'.fr = σ.fr → freeze σ' x = some (y, { σ' with fr := σ1.fr }) := by
 cases x with
 | agg l =>
  simp only [freeze] at h ⊢
  split at h
  rotate_left
  ·cases h
  rename_i r τ h1
  simp only [Option.some.injEq, Prod.mk.injEq] at h
  obtain ⟨rfl, rfl⟩ := h
  obtain ⟨g1, g2⟩ := freezeL_loc h1
  exact ⟨g1, fun σ' hv hf => by simp only [g2 σ' hv hf]⟩
 | _ =>
  rw [freeze_na (by intro l h; cases h)] at h
  obtain ⟨g1, g2⟩ := freeze1_loc h
  exact ⟨g1, fun σ' hv hf => by rw [freeze_na (by intro l h; cases h)]; exact g2 σ' hv hf⟩
theorem freezeAll_loc : ∀ {l l' : List AV} {σ σ1 : St}, freezeAll l σ = some (l', σ1) → σ1 = { σ with fr := σ1.fr } ∧ ∀ σ' : St, σ'.v = σ.v → σ'.fr = σ.fr → freezeAll l σ' = some (l', { σ' with fr := σ1.fr })
 | [], l', σ, σ1, h => by
  simp only [freezeAll, Option.some.injEq, Prod.mk.injEq] at h
  obtain ⟨rfl, rfl⟩ := h
  exact ⟨rfl, fun σ' hv hf => by simp only [freezeAll]; rw [← hf]⟩
 | x :: l, l', σ, σ1, h => by
  simp only [freezeAll] at h
  split at h
  rotate_left
  ·cases h
  rename_i y τ h1
  split at h
  rotate_left
  ·cases h
  rename_i r τ' h2
  simp only [Option.some.injEq, Prod.mk.injEq] at h
  obtain ⟨rfl, rfl⟩ := h
  obtain ⟨g1, g2⟩ := freeze_loc h1
  obtain ⟨g3, g4⟩ := freezeAll_loc h2
  refine ⟨by rw [g3, g1], fun σ' hv hf => ?_⟩
  have g5 := g4 { σ' with fr := τ.fr } (by rw [g1]; exact hv) rfl
  simp only [freezeAll, g2 σ' hv hf, g5]
theorem freezeAll_none {l : List AV} (h : freezeAll l σ = none) (hv : σ'.v = σ.v) (hf : σ'.fr = σ.fr) : freezeAll l σ' = none := by
 cases h' : freezeAll l σ' with
 | none => rfl
 | some q =>
  obtain ⟨l', τ⟩ := q
  rw [(freezeAll_loc h').2 σ hv.symm hf.symm] at h
  cases h
theorem HE.withFr (h : HE σ σ') (fr : List Nat) : HE { σ with fr := fr } { σ' with fr := fr } := ⟨h.b, h.s, h.v, h.c, rfl⟩
theorem HE.cons (h : HE σ σ') (d : Nat) (l : List AV) : HE { σ with b := (d, l) :: σ.b } { σ' with b := (d, l) :: σ'.b } :=
 ⟨fun k => by show getB ((d, l) :: σ'.b) k = getB ((d, l) :: σ.b) k; rw [getB_cons, getB_cons, h.b], h.s, h.v, h.c, h.fr⟩
theorem gotK_loc {d : Option Nat} {h : Sh} {x : h.T} {τ1 τ1' : St} (hh : HE τ1 τ1') (ht : τ1.t = σ.t) (ht' : τ1'.t = σ'.t) (hs : gotK τ1 d h x some = some σ1) : ∃ σ1', gotK τ1' d h x some = some σ1' ∧ RelS d σ σ' σ1 σ1' := by
 unfold gotK at hs ⊢
 split at hs
 ·rename_i τ' d x
  split at hs
  rotate_left
  ·cases hs
  rename_i y l hb he
  simp only [Option.some.injEq] at hs
  subst hs
  rw [← hh.b d] at hb
  simp only [hb, he]
  exact ⟨_, rfl, RelS.put (hh.cons d (y :: l)) ht ht' _ _⟩
 ·simp only [Option.some.injEq] at hs
  subst hs
  exact ⟨_, rfl, RelS.put hh ht ht' _ _⟩
theorem callK_loc {o : Oper} {f : Nat} {fst args cap : List AV} {static : Bool} (hh : HE σ σ') (hs : callK tab call τ σ o f fst args cap static some = some σ1) : ∃ σ1', callK tab call τ σ' o f fst args cap static some = some σ1' ∧ RelS o.dst σ σ' σ1 σ1' := by
 unfold callK at hs ⊢
 split at hs
 ·rename_i hf
  simp only [freezeAll_none hf hh.v hh.fr]
  split at hs
  rotate_left
  ·cases hs
  rename_i k rest
  split at hs
  rotate_left
  ·cases hs
  rename_i rest' τ1 hfz
  obtain ⟨g1, g2⟩ := freezeAll_loc hfz
  have g2 := g2 σ' hh.v hh.fr
  split at hs
  rotate_left
  ·cases hs
  rename_i p hpl hdec
  obtain ⟨x, y, q, hcl, hsh, hK⟩ := shaped_spec hs
  have e1 : τ1.b = σ.b := by rw [g1]
  have e2 : τ1.v = σ.v := by rw [g1]
  have e3 : τ1.c = σ.c := by rw [g1]
  have e4 : τ1.s = σ.s := by rw [g1]
  have e5 : τ1.t = σ.t := by rw [g1]
  have hd' : (tab.sty f).dec σ'.v τ1.fr (getB σ'.b k) = some p := by rw [hh.v, hh.b, ← e1, ← e2]; exact hdec
  have hHE : HE (St.lent τ1 (tab.sty f) k q) (St.lent { σ' with fr := τ1.fr } (tab.sty f) k q) := by
   refine ⟨fun j => ?_, by show σ'.s = τ1.s; rw [hh.s, e4], ?_, by show σ'.c + 1 = τ1.c + 1; rw [hh.c, e3], rfl⟩
   ·show getB ((k, _) :: σ'.b) j = getB ((k, _) :: τ1.b) j
    rw [getB_cons, getB_cons, hh.b, hh.c, e1, e3]
   ·show _ ++ σ'.v = _ ++ τ1.v
    rw [hh.v, e2]
    show (List.map _ ((tab.sty f).keys ++ ownKeys (getB σ'.b k))) ++ _ = (List.map _ ((tab.sty f).keys ++ ownKeys (getB τ1.b k))) ++ _
    rw [hh.b, e1, hh.c, e3]
  obtain ⟨σ1', r1, r2⟩ := gotK_loc (σ := σ) (σ' := σ') hHE e5 rfl hK
  refine ⟨σ1', ?_, r2⟩
  simp only [g2, hpl, hd', hcl, shaped, Option.bind_some, hsh, Option.map_some]
  exact r1
 ·rename_i args' τ1 hfz
  obtain ⟨g1, g2⟩ := freezeAll_loc hfz
  have g2 := g2 σ' hh.v hh.fr
  simp only [g2]
  have e1 : τ1.b = σ.b := by rw [g1]
  have e2 : τ1.v = σ.v := by rw [g1]
  have e3 : τ1.c = σ.c := by rw [g1]
  have e4 : τ1.s = σ.s := by rw [g1]
  have e5 : τ1.t = σ.t := by rw [g1]
  have hHE0 : HE τ1 { σ' with fr := τ1.fr } := ⟨fun j => by rw [e1]; exact hh.b j, by rw [e4]; exact hh.s, by rw [e2]; exact hh.v, by rw [e3]; exact hh.c, rfl⟩
  generalize (if static = true then tab.sty f else τ) = τ0 at hs ⊢
  split at hs
  ·obtain ⟨x, y, q, hcl, hsh, hK⟩ := shaped_spec hs
   obtain ⟨σ1', r1, r2⟩ := gotK_loc (σ := σ) (σ' := σ') hHE0 e5 rfl hK
   refine ⟨σ1', ?_, r2⟩
   simp only [hcl, shaped, Option.bind_some, hsh, Option.map_some]
   exact r1
  ·rename_i hne
   split at hs
   rotate_left
   ·cases hs
   rename_i he
   subst he
   split at hs
   rotate_left
   ·cases hs
   rename_i p hdec
   obtain ⟨x, y, q, hcl, hsh, hK⟩ := shaped_spec hs
   have hd' : τ0.dec σ'.v τ1.fr σ'.s = some p := by rw [hh.v, hh.s, ← e4, ← e2]; exact hdec
   have hHE : HE (St.back τ0 τ1 q) (St.back τ0 { σ' with fr := τ1.fr } q) := by
    refine ⟨fun j => by show getB σ'.b j = getB τ1.b j; rw [hh.b, e1], by show τ0.enc (σ'.c + 1) q = τ0.enc (τ1.c + 1) q; rw [hh.c, e3], ?_, by show σ'.c + 1 = τ1.c + 1; rw [hh.c, e3], rfl⟩
    show (List.map _ (τ0.keys ++ ownKeys σ'.s)) ++ σ'.v = (List.map _ (τ0.keys ++ ownKeys τ1.s)) ++ τ1.v
    rw [hh.v, e2, hh.s, e4, hh.c, e3]
   obtain ⟨σ1', r1, r2⟩ := gotK_loc (σ := σ) (σ' := σ') hHE e5 rfl hK
   refine ⟨σ1', ?_, r2⟩
   cases τ0 with
   | unit => exact (hne rfl).elim
   | prog =>
    simp only [if_true, hd', hcl, shaped, Option.bind_some, hsh, Option.map_some]
    exact r1
   | ref =>
    simp only [if_true, hd', hcl, shaped, Option.bind_some, hsh, Option.map_some]
    exact r1
end
end Go.AI
namespace Go.AI
section
variable {tab : Tab} {call : (τ : STy) → Nat → List AV → τ.T → Option (AV × τ.T)} {τ : STy} {σ σ' σ1 σ2 : St} {P : Program}
theorem rows_v (h : σ'.v = σ.v) (x : AV) : rows σ' x = rows σ x := by
 unfold rows
 cases x <;> first | rfl | (simp only [cur_v h])
theorem HE.bump (h : HE σ σ') (k : Nat) : HE (σ.bump k) (σ'.bump k) :=
 ⟨h.b, h.s, by show (k, σ'.c + 1) :: σ'.v = (k, σ.c + 1) :: σ.v; rw [h.v, h.c], by show σ'.c + 1 = σ.c + 1; rw [h.c], h.fr⟩
theorem HE.fresh (h : HE σ σ') (k : Nat) : HE (σ.fresh k) (σ'.fresh k) :=
 ⟨h.b, h.s, by show (k, σ'.c + 1) :: σ'.v = (k, σ.c + 1) :: σ.v; rw [h.v, h.c], by show σ'.c + 1 = σ.c + 1; rw [h.c], by show σ'.fr.filter _ = σ.fr.filter _; rw [h.fr]⟩
theorem appendK_loc {E : Option El} {d : Nat} {x y : AV} (hh : HE σ σ') (hs : appendK E σ d x y some = some σ1) : ∃ σ1', appendK E σ' d x y some = some σ1' ∧ RelS (some d) σ σ' σ1 σ1' := by
 have hro : ∀ y, rows σ' y = rows σ y := rows_v hh.v
 have hcu : ∀ k w, σ'.cur k w = σ.cur k w := cur_v hh.v
 have hfo : ∀ k, σ'.fro k = σ.fro k := fun k => by unfold St.fro; rw [hh.fr]
 unfold appendK at hs ⊢
 cases E with
 | none => cases hs
 | some e0 =>
  cases x with
  | own k w e l =>
   dsimp only at hs ⊢
   try simp only [hcu, hfo]
   split at hs
   rotate_left
   ·cases hs
   rename_i h1
   try simp only [h1]
   have fin : ∀ m : List e.T, some ((σ.bump k).put (some d) (.own k (σ.bump k).c e (l ++ m))) = some σ1 → ∃ σ1', some ((σ'.bump k).put (some d) (.own k (σ'.bump k).c e (l ++ m))) = some σ1' ∧ RelS (some d) σ σ' σ1 σ1' := by
    intro m he
    simp only [Option.some.injEq] at he
    subst he
    refine ⟨_, rfl, ?_⟩
    rw [(hh.bump k).c]
    exact RelS.put (σ := σ) (σ' := σ') (hh.bump k) rfl rfl _ _
   have fin0 : some ((σ.bump k).put (some d) (.own k (σ.bump k).c e l)) = some σ1 → ∃ σ1', some ((σ'.bump k).put (some d) (.own k (σ'.bump k).c e l)) = some σ1' ∧ RelS (some d) σ σ' σ1 σ1' := by
    intro he
    simp only [Option.some.injEq] at he
    subst he
    refine ⟨_, rfl, ?_⟩
    rw [(hh.bump k).c]
    exact RelS.put (σ := σ) (σ' := σ') (hh.bump k) rfl rfl _ _
   have rest : (match rows σ y with
     | some ⟨e', m⟩ =>
      match El.cast e e' m with
      | some m => if l.length + m.length < maxRow then (let σ' := σ.bump k; some (σ'.put (some d) (.own k σ'.c e (l ++ m)))) else none
      | none => none
     | none => none) = some σ1 → ∃ σ1', (match rows σ' y with
     | some ⟨e', m⟩ =>
      match El.cast e e' m with
      | some m => if l.length + m.length < maxRow then (let σ' := σ'.bump k; some (σ'.put (some d) (.own k σ'.c e (l ++ m)))) else none
      | none => none
     | none => none) = some σ1' ∧ RelS (some d) σ σ' σ1 σ1' := by
    intro he
    rw [hro]
    split at he
    rotate_left
    ·cases he
    rename_i e' m hr
    split at he
    rotate_left
    ·cases he
    rename_i m' hc
    split at he
    rotate_left
    ·cases he
    rename_i hl
    simp only [hc, hl, if_true]
    exact fin _ he
   cases y <;> first | exact fin0 hs | exact rest hs
  | nil =>
   have rest : (match rows σ y with
     | some ⟨e', m⟩ =>
      match El.eqb e0 e' with
      | true => if m.length < maxRow then (let σ' := σ.fresh d; some (σ'.put (some d) (.own d σ'.c e' m))) else none
      | false => none
     | none => none) = some σ1 → ∃ σ1', (match rows σ' y with
     | some ⟨e', m⟩ =>
      match El.eqb e0 e' with
      | true => if m.length < maxRow then (let σ' := σ'.fresh d; some (σ'.put (some d) (.own d σ'.c e' m))) else none
      | false => none
     | none => none) = some σ1' ∧ RelS (some d) σ σ' σ1 σ1' := by
    intro he
    rw [hro]
    split at he
    rotate_left
    ·cases he
    rename_i e' m hr
    split at he
    rotate_left
    ·cases he
    rename_i hc
    split at he
    rotate_left
    ·cases he
    rename_i hl
    simp only [hc, hl, if_true]
    simp only [Option.some.injEq] at he
    subst he
    refine ⟨_, rfl, ?_⟩
    rw [(hh.fresh d).c]
    exact RelS.put (σ := σ) (σ' := σ') (hh.fresh d) rfl rfl _ _
   cases y with
   | nil =>
    simp only [Option.some.injEq] at hs
    subst hs
    exact ⟨_, rfl, RelS.put (σ := σ) (σ' := σ') hh rfl rfl _ _⟩
   | _ => exact rest hs
  | _ => cases hs
def isOpt (o : Oper) (σ : St) : Bool := match o.op with | .store _ p _ => (match getO σ.t p with | .opt .. => true | _ => false) | _ => false
theorem storeAV_loc {ty : Ty} {p x : AV} (hh : HE σ σ') (hn : ∀ k w e y i o, p ≠ .opt k w e y i o) (hs : storeAV σ ty p x = some σ1) : ∃ σ1', storeAV σ' ty p x = some σ1' ∧ RelS none σ σ' σ1 σ1' := by
 unfold storeAV at hs ⊢
 split at hs
 rotate_left
 ·cases hs
 rename_i h1 h2
 cases p with
 | rdr i =>
  simp only at hs ⊢
  split at hs
  rotate_left
  ·cases hs
  rename_i h3
  simp only [Option.some.injEq] at hs
  subst hs
  rw [hh.s]
  simp only [h3]
  exact ⟨_, rfl, RelS.same (σ := σ) (σ' := σ') ⟨hh.b, rfl, hh.v, hh.c, hh.fr⟩ rfl rfl⟩
 | lbox k i =>
  simp only at hs ⊢
  split at hs
  rotate_left
  ·cases hs
  rename_i h3
  simp only [Option.some.injEq] at hs
  subst hs
  rw [hh.b]
  simp only [h3]
  exact ⟨_, rfl, RelS.same (σ := σ) (σ' := σ') (hh.cons k _) rfl rfl⟩
 | opt k w e y i o => exact absurd rfl (hn _ _ _ _ _ _)
 | _ => simp at hs
theorem stepOp_loc (hTab : TabOK P tab) {N : Nat} {o : Oper} (hfine : opFine N o = true) (hO : Looks o σ σ') (hh : HE σ σ') (ho : isOpt o σ = false) (hs : stepOp tab call τ o σ some = some σ1) :
  ∃ σ1', stepOp tab call τ o σ' some = some σ1' ∧ RelS o.dst σ σ' σ1 σ1' := by
 by_cases hv : isVal o σ = true
 ·rw [stepOp_val hv] at hs
  rw [stepOp_val (by rw [isVal_congr hO]; exact hv), valOp_congr hTab hO (hh.agree _)]
  cases hval : valOp tab o σ with
  | none => rw [hval] at hs; cases hs
  | some x =>
   rw [hval] at hs
   simp only [Option.map_some, Option.some.injEq] at hs
   subst hs
   exact ⟨_, rfl, RelS.put (σ := σ) (σ' := σ') hh rfl rfl _ _⟩
 ·have hOo := hO
  obtain ⟨dst, op, type, pos, after, guard⟩ := o
  unfold Looks at hO
  cases op <;> simp only [Op.operands] at hO <;> simp only [isVal, not_true_eq_false] at hv <;> simp only [stepOp] at hs ⊢
  case alloc T =>
   split at hs
   rotate_left
   ·cases hs
   rename_i d
   split at hs
   rotate_left
   ·cases hs
   rename_i ty hb hT
   simp only [Option.some.injEq] at hs
   subst hs
   simp only [hh.b, hb, hT]
   exact ⟨_, rfl, RelS.put (σ := σ) (σ' := σ') (hh.cons d _) rfl rfl _ _⟩
  case box T x =>
   rw [hO x (by simp)]
   split at hs
   rotate_left
   ·cases hs
   rename_i d ty hT
   split at hs
   ·rename_i hg
    split at hs
    rotate_left
    ·cases hs
    rename_i hb hl hc
    simp only [Option.some.injEq] at hs
    subst hs
    simp only [hh.b, hb, hT, hg, hl, hc]
    exact ⟨_, rfl, RelS.put (σ := σ) (σ' := σ') (hh.cons d _) rfl rfl _ _⟩
   ·rename_i hg
    split at hs
    rotate_left
    ·cases hs
    rename_i hone
    simp only [Option.some.injEq] at hs
    subst hs
    try simp only [hT, hg, hone]
    exact ⟨_, rfl, RelS.put (σ := σ) (σ' := σ') hh rfl rfl _ _⟩
  case buildSlice T n parts =>
   have hm := map_congr_looks (σ := σ) (σ' := σ') (l := parts.toList) (f := (·.2)) (fun p hp => hO p.2 (by simp only [List.mem_map]; exact ⟨p, hp, rfl⟩)) (fun p a => a)
   simp only [hm]
   cases n with
   | zero =>
    simp only at hs ⊢
    split at hs
    rotate_left
    ·cases hs
    rename_i e he hp
    simp only [Option.some.injEq] at hs
    subst hs
    try simp only [he, hp]
    exact ⟨_, rfl, RelS.put (σ := σ) (σ' := σ') hh rfl rfl _ _⟩
   | succ n =>
    simp only at hs ⊢
    split at hs
    rotate_left
    ·cases hs
    rename_i e l τ1 he hf hd
    split at hs
    rotate_left
    ·cases hs
    rename_i xs hx
    simp only [Option.some.injEq] at hs
    subst hs
    obtain ⟨g1, g2⟩ := freezeAll_loc hf
    simp only [he, g2 σ' hh.v hh.fr, hd, hx]
    refine ⟨_, rfl, RelS.put (σ := σ) (σ' := σ') (τ := τ1) (τ' := { σ' with fr := τ1.fr }) ?_ (by rw [g1]) rfl _ _⟩
    rw [g1]
    exact hh.withFr _
  case store T p x =>
   rw [hO p (by simp), hO x (by simp)]
   split at hs
   rotate_left
   ·cases hs
   rename_i ty hT
   split at hs
   rotate_left
   ·cases hs
   rename_i τ1 hst
   simp only [Option.some.injEq] at hs
   subst hs
   have hd : dst = none := by simp [opFine] at hfine; exact hfine.2
   subst hd
   simp only [isOpt] at ho
   obtain ⟨σ1', r1, r2⟩ := storeAV_loc hh (fun k w e y i o he => by rw [he] at ho; cases ho) hst
   simp only [hT, r1]
   exact ⟨_, rfl, r2⟩
  case call cl =>
   cases hc : cl.callee with
   | invoke r m => simp only [hc] at hs; cases hs
   | builtin b =>
    have hA : ∀ x, x ∈ cl.args.toList → getO σ'.t x = getO σ.t x := fun x hx => hO x (by simp [Call.operands, hc]; simpa using hx)
    simp only [hc] at hs hv ⊢
    cases b <;> simp only [not_true_eq_false] at hv
    simp only [stepBuiltin] at hs ⊢
    split at hs
    rotate_left
    ·cases hs
    rename_i x y T T' d hx hT
    split at hs
    rotate_left
    ·cases hs
    rename_i hb
    rw [hx] at hA
    obtain ⟨σ1', r1, r2⟩ := appendK_loc hh hs
    try simp only [hx, hT, hb, hA x (by simp), hA y (by simp)]
    exact ⟨_, r1, r2⟩
   | value f =>
    have hA : ∀ x, x ∈ cl.args.toList → getO σ'.t x = getO σ.t x := fun x hx => hO x (by simp [Call.operands, hc]; exact .inr (by simpa using hx))
    have hm : cl.args.toList.map (getO σ'.t) = cl.args.toList.map (getO σ.t) := List.map_congr_left hA
    have hf : getO σ'.t f = getO σ.t f := hO f (by simp [Call.operands, hc])
    simp only [hc] at hs ⊢
    unfold stepCall at hs ⊢
    rw [hm]
    cases f with
    | func f => exact callK_loc hh hs
    | _ =>
     simp only at hs ⊢
     rw [hf]
     split at hs
     rotate_left
     ·cases hs
     rename_i hcl
     try simp only [hcl]
     exact callK_loc hh hs
end
end Go.AI
namespace Go.AI
section
variable {tab : Tab} {call : (τ : STy) → Nat → List AV → τ.T → Option (AV × τ.T)} {τ : STy} {σ σ' σ1 σ2 : St} {P : Program}
def Acc.reads : Acc → Bool
 | .none_ | .plc | .rdB _ | .rdF _ _ | .rdK _ => true
 | _ => false
theorem val_of_reads {o : Oper} (h : (accOf tab σ o).reads = true) : isVal o σ = true := by
 obtain ⟨dst, op, type, pos, after, guard⟩ := o
 cases op <;> simp only [accOf, isVal] at h ⊢
 case alloc T => cases dst <;> simp [Acc.reads] at h
 case box T x => cases dst <;> simp [Acc.reads] at h
 case buildSlice T n parts =>
  split at h
  ·assumption
  ·simp [Acc.reads] at h
 case store T p x =>
  cases hp : getO σ.t p <;> simp only [hp] at h <;> first | (simp [Acc.reads] at h; done) | skip
  cases hT : tab.ty T <;> simp only [hT] at h <;> simp [Acc.reads] at h
 case call cl =>
  cases hc : cl.callee with
  | invoke r m => simp [hc, Acc.reads] at h
  | builtin b =>
   simp only [hc] at h ⊢
   cases b <;> simp only [] at h ⊢
   simp [Acc.reads] at h
  | value f =>
   simp only [hc] at h
   cases f <;> simp only [] at h <;> first | (simp [Acc.reads] at h; done) | skip
   split at h <;> simp [Acc.reads] at h
theorem put_HE (σ : St) (d : Option Nat) (x : AV) : HE σ (σ.put d x) := ⟨fun k => by rw [put_b], by rw [put_s], by rw [put_v], by rw [put_c], by rw [put_fr]⟩
theorem gotK_put {h : Sh} (hn : ∀ τ, h ≠ .n τ) {τ1 : St} {d : Option Nat} {x : h.T} : gotK τ1 d h x some = some (τ1.put d (h.enc x)) := by
 unfold gotK
 cases h <;> first | rfl | exact absurd rfl (hn _)
theorem call_b {o : Oper} (hA : accOf tab σ o = .call) (hs : stepOp tab call τ o σ some = some σ1) : σ1.b = σ.b ∧ ∀ b', stepOp tab call τ o { σ with b := b' } some = some { σ1 with b := b' } := by
 obtain ⟨dst, op, type, pos, after, guard⟩ := o
 cases op <;> simp only [accOf] at hA <;> try (cases hA; done)
 case alloc T => cases dst <;> simp at hA
 case box T x => cases dst <;> simp at hA
 case buildSlice T n parts => split at hA <;> cases hA
 case store T p x => cases hp : getO σ.t p <;> simp only [hp] at hA <;> first | (cases hA; done) | (cases hT : tab.ty T <;> simp [hT] at hA)
 case load T p => cases hp : getO σ.t p <;> simp only [hp] at hA <;> first | (cases hA; done) | (cases hT : tab.ty T <;> simp [hT] at hA)
 case nilCheck x => cases hp : getO σ.t x <;> simp [hp] at hA
 case fieldAddr T x f => cases hp : getO σ.t x <;> simp [hp] at hA
 case slice T x lo hi mx => cases hp : getO σ.t x <;> simp [hp, accLst] at hA
 case indexAddr T x i => cases hp : getO σ.t x <;> simp [hp, accLst] at hA
 case call cl =>
  cases hc : cl.callee with
  | invoke r m => simp [hc] at hA
  | builtin b =>
   simp only [hc] at hA
   cases b <;> simp only [] at hA <;> try (cases hA; done)
   rcases ha : cl.args.toList with _ | ⟨x, _ | ⟨y, l⟩⟩ <;> simp only [ha] at hA <;> try (cases hA; done)
   cases hp : getO σ.t x <;> simp [hp, accLst] at hA
  | value f =>
   simp only [hc] at hA
   cases f <;> simp only [] at hA <;> try (cases hA; done)
   rename_i f
   split at hA <;> try (cases hA; done)
   rename_i hfz hn
   have hfz : (cl.args.toList.map (getO σ.t)).all AV.fz = true := by simpa [List.all_map] using hfz
   have hgot : ∀ {τ1 : St} {x : (tab.sh type).T} {σ1 : St} (b' : List (Nat × List AV)), gotK τ1 dst (tab.sh type) x some = some σ1 → σ1.b = τ1.b ∧ gotK { τ1 with b := b' } dst (tab.sh type) x some = some { σ1 with b := b' } := by
    intro τ1 x σ1 b' h
    rw [gotK_put (fun τ e => hn τ e)] at h ⊢
    simp only [Option.some.injEq] at h
    subst h
    exact ⟨put_b _ _ _, by cases dst <;> rfl⟩
   simp only [stepOp, hc, stepCall] at hs ⊢
   unfold callK at hs ⊢
   have hz : ∀ τ : St, freezeAll (cl.args.toList.map (getO σ.t)) τ = some (cl.args.toList.map (getO σ.t), τ) := fun τ => freezeAll_fz hfz
   simp only [hz, if_true] at hs ⊢
   generalize tab.sty f = τ0 at hs ⊢
   cases τ0 with
   | unit =>
    try simp only at hs ⊢
    obtain ⟨x, y, q, hcl, hsh, hK⟩ := shaped_spec hs
    refine ⟨(hgot [] hK).1, fun b' => ?_⟩
    simp only [hcl, shaped, Option.bind_some, hsh, Option.map_some]
    exact (hgot b' hK).2
   | prog =>
    try simp only at hs ⊢
    split at hs
    rotate_left
    ·cases hs
    rename_i he
    subst he
    split at hs
    rotate_left
    ·cases hs
    rename_i p hdec
    obtain ⟨x, y, q, hcl, hsh, hK⟩ := shaped_spec hs
    refine ⟨(hgot [] hK).1, fun b' => ?_⟩
    simp only [if_true, hdec, hcl, shaped, Option.bind_some, hsh, Option.map_some]
    exact (hgot b' hK).2
   | ref =>
    try simp only at hs ⊢
    split at hs
    rotate_left
    ·cases hs
    rename_i he
    subst he
    split at hs
    rotate_left
    ·cases hs
    rename_i p hdec
    obtain ⟨x, y, q, hcl, hsh, hK⟩ := shaped_spec hs
    refine ⟨(hgot [] hK).1, fun b' => ?_⟩
    simp only [if_true, hdec, hcl, shaped, Option.bind_some, hsh, Option.map_some]
    exact (hgot b' hK).2
def Chg (σ σ1 : St) : Acc → Prop
 | .al d => (∀ k, k ≠ d → getB σ1.b k = getB σ.b k) ∧ σ1.s = σ.s ∧ σ1.v = σ.v ∧ σ1.c = σ.c ∧ σ1.fr = σ.fr
 | .wrB d => (∀ k, k ≠ d → getB σ1.b k = getB σ.b k) ∧ σ1.s = σ.s ∧ σ1.v = σ.v ∧ σ1.c = σ.c ∧ σ1.fr = σ.fr
 | .wrF i n => (∀ k, getB σ1.b k = getB σ.b k) ∧ σ1.s.length = σ.s.length ∧ (∀ j, ¬ (i ≤ j ∧ j < i + n) → σ1.s.getD j .undef = σ.s.getD j .undef) ∧ σ1.v = σ.v ∧ σ1.c = σ.c ∧ σ1.fr = σ.fr
 | .frz => (∀ k, getB σ1.b k = getB σ.b k) ∧ σ1.s = σ.s ∧ σ1.v = σ.v ∧ σ1.c = σ.c
 | .call => σ1.b = σ.b
 | .big => True
 | .wrE _ => True
 | _ => HE σ σ1
theorem stepOp_chg (hTab : TabOK P tab) {o : Oper} (hs : stepOp tab call τ o σ some = some σ1) : Chg σ σ1 (accOf tab σ o) := by
 have hval : (accOf tab σ o).reads = true → HE σ σ1 := by
  intro h
  rw [stepOp_val (val_of_reads h)] at hs
  cases hv : valOp tab o σ with
  | none => rw [hv] at hs; cases hs
  | some x =>
   rw [hv] at hs
   simp only [Option.map_some, Option.some.injEq] at hs
   subst hs
   exact put_HE _ _ _
 by_cases hr : (accOf tab σ o).reads = true
 ·have := hval hr
  cases hA : accOf tab σ o <;> rw [hA] at hr <;> first | exact this | (simp [Acc.reads] at hr; done)
 clear hval
 by_cases hcA : accOf tab σ o = .call
 ·rw [hcA]; exact (call_b hcA hs).1
 obtain ⟨dst, op, type, pos, after, guard⟩ := o
 cases op <;> simp only [accOf] at hr ⊢ <;> try (exact absurd rfl hr)
 case alloc T =>
  simp only [stepOp] at hs
  split at hs
  rotate_left
  ·cases hs
  rename_i d
  split at hs
  rotate_left
  ·cases hs
  simp only [Option.some.injEq] at hs
  subst hs
  refine ⟨fun k hk => ?_, rfl, rfl, rfl, rfl⟩
  show getB ((d, _) :: σ.b) k = _
  rw [getB_cons, if_neg (Ne.symm hk)]
 case box T x =>
  simp only [stepOp] at hs
  split at hs
  rotate_left
  ·cases hs
  rename_i d ty hT
  split at hs
  ·split at hs
   rotate_left
   ·cases hs
   simp only [Option.some.injEq] at hs
   subst hs
   refine ⟨fun k hk => ?_, rfl, rfl, rfl, rfl⟩
   show getB ((d, _) :: σ.b) k = _
   rw [getB_cons, if_neg (Ne.symm hk)]
  ·split at hs
   rotate_left
   ·cases hs
   simp only [Option.some.injEq] at hs
   subst hs
   exact ⟨fun _ _ => rfl, rfl, rfl, rfl, rfl⟩
 case buildSlice T n parts =>
  split at hr
  ·exact absurd rfl hr
  ·simp only [stepOp] at hs
   cases n with
   | zero =>
    simp only at hs
    split at hs
    rotate_left
    ·cases hs
    simp only [Option.some.injEq] at hs
    subst hs
    rename_i _ hno _ _ _ _ hp
    rw [hp] at hno
    simp at hno
   | succ n =>
    simp only at hs
    split at hs
    rotate_left
    ·cases hs
    rename_i e l τ1 he hf hd
    split at hs
    rotate_left
    ·cases hs
    simp only [Option.some.injEq] at hs
    subst hs
    obtain ⟨g1, _⟩ := freezeAll_loc hf
    refine ⟨fun k => ?_, ?_, ?_, ?_⟩
    ·rw [put_b, g1]
    ·rw [put_s, g1]
    ·rw [put_v, g1]
    ·rw [put_c, g1]
 case load T p =>
  cases hp : getO σ.t p <;> simp only [hp] at hr ⊢ <;> first | exact absurd rfl hr | trivial | skip
  cases hT : tab.ty T <;> simp only [hT] at hr ⊢ <;> first | exact absurd rfl hr | trivial
 case store T p x =>
  simp only [stepOp] at hs
  split at hs
  rotate_left
  ·cases hs
  rename_i ty hT
  split at hs
  rotate_left
  ·cases hs
  rename_i τ1 hst
  simp only [Option.some.injEq] at hs
  subst hs
  cases hp : getO σ.t p <;> simp only [hp, hT] <;> first | trivial | skip
  ·rename_i i
   rw [hp] at hst
   unfold storeAV at hst
   split at hst
   rotate_left
   ·cases hst
   rename_i h1 h2
   have h1 := Nat.eq_of_beq_eq_true h1
   simp only at hst
   split at hst
   rotate_left
   ·cases hst
   rename_i h3
   have h3 := Nat.le_of_ble_eq_true h3
   simp only [Option.some.injEq] at hst
   subst hst
   refine ⟨fun _ => rfl, writeL_length (by omega), fun j hj => ?_, rfl, rfl, rfl⟩
   show (writeL σ.s i _).getD j _ = _
   unfold writeL
   rw [writeL_getD _ _ _ _ _ (by omega), if_neg (by omega)]
  ·rename_i k i
   rw [hp] at hst
   unfold storeAV at hst
   split at hst
   rotate_left
   ·cases hst
   simp only at hst
   split at hst
   rotate_left
   ·cases hst
   simp only [Option.some.injEq] at hst
   subst hst
   refine ⟨fun j hj => ?_, rfl, rfl, rfl, rfl⟩
   show getB ((k, _) :: σ.b) j = _
   rw [getB_cons, if_neg (Ne.symm hj)]
 case nilCheck x => cases hp : getO σ.t x <;> simp only [hp] at hr <;> exact absurd rfl hr
 case fieldAddr T x f => cases hp : getO σ.t x <;> simp only [hp] at hr <;> exact absurd rfl hr
 case slice T x lo hi mx => cases hp : getO σ.t x <;> simp only [hp, accLst] at hr <;> exact absurd rfl hr
 case indexAddr T x i => cases hp : getO σ.t x <;> simp only [hp, accLst] at hr <;> exact absurd rfl hr
 case call cl =>
  cases hc : cl.callee with
  | invoke r m => simp only [hc]; trivial
  | builtin b =>
   simp only [hc] at hr ⊢
   cases b <;> simp only [] at hr ⊢ <;> first | trivial | exact absurd rfl hr | skip
   rcases ha : cl.args.toList with _ | ⟨x, _ | ⟨y, l⟩⟩ <;> simp only [ha] at hr ⊢ <;> first | trivial | skip
   cases hp : getO σ.t x <;> simp only [hp, accLst] at hr <;> exact absurd rfl hr
  | value f =>
   simp only [hc]
   cases f <;> simp only [] <;> first | trivial | skip
   split
   ·trivial
   ·rename_i q1 q2
    exact absurd (by
     show (match cl.callee with | .builtin b => _ | .value f => _ | .invoke .. => Acc.big) = Acc.call
     rw [hc]
     simp only
     split
     ·rename_i e; exact absurd e (q2 _)
     ·rfl
     ·rename_i e; rw [q1] at e; cases e) hcA
   ·trivial
 all_goals trivial
end
end Go.AI
namespace Go.AI
section
variable {tab : Tab} {call : (τ : STy) → Nat → List AV → τ.T → Option (AV × τ.T)} {τ : STy} {σ σ' σ1 σ2 : St} {P : Program}
theorem agree_of_chg {A B : Acc} (hr : A.reads = true) (hap : Acc.apart A B = true ∨ Acc.apart B A = true) (h : Chg σ σ1 B) : Agree σ σ1 A := by
 cases A with
 | none_ => trivial
 | plc => trivial
 | rdB k =>
  cases B <;> first
   | exact h.b k
   | (simp [Acc.apart] at hap; done)
   | exact congrArg (fun b => getB b k) h
   | exact h.1 k (by rcases hap with hap | hap <;> · intro e; subst e; simp [Acc.apart] at hap)
   | exact h.1 k
 | rdF i n =>
  cases B <;> first
   | (simp [Acc.apart] at hap; done)
   | exact ⟨by rw [h.s], fun _ _ _ => by rw [h.s]⟩
   | exact ⟨by rw [h.2.1], fun _ _ _ => by rw [h.2.1]⟩
   | skip
  rename_i j m
  refine ⟨h.2.1, fun q h1 h2 => h.2.2.1 q ?_⟩
  have : i + n ≤ j ∨ j + m ≤ i := by
   rcases hap with hap | hap <;>
   ·simp only [Acc.apart, Bool.or_eq_true] at hap
    rcases hap with hap | hap
    ·exact .inl (Nat.le_of_ble_eq_true hap)
    ·exact .inr (Nat.le_of_ble_eq_true hap)
  omega
 | rdK k =>
  cases B <;> first
   | (simp [Acc.apart] at hap; done)
   | exact congrArg (fun v => getV v k) h.v
   | exact congrArg (fun v => getV v k) h.2.2.1
   | exact congrArg (fun v => getV v k) h.2.2.2.1
 | _ => simp [Acc.reads] at hr
structure Eff where
 bu : Option (Nat × List AV)
 su : Option (Nat × List AV)
 V : AV
def Eff.app (e : Eff) (d : Option Nat) (σ : St) : St :=
 { σ with b := (match e.bu with | some p => p :: σ.b | none => σ.b), s := (match e.su with | some p => writeL σ.s p.1 p.2 | none => σ.s) }.put d e.V
def AgreeW (σ σ' : St) : Acc → Prop
 | .al d => getB σ'.b d = getB σ.b d
 | .wrB d => getB σ'.b d = getB σ.b d
 | .wrF _ _ => σ'.s.length = σ.s.length
 | _ => False
def EffOf (o : Oper) (σ : St) (e : Eff) : Acc → Prop
 | .al d => o.dst = some d ∧ e.su = none ∧ ∀ p, e.bu = some p → p.1 = d
 | .wrB d => o.dst = none ∧ e.su = none ∧ ∃ l, e.bu = some (d, l)
 | .wrF i n => o.dst = none ∧ e.bu = none ∧ ∃ l, e.su = some (i, l) ∧ l.length = n ∧ i + n ≤ σ.s.length
 | _ => False
def Acc.writes : Acc → Bool
 | .al _ | .wrB _ | .wrF _ _ => true
 | _ => false
theorem eff_ok {N : Nat} {o : Oper} (hfine : opFine N o = true) (hA : (accOf tab σ o).writes = true) (hs : stepOp tab call τ o σ some = some σ1) :
  ∃ e, EffOf o σ e (accOf tab σ o) ∧ ∀ σ', Looks o σ σ' → AgreeW σ σ' (accOf tab σ o) → stepOp tab call τ o σ' some = some (e.app o.dst σ') := by
 obtain ⟨dst, op, type, pos, after, guard⟩ := o
 cases op <;> simp only [accOf] at hA ⊢ <;> try (simp [Acc.writes] at hA; done)
 case alloc T =>
  simp only [stepOp] at hs
  split at hs
  rotate_left
  ·cases hs
  rename_i d
  split at hs
  rotate_left
  ·cases hs
  rename_i ty hb hT
  refine ⟨⟨some (d, ty.zero), none, .lbox d 0⟩, ⟨rfl, rfl, fun p hp => by cases hp; rfl⟩, fun σ' hO hW => ?_⟩
  have hb' : getB σ'.b d = [] := hW.trans hb
  simp only [stepOp, hb', hT]
  rfl
 case box T x =>
  simp only [stepOp] at hs
  split at hs
  rotate_left
  ·cases hs
  rename_i d ty hT
  split at hs
  ·rename_i hg
   split at hs
   rotate_left
   ·cases hs
   rename_i hb hl hc
   refine ⟨⟨some (d, (getO σ.t x).cells), none, .lbox d 0⟩, ⟨rfl, rfl, fun p hp => by cases hp; rfl⟩, fun σ' hO hW => ?_⟩
   have hx : getO σ'.t x = getO σ.t x := hO x (by simp [Op.operands])
   have hb' : getB σ'.b d = [] := hW.trans hb
   simp only [stepOp, hx, hb', hT, hg, hl, hc]
   rfl
  ·rename_i hg
   split at hs
   rotate_left
   ·cases hs
   rename_i hone
   refine ⟨⟨none, none, .cbox (getO σ.t x)⟩, ⟨rfl, rfl, fun p hp => by cases hp⟩, fun σ' hO hW => ?_⟩
   have hx : getO σ'.t x = getO σ.t x := hO x (by simp [Op.operands])
   simp only [stepOp, hx, hT, hg, hone]
   rfl
 case buildSlice T n parts => split at hA <;> simp [Acc.writes] at hA
 case store T p x =>
  have hdn : dst = none := by simp [opFine] at hfine; exact hfine.2
  subst hdn
  simp only [stepOp] at hs
  split at hs
  rotate_left
  ·cases hs
  rename_i ty hT
  split at hs
  rotate_left
  ·cases hs
  rename_i τ1 hst
  simp only [Option.some.injEq] at hs
  subst hs
  have hlook : ∀ σ' : St, Looks ⟨none, .store T p x, type, pos, after, guard⟩ σ σ' → getO σ'.t p = getO σ.t p ∧ getO σ'.t x = getO σ.t x := fun σ' hO => ⟨hO p (by simp [Op.operands]), hO x (by simp [Op.operands])⟩
  cases hp : getO σ.t p <;> simp only [hp, hT] at hA hst ⊢ <;> try (simp [Acc.writes] at hA; done)
  ·rename_i i
   unfold storeAV at hst
   split at hst
   rotate_left
   ·cases hst
   rename_i h1 h2
   have h1' := Nat.eq_of_beq_eq_true h1
   simp only at hst
   split at hst
   rotate_left
   ·cases hst
   rename_i h3
   have h3' := Nat.le_of_ble_eq_true h3
   refine ⟨⟨none, some (i, (getO σ.t x).cells), .undef⟩, ⟨rfl, rfl, _, rfl, h1', h3'⟩, fun σ' hO hW => ?_⟩
   obtain ⟨e1, e2⟩ := hlook σ' hO
   have hW : σ'.s.length = σ.s.length := hW
   simp only [stepOp, hT, e1, e2, hp, storeAV, h1, h2, hW, h3]
   rfl
  ·rename_i k i
   unfold storeAV at hst
   split at hst
   rotate_left
   ·cases hst
   rename_i h1 h2
   simp only at hst
   split at hst
   rotate_left
   ·cases hst
   rename_i h3
   refine ⟨⟨some (k, writeL (getB σ.b k) i (getO σ.t x).cells), none, .undef⟩, ⟨rfl, rfl, _, rfl⟩, fun σ' hO hW => ?_⟩
   obtain ⟨e1, e2⟩ := hlook σ' hO
   have hW : getB σ'.b k = getB σ.b k := hW
   simp only [stepOp, hT, e1, e2, hp, storeAV, h1, h2, hW, h3]
   rfl
 case load T p => cases hp : getO σ.t p <;> simp only [hp] at hA <;> first | (simp [Acc.writes] at hA; done) | (cases hT : tab.ty T <;> simp [hT, Acc.writes] at hA)
 case nilCheck x => cases hp : getO σ.t x <;> simp [hp, Acc.writes] at hA
 case fieldAddr T x f => cases hp : getO σ.t x <;> simp [hp, Acc.writes] at hA
 case slice T x lo hi mx => cases hp : getO σ.t x <;> simp [hp, accLst, Acc.writes] at hA
 case indexAddr T x i => cases hp : getO σ.t x <;> simp [hp, accLst, Acc.writes] at hA
 case call cl =>
  cases hc : cl.callee with
  | invoke r m => simp [hc, Acc.writes] at hA
  | builtin b =>
   simp only [hc] at hA
   cases b <;> simp only [] at hA <;> try (simp [Acc.writes] at hA; done)
   rcases ha : cl.args.toList with _ | ⟨x, _ | ⟨y, l⟩⟩ <;> simp only [ha] at hA <;> try (simp [Acc.writes] at hA; done)
   cases hp : getO σ.t x <;> simp [hp, accLst, Acc.writes] at hA
  | value f =>
   simp only [hc] at hA
   cases f <;> simp only [] at hA <;> try (simp [Acc.writes] at hA; done)
   split at hA <;> simp [Acc.writes] at hA
theorem Eff.t (e : Eff) (d : Option Nat) (σ : St) (i : Nat) : getT (e.app d σ).t i = if d = some i then e.V else getT σ.t i := getT_put _ _ _ _
theorem Eff.b (e : Eff) (d : Option Nat) (σ : St) (k : Nat) : getB (e.app d σ).b k = match e.bu with | some p => if p.1 = k then p.2 else getB σ.b k | none => getB σ.b k := by
 unfold Eff.app
 rw [put_b]
 cases e.bu with
 | none => rfl
 | some p => obtain ⟨j, l⟩ := p; exact getB_cons _ _ _ _
theorem Eff.s (e : Eff) (d : Option Nat) (σ : St) : (e.app d σ).s = match e.su with | some p => writeL σ.s p.1 p.2 | none => σ.s := by unfold Eff.app; rw [put_s]
theorem Eff.rest (e : Eff) (d : Option Nat) (σ : St) : (e.app d σ).v = σ.v ∧ (e.app d σ).c = σ.c ∧ (e.app d σ).fr = σ.fr := by unfold Eff.app; rw [put_v, put_c, put_fr]; exact ⟨rfl, rfl, rfl⟩
theorem writeL_comm {l m n : List AV} {i j : Nat} (h1 : i + m.length ≤ l.length) (h2 : j + n.length ≤ l.length) (h : i + m.length ≤ j ∨ j + n.length ≤ i) : writeL (writeL l i m) j n = writeL (writeL l j n) i m := by
 apply List.ext_getElem?
 intro q
 unfold writeL
 rw [get?_write _ n j q (by rw [show (l.take i ++ (m ++ l.drop (i + m.length))).length = l.length from writeL_length h1]; exact h2), get?_write l m i q h1, get?_write _ m i q (by rw [show (l.take j ++ (n ++ l.drop (j + n.length))).length = l.length from writeL_length h2]; exact h1), get?_write l n j q h2]
 split <;> split <;> first | rfl | omega
end
end Go.AI
