/- DERIVED. THE EVALUATOR, THE READER, THE SCANNER: lemmas for Deep. -/
import Derived.Test.YtoppjmglhddleaaGreatBg
import Derived.Test.YtoppjmglhddleaaGreatBf
set_option linter.unusedVariables false
set_option linter.unusedSimpArgs false
namespace Go.AI.Rd
def NG (x : Made) : Prop := 200 ≤ Node.k x.n ∧ litOK x.n = true
def N1 (R row : List Made) : Prop := ∃ tr x, row = R ++ (tr ++ [x]) ∧ tr.all triv = true ∧ NG x
def Op (R row : List Made) : Prop := ∃ tr x more, row = R ++ (tr ++ x :: more) ∧ tr.all triv = true ∧ NG x
def Nt (R row : List Made) : Prop := ∃ new, row = R ++ new ∧ new.any (fun x => !triv x) = true
theorem NG.not_triv {x : Made} (h : NG x) : triv x = false := by unfold triv; have := h.1; simp; omega
theorem N1.op {R row : List Made} (h : N1 R row) : Op R row := by obtain ⟨tr, x, h1, h2, h3⟩ := h; exact ⟨tr, x, [], h1, h2, h3⟩
theorem N1.pre {R row : List Made} (h : N1 R row) : R <+: row := by obtain ⟨tr, x, h1, h2, h3⟩ := h; exact ⟨_, h1.symm⟩
theorem Op.pre {R row : List Made} (h : Op R row) : R <+: row := by obtain ⟨tr, x, m, h1, h2, h3⟩ := h; exact ⟨_, h1.symm⟩
theorem Op.trans {R row row' : List Made} (h : Op R row) (hp : row <+: row') : Op R row' := by
 obtain ⟨tr, x, m, h1, h2, h3⟩ := h
 obtain ⟨n, rfl⟩ := hp
 exact ⟨tr, x, m ++ n, by rw [h1]; simp, h2, h3⟩
theorem N1.nt {R row : List Made} (h : N1 R row) : Nt R row := by
 obtain ⟨tr, x, h1, h2, h3⟩ := h
 exact ⟨_, h1, by simp [h3.not_triv]⟩
theorem Nt.trans {R row row' : List Made} (h : Nt R row) (hp : row <+: row') : Nt R row' := by
 obtain ⟨n, h1, h2⟩ := h
 obtain ⟨m, rfl⟩ := hp
 exact ⟨n ++ m, by rw [h1]; simp, by simp only [List.any_append, h2, Bool.true_or]⟩
theorem Op.nt {R row : List Made} (h : Op R row) : Nt R row := by
 obtain ⟨tr, x, m, h1, h2, h3⟩ := h
 exact ⟨_, h1, by simp [h3.not_triv]⟩
def Wl (B : Nat) (m : M) (a : A) (ms : List Int) (Q : Int → A → Prop) : Prop := Wp m a ms fun r b => b.row.length + 8 * b.rest.length ≤ B ∧ (b.dead = false → Q r b)
section
variable {B : Nat} {a : A} {ms : List Int} {Q : Int → A → Prop}
theorem Wl.dead (hB : B ≤ 4294967000) {m : M} (hd : a.dead = true) (hb : a.row.length + 8 * a.rest.length ≤ B) : Wl B m a ms Q :=
 (dead_ends m a ms hd (by rw [room_iff]; omega)).mono fun r b hb' => ⟨by rw [hb'.2.2.1, hb'.2.2.2]; exact hb, fun h => absurd h (by rw [hb'.dead hd]; decide)⟩
theorem Wl.mono {m : M} {Q' : Int → A → Prop} (h : Wl B m a ms Q) (hq : ∀ r b, b.dead = false → Q r b → Q' r b) : Wl B m a ms Q' :=
 Wp.mono h fun r b hb => ⟨hb.1, fun hd => hq r b hd (hb.2 hd)⟩
theorem Wl.ret {v : Int} (hb : a.row.length + 8 * a.rest.length ≤ B) (h : Q v a) : Wl B (.ret v) a ms Q := Wp.ret ⟨hb, fun _ => h⟩
theorem Wl.kind {k : Int → M} (h : ∀ x, a.kinds.getD 0 0 = x → Wl B (k x) a ms Q) : Wl B (kind k) a ms Q := h _ rfl
theorem Wl.look {f : List Int → Int} {k : Int → M} (h : ∀ x, f a.kinds = x → Wl B (k x) a ms Q) : Wl B (.look f k) a ms Q := h _ rfl
theorem Wl.lookB {f : List Int → Bool} {k : Bool → M} (h1 : f a.kinds = true → Wl B (k true) a ms Q) (h2 : f a.kinds = false → Wl B (k false) a ms Q) : Wl B (.lookB f k) a ms Q := by
 refine Wp.lookB ?_
 cases hc : f a.kinds with
 | true => exact h1 hc
 | false => exact h2 hc
theorem comesF_ne {ks l : List Int} (h : comesF ks l = true) : l.getD 0 0 ≠ 0 := by
 unfold comesF at h; simp only [Bool.and_eq_true, decide_eq_true_eq] at h; exact h.1
theorem comesF_mem {ks l : List Int} (h : comesF ks l = true) : l.getD 0 0 ∈ ks := by
 unfold comesF at h; simp only [Bool.and_eq_true, List.contains_iff_mem] at h; exact h.2
theorem comesF_of {ks l : List Int} (h : l.getD 0 0 ∈ ks) (h0 : l.getD 0 0 ≠ 0) : comesF ks l = true := by
 unfold comesF; simp only [Bool.and_eq_true, decide_eq_true_eq, List.contains_iff_mem]; exact ⟨h0, h⟩
theorem Wl.comes {ks : List Int} {k : Bool → M} (h1 : comesF ks a.kinds = true → a.kinds.getD 0 0 ≠ 0 → Wl B (k true) a ms Q) (h2 : comesF ks a.kinds = false → Wl B (k false) a ms Q) : Wl B (comes ks k) a ms Q :=
 Wl.lookB (fun hc => h1 hc (comesF_ne hc)) h2
theorem Wl.deadq {k : Bool → M} (hd : a.dead = false) (h : Wl B (k false) a ms Q) : Wl B (.dead k) a ms Q := Wp.deadq (by rw [hd]; exact h)
theorem Wl.mark {k : M} (hr : ms.length < 4294967264) (h : Wl B k a (ms ++ [(a.row.length : Int)]) Q) : Wl B (.mark k) a ms Q := Wp.mark (.inr hr) h
theorem Wl.fail (hB : B ≤ 4294967000) {c : Int} {k : M} (hb : a.row.length + 8 * a.rest.length ≤ B) : Wl B (.fail c k) a ms Q := by
 refine Wp.fail (Wl.dead hB (fail_dead' c) ?_)
 obtain ⟨h1, h2, h3, h4⟩ := fail_dg (a := a) c
 rw [h2, h3]; exact hb
theorem take_live (hd : a.dead = false) (hk : a.kinds.getD 0 0 ≠ 0) : a.take.dead = false ∧ a.take.opn = a.opn ∧ a.row <+: a.take.row ∧ a.take.rest.length + 1 ≤ a.rest.length ∧ a.take.row.length + 8 * a.take.rest.length + 7 ≤ a.row.length + 8 * a.rest.length := by
 have hlt := take_lt hk
 have hg : a.dg = none := by unfold A.dead at hd; cases hx : a.dg with | none => rfl | some d => rw [hx] at hd; cases hd
 unfold A.kinds at hk; rw [hg] at hk
 unfold A.take at hlt ⊢
 rw [hg] at hlt ⊢
 cases hc : cutSig a.rest with
 | none => simp only [cutSig_none hc] at hk; exact absurd rfl hk
 | some x =>
  obtain ⟨s, t, r⟩ := x
  obtain ⟨h1, _, _⟩ := cutSig_some hc
  refine ⟨?_, rfl, ⟨_, rfl⟩, ?_, ?_⟩
  ·unfold A.dead; simp only [hg]; rfl
  ·simp only [h1, List.length_append, List.length_cons]; omega
  ·simp only [h1, List.length_append, List.length_cons, List.length_map, List.length_nil]; omega
theorem Wl.take {k : M} (hB : B ≤ 4294967000) (hd : a.dead = false) (hb : a.row.length + 8 * a.rest.length ≤ B) (hk : a.kinds.getD 0 0 ≠ 0)
  (h : ∀ b, b.dead = false → b.opn = a.opn → a.row <+: b.row → b.rest.length + 1 ≤ a.rest.length → b.row.length + 8 * b.rest.length + 7 ≤ a.row.length + 8 * a.rest.length → Wl B k b ms Q) : Wl B (.take k) a ms Q := by
 obtain ⟨h1, h2, h3, h4, h5⟩ := take_live hd hk
 exact Wp.take (by rw [room_iff]; omega) (h _ h1 h2 h3 h4 h5)
theorem Wl.taken {ks : List Int} {k : Bool → M} (hB : B ≤ 4294967000) (hd : a.dead = false) (hb : a.row.length + 8 * a.rest.length ≤ B)
  (h1 : ∀ b, b.dead = false → b.opn = a.opn → a.row <+: b.row → b.rest.length + 1 ≤ a.rest.length → b.row.length + 8 * b.rest.length + 7 ≤ a.row.length + 8 * a.rest.length → Wl B (k true) b ms Q)
  (h2 : comesF ks a.kinds = false → Wl B (k false) a ms Q) : Wl B (taken ks k) a ms Q :=
 Wl.comes (fun hc hk => Wl.take hB hd hb hk h1) h2
theorem Wl.expect {c : Int} {k : M} (hc : c ≠ 0) (hB : B ≤ 4294967000) (hd : a.dead = false) (hb : a.row.length + 8 * a.rest.length ≤ B)
  (h : ∀ b, b.dead = false → b.opn = a.opn → a.row <+: b.row → b.rest.length + 1 ≤ a.rest.length → b.row.length + 8 * b.rest.length + 7 ≤ a.row.length + 8 * a.rest.length → Wl B k b ms Q) : Wl B (expect c k) a ms Q := by
 refine Wl.kind fun x hx => ?_
 split
 ·rename_i hc'; exact Wl.take hB hd hb (by rw [hx, hc']; exact hc) h
 ·exact Wl.fail hB hb
theorem Wl.ite {c : Prop} [Decidable c] {m1 m2 : M} (h1 : c → Wl B m1 a ms Q) (h2 : ¬ c → Wl B m2 a ms Q) : Wl B (if c then m1 else m2) a ms Q := by
 split
 ·exact h1 ‹_›
 ·exact h2 ‹_›
theorem none_live (hd : a.dead = false) : a.none_.dead = false ∧ a.none_.opn = a.opn ∧ a.none_.rest = a.rest ∧ N1 a.row a.none_.row ∧ a.none_.row.length = a.row.length + 1 ∧ a.none_.kinds = a.kinds := by
 have hg : a.dg = none := by unfold A.dead at hd; cases hx : a.dg with | none => rfl | some d => rw [hx] at hd; cases hd
 unfold A.none_
 rw [hg]
 refine ⟨?_, rfl, rfl, ⟨[], ⟨.mk 200 a.here a.here [], 0⟩, by simp, rfl, ?_⟩, by simp, ?_⟩
 ·rfl
 ·exact ⟨by show (200 : Int) ≤ 200; omega, by simp [Rd.litOK, Node.k]⟩
 ·unfold A.kinds; rw [hg]
theorem Wl.none_ {k : M} (hB : B ≤ 4294967000) (hd : a.dead = false) (hb : a.row.length + 8 * a.rest.length ≤ B)
  (h : ∀ b, b.dead = false → b.opn = a.opn → b.rest.length = a.rest.length → N1 a.row b.row → b.row.length = a.row.length + 1 → Wl B k b ms Q) : Wl B (.none_ k) a ms Q := by
 obtain ⟨h1, h2, h3, h4, h5, _⟩ := none_live hd
 exact Wp.none_ (by rw [room_iff]; omega) (h _ h1 h2 (by rw [h3]) h4 h5)
theorem litOK_nodeOf (kd hr : Int) (kids : List Made) (h : (kd ≠ 207 ∧ kd ≠ 208) ∨ ∃ x more, kids = x :: more ∧ NG x) : Rd.litOK (nodeOf kd hr kids).n = true := by
 unfold Rd.litOK nodeOf
 rcases h with h | ⟨x, more, rfl, hx, hl⟩
 ·simp [Node.k, h.1, h.2]
 ·unfold Rd.litOK at hl
  simp only [Bool.and_eq_true] at hl ⊢
  refine ⟨?_, ?_⟩
  ·simp only [part0, Node.kids, List.map_cons, Bool.or_eq_true]; right; exact decide_eq_true hx
  ·simp only [part0, Node.k, Node.kids, List.map_cons, List.getD_cons_zero, Bool.or_eq_true, Bool.and_eq_true, decide_eq_true_eq]
   right
   refine ⟨decide_eq_true hx, ?_⟩
   have := hl.1
   simp only [Bool.or_eq_true, decide_eq_true_eq] at this
   exact this
theorem dropTriv {tr : List Made} {x : Made} {more : List Made} (ht : tr.all triv = true) (hx : triv x = false) : (tr ++ x :: more).dropWhile triv = x :: more ∧ (tr ++ x :: more).takeWhile triv = tr := by
 have h : ∀ y ∈ tr, triv y = true := by simpa using ht
 refine ⟨?_, ?_⟩
 ·rw [List.dropWhile_append_of_pos h, List.dropWhile_cons_of_neg (by rw [hx]; decide)]
 ·rw [List.takeWhile_append_of_pos h, List.takeWhile_cons_of_neg (by rw [hx]; decide), List.append_nil]
theorem clamp_prefix {R : List Made} (hp : R <+: a.row) : a.clamp (R.length : Int) = R.length := by
 have := hp.length_le
 unfold A.clamp; omega
theorem Wl.close {hh : Nat} {kd : Int} {k : M} {R : List Made} (hm : ms.getD hh 0 = (R.length : Int)) (hB : B ≤ 4294967000) (hd : a.dead = false) (hb : a.row.length + 8 * a.rest.length + 1 ≤ B) (hp : R <+: a.row) (hk : 200 ≤ kd ∧ ((kd ≠ 207 ∧ kd ≠ 208) ∨ Op R a.row))
  (h : ∀ b, b.dead = false → b.opn = a.opn → b.rest.length = a.rest.length → N1 R b.row → b.row.length ≤ a.row.length + 1 → Wl B k b ms Q) : Wl B (.close hh kd k) a ms Q := by
 have hg : a.dg = none := by unfold A.dead at hd; cases hx : a.dg with | none => rfl | some d => rw [hx] at hd; cases hd
 refine Wp.close (by rw [room_iff]; omega) ?_
 rw [hm]
 obtain ⟨h1, h2, h3, h4⟩ := close_row hg (R.length : Int) kd
 rw [clamp_prefix hp] at h1
 obtain ⟨new, hn⟩ := hp
 have ht : a.row.take R.length = R := by rw [← hn]; simp
 have hdr : a.row.drop R.length = new := by rw [← hn]; simp
 rw [ht, hdr] at h1
 have hl : (a.close (R.length : Int) kd).row.length ≤ a.row.length + 1 := by
  rw [h1, ← hn]
  simp only [List.length_append, List.length_singleton]
  have := List.takeWhile_prefix (l := new) triv |>.length_le
  omega
 cases hdd : (a.close (R.length : Int) kd).dead with
 | true => exact Wl.dead hB hdd (by rw [h3]; omega)
 | false =>
  refine h _ hdd h4 (by rw [h3]) ⟨_, _, h1, ?_, ?_⟩ hl
  ·clear h1 hdr hn hl
   induction new with
   | nil => rfl
   | cons y r ih =>
    by_cases hy : triv y = true
    ·rw [List.takeWhile_cons_of_pos hy]; simp [hy]
    ·rw [List.takeWhile_cons_of_neg hy]; rfl
  ·unfold A.closed
   refine ⟨hk.1, litOK_nodeOf _ _ _ (hk.2.imp id fun ho => ?_)⟩
   obtain ⟨tr, x, more, e1, e2, e3⟩ := ho
   have : new = tr ++ x :: more := by rw [← hn] at e1; exact List.append_cancel_left e1
   rw [hdr, this]
   exact ⟨x, more, (dropTriv e2 e3.not_triv).1, e3⟩
theorem Wl.lit {hh : Nat} {head : Bool} {k : Bool → M} {R : List Made} (hm : ms.getD hh 0 = (R.length : Int)) (hn : Op R a.row) (h : ∀ c, Wl B (k c) a ms Q) : Wl B (.lit hh head k) a ms Q := by
 refine Wp.lit (.inr ?_) (h _)
 rw [hm]
 obtain ⟨tr, x, more, e1, e2, e3⟩ := hn
 unfold A.litOK A.first
 have : (a.row.drop ((R.length : Int)).toNat).find? (fun x => !triv x) = some x := by
  rw [e1]
  simp only [Int.toNat_natCast, List.drop_left']
  have ht : tr.find? (fun x => !triv x) = none := by simpa using e2
  rw [List.find?_append, ht]
  simp [e3.not_triv]
 rw [this]
 simp [e3.2]
theorem Wl.tt {m1 m2 : M} (h : Wl B m1 a ms Q) : Wl B (if true = true then m1 else m2) a ms Q := h
theorem Wl.ff {m1 m2 : M} (h : Wl B m2 a ms Q) : Wl B (if false = true then m1 else m2) a ms Q := h
theorem Wl.down {k : Bool → M} (hB : B ≤ 4294967000) (hd : a.dead = false) (hb : a.row.length + 8 * a.rest.length ≤ B) (h1 : a.opn ≠ 100 → Wl B (k true) { a with opn := a.opn + 1 } ms Q) : Wl B (.down k) a ms Q := by
 have hg : a.dg = none := by unfold A.dead at hd; cases hx : a.dg with | none => rfl | some d => rw [hx] at hd; cases hd
 refine Wp.down ?_
 unfold A.down
 rw [hg]
 simp only
 split
 ·refine Wl.dead hB (fail_dead' 202) ?_
  obtain ⟨h1, h2, h3, h4⟩ := fail_dg (a := a) 202
  simp only [h2, h3]; exact hb
 ·rename_i hc
  have h := h1 hc
  rw [hg] at h
  exact h
theorem Wl.up {k : M} (h : Wl B k a.up ms Q) : Wl B (.up k) a ms Q := h
theorem Wl.call {pr : Proc} {hs : List Nat} {k : Int → M} {Q1 : Int → A → Prop} (h : Wl B (body pr) a (hs.map fun h => ms.getD h 0) Q1) (hB : B ≤ 4294967000) (hk : ∀ r b, b.dead = false → Q1 r b → Wl B (k r) b ms Q) : Wl B (.call pr hs k) a ms Q := by
 refine Wp.call (Wp.mono h fun r b hb => ?_)
 cases hd : b.dead with
 | true => exact Wl.dead hB hd hb.1
 | false => exact hk r b hd (hb.2 hd)
theorem entsOK_ext {row : List Made} (new : List Made) : ∀ {l : List Ent} {m : Int}, 0 ≤ m → entsOK row m l = true → entsOK (row ++ new) m l = true
 | [], m, _, h => by simp only [entsOK, decide_eq_true_eq, List.length_append] at h ⊢; omega
 | e :: r, m, hm, h => by
  simp only [entsOK, Bool.and_eq_true, decide_eq_true_eq] at h ⊢
  obtain ⟨h1, h2, h3, h4⟩ := h
  have := entsOK_le h4
  refine ⟨h1, h2, ?_, entsOK_ext new (by omega) h4⟩
  rw [List.take_append_of_le_length (by omega)]; exact h3
theorem entsOK_snoc {row new : List Made} (hn : new.any (fun x => !triv x) = true) (b : Bool) : ∀ {l : List Ent} {m : Int}, 0 ≤ m → entsOK row m l = true → entsOK (row ++ new) m (l ++ [⟨(row.length : Int), ((row ++ new).length : Int), b⟩]) = true
 | [], m, _, h => by
  simp only [entsOK, decide_eq_true_eq] at h
  simp only [List.nil_append, entsOK, Bool.and_eq_true, decide_eq_true_eq, List.length_append]
  refine ⟨h, by omega, ?_, by omega⟩
  rw [show (((row.length + new.length : Nat) : Int)).toNat = row.length + new.length by omega, Int.toNat_natCast, List.take_of_length_le (by simp), List.drop_left']
  ·exact hn
  ·rfl
 | e :: r, m, hm, h => by
  simp only [entsOK, Bool.and_eq_true, decide_eq_true_eq] at h
  simp only [List.cons_append, entsOK, Bool.and_eq_true, decide_eq_true_eq]
  obtain ⟨h1, h2, h3, h4⟩ := h
  have := entsOK_le h4
  refine ⟨h1, h2, ?_, entsOK_snoc hn b (by omega) h4⟩
  rw [List.take_append_of_le_length (by omega)]; exact h3
theorem entsOK_ge {row : List Made} : ∀ {l : List Ent} {m : Int}, entsOK row m l = true → ∀ e ∈ l, m ≤ e.from_ ∧ m ≤ e.to_
 | [], m, _, e, he => by cases he
 | x :: r, m, h, e, he => by
  simp only [entsOK, Bool.and_eq_true, decide_eq_true_eq] at h
  obtain ⟨h1, h2, h3, h4⟩ := h
  rcases List.mem_cons.1 he with rfl | he
  ·omega
  ·have := entsOK_ge h4 e he; omega
theorem entsOf_snocT : ∀ {ns : List Bool} {ms : List Int} (f t : Int) (b : Bool), ms.length = 2 * ns.length → entsOf (ms ++ [f, t]) (ns ++ [b]) = entsOf ms ns ++ [⟨f, t, b⟩]
 | [], [], f, t, b, _ => rfl
 | [], _ :: _, f, t, b, h => by simp at h
 | n :: ns, [], f, t, b, h => by simp at h
 | n :: ns, [_], f, t, b, h => by simp at h; omega
 | n :: ns, x :: y :: ms, f, t, b, h => by
  simp only [List.cons_append, entsOf]
  rw [entsOf_snocT f t b (by simp at h; omega)]
theorem backG_mem (any : Bool) : ∀ (l : List Ent) (t f : Int) (g : Int × Int), g ∈ backG any t f l → (g.1 = f ∨ ∃ e ∈ l, g.1 = e.from_) ∧ (g.2 = t ∨ ∃ e ∈ l, g.2 = e.to_)
 | [], t, f, g, h => by
  simp only [backG, List.mem_singleton] at h; subst h; exact ⟨.inl rfl, .inl rfl⟩
 | x :: r, t, f, g, h => by
  simp only [backG] at h
  split at h
  ·obtain ⟨h1, h2⟩ := backG_mem any r t x.from_ g h
   refine ⟨.inr ?_, h2.imp id fun ⟨e, he, h⟩ => ⟨e, List.mem_cons_of_mem _ he, h⟩⟩
   rcases h1 with h1 | ⟨e, he, h1⟩
   ·exact ⟨x, List.mem_cons_self, h1⟩
   ·exact ⟨e, List.mem_cons_of_mem _ he, h1⟩
  ·rcases List.mem_cons.1 h with rfl | h
   ·exact ⟨.inl rfl, .inl rfl⟩
   ·obtain ⟨h1, h2⟩ := backG_mem any r x.to_ x.from_ g h
    refine ⟨.inr ?_, .inr ?_⟩
    ·rcases h1 with h1 | ⟨e, he, h1⟩
     ·exact ⟨x, List.mem_cons_self, h1⟩
     ·exact ⟨e, List.mem_cons_of_mem _ he, h1⟩
    ·rcases h2 with h2 | ⟨e, he, h2⟩
     ·exact ⟨x, List.mem_cons_self, h2⟩
     ·exact ⟨e, List.mem_cons_of_mem _ he, h2⟩
theorem backG_len (any : Bool) : ∀ (l : List Ent) (t f : Int), (backG any t f l).length ≤ l.length + 1
 | [], t, f => by simp [backG]
 | x :: r, t, f => by
  simp only [backG]
  split
  ·have := backG_len any r t x.from_; simp only [List.length_cons]; omega
  ·have := backG_len any r x.to_ x.from_; simp only [List.length_cons]; omega
theorem backGroups_mem {any : Bool} {l : List Ent} {g : Int × Int} (h : g ∈ backGroups any l) : (∃ e ∈ l, g.1 = e.from_) ∧ (∃ e ∈ l, g.2 = e.to_) := by
 cases l with
 | nil => simp [backGroups] at h
 | cons x r =>
  simp only [backGroups] at h
  obtain ⟨h1, h2⟩ := backG_mem any r _ _ _ h
  refine ⟨?_, ?_⟩
  ·rcases h1 with h1 | ⟨e, he, h1⟩
   ·exact ⟨x, List.mem_cons_self, h1⟩
   ·exact ⟨e, List.mem_cons_of_mem _ he, h1⟩
  ·rcases h2 with h2 | ⟨e, he, h2⟩
   ·exact ⟨x, List.mem_cons_self, h2⟩
   ·exact ⟨e, List.mem_cons_of_mem _ he, h2⟩
theorem backGroups_len (any : Bool) (l : List Ent) : (backGroups any l).length ≤ l.length := by
 cases l with
 | nil => simp [backGroups]
 | cons x r => simp only [backGroups, List.length_cons]; exact backG_len any r _ _
theorem close_opn (m k : Int) : (a.close m k).opn = a.opn := by
 cases hd : a.dg with
 | none => exact (close_row hd m k).2.2.2
 | some d => rw [close_dead (by unfold A.dead; rw [hd]; rfl)]
theorem close_len (m k : Int) : (a.close m k).row.length ≤ a.row.length + 1 := by
 cases hd : a.dg with
 | none =>
  rw [(close_row hd m k).1]
  simp only [List.length_append, List.length_singleton, List.length_take]
  have := List.takeWhile_prefix (l := a.row.drop (a.clamp m)) triv |>.length_le
  simp only [List.length_drop] at this
  omega
 | some d => rw [close_dead (by unfold A.dead; rw [hd]; rfl)]; omega
theorem close_pre {R : List Made} (hp : R <+: a.row) {m : Int} (hm : (R.length : Int) ≤ m) (k : Int) : R <+: (a.close m k).row := by
 cases hd : a.dg with
 | none =>
  rw [(close_row hd m k).1]
  refine List.IsPrefix.trans ?_ (List.prefix_append _ _)
  refine List.prefix_take_iff.2 ⟨hp, ?_⟩
  have := hp.length_le
  unfold A.clamp; omega
 | some d => rw [close_dead (by unfold A.dead; rw [hd]; rfl)]; exact hp
theorem group1_facts (g : Int × Int) : (A.group1 g a).rest = a.rest ∧ (A.group1 g a).opn = a.opn ∧ (A.group1 g a).row.length ≤ a.row.length + 1 ∧ (∀ R : List Made, R <+: a.row → (R.length : Int) ≤ g.1 → (R.length : Int) ≤ g.2 → R <+: (A.group1 g a).row) := by
 unfold A.group1
 refine ⟨close_rest _ _, close_opn _ _, ?_, fun R hp h1 h2 => ?_⟩
 ·have := close_len (a := { a with row := a.row.take g.2.toNat }) g.1 233
  simp only [List.length_append, List.length_drop, List.length_take] at this ⊢
  omega
 ·refine List.IsPrefix.trans (close_pre ?_ h1 233) (List.prefix_append _ _)
  exact List.prefix_take_iff.2 ⟨hp, by omega⟩
theorem groups_facts : ∀ (gs : List (Int × Int)) (a : A), (gs.foldl (fun b g => A.group1 g b) a).rest = a.rest ∧ (gs.foldl (fun b g => A.group1 g b) a).opn = a.opn ∧ (gs.foldl (fun b g => A.group1 g b) a).row.length ≤ a.row.length + gs.length ∧ (∀ R : List Made, R <+: a.row → (∀ g ∈ gs, (R.length : Int) ≤ g.1 ∧ (R.length : Int) ≤ g.2) → R <+: (gs.foldl (fun b g => A.group1 g b) a).row)
 | [], a => ⟨rfl, rfl, Nat.le_refl _, fun R hp _ => hp⟩
 | g :: gs, a => by
  obtain ⟨h1, h2, h3, h4⟩ := group1_facts (a := a) g
  obtain ⟨i1, i2, i3, i4⟩ := groups_facts gs (A.group1 g a)
  simp only [List.foldl_cons, List.length_cons]
  refine ⟨i1.trans h1, i2.trans h2, by omega, fun R hp hg => ?_⟩
  obtain ⟨g1, g2⟩ := hg g List.mem_cons_self
  exact i4 R (h4 R hp g1 g2) fun x hx => hg x (List.mem_cons_of_mem _ hx)
theorem group_facts (any : Bool) (l : List Ent) : (a.group any l).rest = a.rest ∧ (a.group any l).opn = a.opn ∧ (a.group any l).row.length ≤ a.row.length + l.length ∧ (∀ R : List Made, R <+: a.row → entsOK a.row R.length l = true → R <+: (a.group any l).row) := by
 unfold A.group
 split
 ·exact ⟨rfl, rfl, Nat.le_add_right _ _, fun R hp _ => hp⟩
 ·obtain ⟨h1, h2, h3, h4⟩ := groups_facts (backGroups any l.reverse) a
  refine ⟨h1, h2, ?_, fun R hp ho => h4 R hp fun g hg => ?_⟩
  ·have := backGroups_len any l.reverse
   rw [List.length_reverse] at this
   omega
  ·obtain ⟨⟨e, he, e1⟩, ⟨f, hf, f1⟩⟩ := backGroups_mem hg
   have x1 := entsOK_ge ho e (List.mem_reverse.1 he)
   have x2 := entsOK_ge ho f (List.mem_reverse.1 hf)
   omega
theorem Wl.group {ns : List Bool} {any : Bool} {k : M} (hB : B ≤ 4294967000) (hd : a.dead = false) (hb : a.row.length + 8 * a.rest.length + ns.length ≤ B) (he : entsOK a.row 0 (entsOf ms ns) = true)
  (h : ∀ b, b.dead = false → b.opn = a.opn → b.rest.length = a.rest.length → b.row.length ≤ a.row.length + ns.length → (∀ R : List Made, R <+: a.row → entsOK a.row R.length (entsOf ms ns) = true → R <+: b.row) → Wl B k b ms Q) : Wl B (.group ns any k) a ms Q := by
 obtain ⟨h1, h2, h3, h4⟩ := group_facts (a := a) any (entsOf ms ns)
 have := entsOf_length ms ns
 refine Wp.group (.inr ⟨by omega, by rw [room_iff]; omega, he⟩) ?_
 cases hdd : (a.group any (entsOf ms ns)).dead with
 | true => exact Wl.dead hB hdd (by rw [h1]; omega)
 | false => exact h _ hdd h2 (by rw [h1]) (by omega) h4
theorem Wl.names {ns : List Bool} {k : M} (hB : B ≤ 4294967000) (hd : a.dead = false) (hb : a.row.length + 8 * a.rest.length + ns.length ≤ B) (he : entsOK a.row 0 (entsOf ms ns) = true) (h : Wl B k a ms Q) : Wl B (.names ns k) a ms Q := by
 refine Wp.names (.inr ⟨by omega, he⟩) ?_
 unfold A.names
 split
 ·refine Wl.dead hB (fail_dead' 201) ?_
  obtain ⟨h1, h2, h3, h4⟩ := fail_dg (a := a) 201
  rw [h2, h3]; omega
 ·exact h
theorem range_mapT : ∀ (ms : List Int), (List.range ms.length).map (fun h => ms.getD h 0) = ms := by
 intro ms
 apply List.ext_getElem
 ·simp
 ·intro i h1 h2
  simp at h1
  simp [h1]
end
end Go.AI.Rd
section
namespace Go.AI.Rd
def rank : Proc → Nat
 | .deeper _ => 1 | .node _ pr => rank pr + 1 | .takeP => 0 | .items _ => 0 | .itemsL pr => rank pr + 1
 | .X _ => 2 | .X1 _ => 7 | .binary _ _ => 6 | .binaryL _ _ => 0 | .unary _ => 5 | .unary1 _ => 6 | .primary _ => 4 | .primaryL _ => 1
 | .period => 3 | .index => 4 | .unless _ => 3 | .indexL => 0 | .arguments => 4 | .argsL => 3 | .value => 3 | .value1 => 2 | .values => 0 | .valuesL => 4 | .operand => 3 | .flat => 1 | .flatL _ => 0
 | .Name => 2 | .List _ => 5 | .List1 _ => 3 | .ListL _ => 0 | .Type => 2 | .form => 4 | .formL => 0 | .elements => 3 | .qualified => 3 | .field => 4 | .fieldL => 3 | .element => 5 | .union => 4 | .unionL _ => 3
 | .Sig => 5 | .Sig1 => 3 | .Params => 2 | .Params1 => 0 | .ParamsL _ => 4 | .entry => 3 | .entry1 => 0 | .TParams => 2 | .TParams1 => 0 | .TParamsL _ => 5 | .TParams11 => 3 | .TParams11L => 5
def gain : Proc → Nat
 | .deeper pr => gain pr | .node _ pr => gain pr - 1 | .takeP => 7 | .items _ => 7
 | .X _ => 6 | .X1 _ => 6 | .binary _ _ => 6 | .unary _ => 6 | .unary1 _ => 6 | .primary _ => 6 | .period => 6 | .value => 6 | .value1 => 6 | .values => 7 | .operand => 6 | .flat => 7 | .flatL _ => 7
 | .Name => 6 | .List _ => 5 | .List1 _ => 6 | .Type => 6 | .form => 6 | .elements => 6 | .qualified => 6 | .field => 5 | .element => 4 | .union => 5 | .unionL _ => 5
 | .Sig => 11 | .Sig1 => 12 | .Params => 13 | .Params1 => 14 | .ParamsL _ => 7 | .entry => 6 | .entry1 => 13 | .TParams => 6 | .TParams1 => 7 | .TParams11 => 6
 | _ => 0
def loss : Proc → Nat
 | .index => 1 | .unless _ => 1 | .ParamsL ns => ns.length | _ => 0
def slack : Proc → Nat
 | .index => 6 | .ParamsL ns => ns.length + 3 | _ => 3
def dr : Proc → Nat
 | .deeper pr => dr pr | .node _ pr => dr pr
 | .itemsL _ | .binaryL _ _ | .primaryL _ | .index | .unless _ | .indexL | .arguments | .argsL | .valuesL | .ListL _ | .formL | .fieldL | .ParamsL _ | .TParamsL _ | .TParams11L => 0
 | _ => 1
def mu (pr : Proc) (a : A) : Nat := a.rest.length * 6464 + (100 - a.opn).toNat * 64 + rank pr
def dIn : Proc → Prop
 | .X1 _ | .unary1 _ | .value1 | .form => True
 | _ => False
def nIn : Proc → Prop
 | .takeP | .values | .flat | .Sig1 | .Params1 | .entry1 | .List1 _ | .TParams1 | .TParams11 => True
 | _ => False
def iIn : Proc → Prop
 | .field | .element => True
 | _ => False
def Pre' : Proc → A → List Int → Prop
 | .takeP, a, _ => a.kinds.getD 0 0 ≠ 0
 | .node k pr, a, ms => 200 ≤ k ∧ k ≠ 207 ∧ k ≠ 208 ∧ nIn pr ∧ ms = [] ∧ (pr = .takeP ∨ pr = .entry1 → a.kinds.getD 0 0 ≠ 0)
 | .entry1, a, ms => a.kinds.getD 0 0 ≠ 0
 | .deeper pr, a, ms => dIn pr ∧ ms = []
 | .items pr, a, ms => iIn pr ∧ ms = []
 | .itemsL pr, a, ms => iIn pr ∧ ms = []
 | .primaryL _, a, ms => ∃ R : List Made, ms = [(R.length : Int)] ∧ N1 R a.row
 | .binaryL _ _, a, ms => ∃ R : List Made, ms = [(R.length : Int)] ∧ N1 R a.row
 | .formL, a, ms => ∃ R : List Made, ms = [(R.length : Int)] ∧ Op R a.row
 | .fieldL, a, ms => ∃ R : List Made, ms = [(R.length : Int)] ∧ R <+: a.row
 | .ParamsL ns, a, ms => ms.length = 2 * ns.length ∧ entsOK a.row 0 (entsOf ms ns) = true ∧ 2 * ns.length + 2 * a.rest.length + 4 ≤ 4294967264
 | _, _, ms => ms = []
def Shape : Proc → A → List Int → Int → A → Prop
 | .takeP, a, _, _, b => a.row <+: b.row
 | .items _, a, _, _, b => a.row <+: b.row
 | .itemsL _, a, _, _, b => a.row <+: b.row
 | .period, a, _, r, b => a.row <+: b.row ∧ 200 ≤ r
 | .index, a, _, r, b => a.row <+: b.row ∧ 200 ≤ r
 | .indexL, a, _, r, b => a.row <+: b.row ∧ 200 ≤ r
 | .elements, a, _, r, b => a.row <+: b.row ∧ (r = 220 ∨ r = 221)
 | .unless _, a, _, _, b => a.row <+: b.row
 | .arguments, a, _, _, b => a.row <+: b.row
 | .argsL, a, _, _, b => a.row <+: b.row
 | .values, a, _, _, b => a.row <+: b.row
 | .valuesL, a, _, _, b => a.row <+: b.row
 | .flat, a, _, _, b => a.row <+: b.row
 | .flatL _, a, _, _, b => a.row <+: b.row
 | .List1 _, a, _, _, b => a.row <+: b.row
 | .ListL _, a, _, _, b => a.row <+: b.row
 | .union, a, _, _, b => a.row <+: b.row
 | .unionL _, a, _, _, b => a.row <+: b.row
 | .Sig1, a, _, _, b => a.row <+: b.row
 | .Params1, a, _, _, b => a.row <+: b.row
 | .entry1, a, _, _, b => a.row <+: b.row
 | .TParams1, a, _, _, b => a.row <+: b.row
 | .TParamsL _, a, _, _, b => a.row <+: b.row
 | .TParams11, a, _, _, b => a.row <+: b.row
 | .TParams11L, a, _, _, b => a.row <+: b.row
 | .binaryL _ _, a, ms, _, b => ∀ R : List Made, ms = [(R.length : Int)] → R <+: a.row → N1 R b.row
 | .primaryL _, a, ms, _, b => ∀ R : List Made, ms = [(R.length : Int)] → R <+: a.row → N1 R b.row
 | .formL, a, ms, _, b => ∀ R : List Made, ms = [(R.length : Int)] → R <+: a.row → N1 R b.row
 | .fieldL, a, ms, _, b => ∀ R : List Made, ms = [(R.length : Int)] → R <+: a.row → N1 R b.row
 | .entry, a, _, _, b => Nt a.row b.row
 | .ParamsL ns, a, ms, _, b => ∀ R : List Made, R <+: a.row → entsOK a.row R.length (entsOf ms ns) = true → R <+: b.row
 | _, a, _, _, b => N1 a.row b.row
structure Po (d g l : Nat) (S : Prop) (a b : A) : Prop where
 opn : b.opn = a.opn
 rest : b.rest.length + d ≤ a.rest.length
 phi : b.row.length + 8 * b.rest.length + g ≤ a.row.length + 8 * a.rest.length + l
 shape : S
structure PreT (B : Nat) (pr : Proc) (a : A) (ms : List Int) : Prop where
 live : a.dead = false
 opn0 : 0 ≤ a.opn
 opn1 : a.opn ≤ 100
 phi : a.row.length + 8 * a.rest.length + slack pr ≤ B
 pre : Pre' pr a ms
abbrev PostT (pr : Proc) (a : A) (ms : List Int) (r : Int) (b : A) : Prop := Po (dr pr) (gain pr) (loss pr) (Shape pr a ms r b) a b
def IHT (B N : Nat) : Prop := ∀ pr a ms, mu pr a < N → PreT B pr a ms → Wl B (body pr) a ms (PostT pr a ms)
theorem pre_eq {R R' l : List Made} (h : R <+: l) (h' : R' <+: l) (hl : R.length = R'.length) : R = R' := by
 obtain ⟨x, rfl⟩ := h
 obtain ⟨y, hy⟩ := h'
 exact (List.append_inj_left hy hl.symm).symm
theorem shapeR {R : List Made} {a b : A} (hp : R <+: a.row) (h : N1 R b.row) : ∀ R' : List Made, [(R.length : Int)] = [(R'.length : Int)] → R' <+: a.row → N1 R' b.row := by
 intro R' hl hp'
 have : R.length = R'.length := by have := (List.cons.inj hl).1; omega
 rw [← pre_eq hp hp' this]; exact h
section
variable {B : Nat} {a : A} {ms : List Int}
theorem t_takeP (hB : B ≤ 4294967000) (hpre : PreT B .takeP a ms) : Wl B (body .takeP) a ms (PostT .takeP a ms) := by
 obtain ⟨hd, h0, h1, hphi, hk⟩ := hpre
 simp only [slack] at hphi
 simp only [Pre'] at hk
 have hp := List.prefix_rfl (l := a.row)
 simp only [body, go, done, primM, itemsM, unaryM, valuesM, elemsM, entryM, List.map_nil]
 repeat' (first | with_reducible (first | refine Wl.tt ?_ | refine Wl.ff ?_ | refine Wl.kind fun x hx => ?_ | refine Wl.comes (fun hc hk => ?_) fun hc => ?_ | refine Wl.lookB (fun hc => ?_) fun hc => ?_ | refine Wl.deadq ‹_› ?_ | refine Wl.fail hB (by omega) | refine Wl.ite (fun hc => ?_) fun hc => ?_) | ((with_reducible refine Wl.ret (by omega) ⟨by omega, by (try simp only [dr]); omega, by (try simp only [gain, loss]); omega, ?_⟩); (try simp only [Shape]); first | assumption | exact List.prefix_rfl | exact hs.nt | exact hop.nt | (refine ⟨by assumption, ?_⟩; first | omega | (simp; done))) | ((with_reducible refine Wl.taken hB ‹_› (by omega) (fun b hd ho hq hr hn => ?_) (fun hc => ?_)) <;> ((try replace hop := hop.trans hq); (try replace hp := hp.trans hq))) | ((with_reducible refine Wl.expect (by decide) hB ‹_› (by omega) (fun b hd ho hq hr hn => ?_)); ((try replace hop := hop.trans hq); (try replace hp := hp.trans hq))) | ((with_reducible refine Wl.take hB ‹_› (by omega) (by first | assumption | omega) (fun b hd ho hq hr hn => ?_)); ((try replace hop := hop.trans hq); (try replace hp := hp.trans hq))) | ((with_reducible refine Wl.none_ hB ‹_› (by omega) (fun b hd ho hr hq hn => ?_)); (try replace hop := hop.trans hq.pre); (try replace hp := hp.trans hq.pre)) | ((refine Wl.close (by rfl) hB ‹_› (by omega) ‹_› ⟨by omega, by first | exact Or.inl ⟨by omega, by omega⟩ | exact Or.inr ‹_›⟩ (fun b hd ho hr hs hn => ?_)); (try replace hop := hs.op); (try replace hp := hs.pre)) | ((with_reducible refine Wl.mark (by decide) ?_); (try rw [List.nil_append])) | ((refine Wl.call (ih _ _ _ (by simp only [mu, rank]; omega) ⟨by assumption, by omega, by omega, by simp only [slack]; omega, by simp only [Pre']; first | rfl | trivial | assumption | omega | exact ⟨_, rfl, by assumption⟩ | (exact ⟨by omega, by omega, by omega, trivial, rfl, fun h => by first | omega | (rcases h with h | h <;> cases h)⟩) | exact ⟨trivial, rfl⟩⟩) hB (fun r b hd hq => ?_)); (obtain ⟨ho, hr, hn, hs⟩ := hq; simp only [dr, gain, loss, Shape, Nat.add_zero] at hr hn hs; (try replace hs := hs _ rfl ‹_›); (first | ((try replace hop := hop.trans hs); replace hp := hp.trans hs) | ((try replace hop := hop.trans hs.1); replace hp := hp.trans hs.1) | ((first | replace hop := hop.trans hs.pre | have hop := hs.op); (try replace hp := hp.trans hs.pre)) | skip))) | refine Wl.lit (by rfl) ‹_› (fun c => ?_))
set_option maxHeartbeats 4000000 in
theorem t_g0 (head : Bool) (q : Int) (ks : List Int) (n : Int) (more : Bool) (hB : B ≤ 4294967000) :
  (IHT B (mu (.X head) a) → PreT B (.X head) a ms → Wl B (body (.X head)) a ms (PostT (.X head) a ms)) ∧
  (IHT B (mu (.X1 head) a) → PreT B (.X1 head) a ms → Wl B (body (.X1 head)) a ms (PostT (.X1 head) a ms)) ∧
  (IHT B (mu (.binary q head) a) → PreT B (.binary q head) a ms → Wl B (body (.binary q head)) a ms (PostT (.binary q head) a ms)) ∧
  (IHT B (mu (.unary head) a) → PreT B (.unary head) a ms → Wl B (body (.unary head)) a ms (PostT (.unary head) a ms)) ∧
  (IHT B (mu (.unary1 head) a) → PreT B (.unary1 head) a ms → Wl B (body (.unary1 head)) a ms (PostT (.unary1 head) a ms)) ∧
  (IHT B (mu (.primary head) a) → PreT B (.primary head) a ms → Wl B (body (.primary head)) a ms (PostT (.primary head) a ms)) ∧
  (IHT B (mu .period a) → PreT B .period a ms → Wl B (body .period) a ms (PostT .period a ms)) ∧
  (IHT B (mu .index a) → PreT B .index a ms → Wl B (body .index) a ms (PostT .index a ms)) := by
 refine ⟨?_, ?_, ?_, ?_, ?_, ?_, ?_, ?_⟩ <;> (intro ih hpre; obtain ⟨hd, h0, h1, hphi, hk⟩ := hpre; simp only [slack] at hphi; simp only [Pre'] at hk; subst hk; have hp := List.prefix_rfl (l := a.row); (simp only [body, go, done, primM, itemsM, unaryM, valuesM, elemsM, entryM, List.map_nil]); repeat' (first | with_reducible (first | refine Wl.tt ?_ | refine Wl.ff ?_ | refine Wl.kind fun x hx => ?_ | refine Wl.comes (fun hc hk => ?_) fun hc => ?_ | refine Wl.lookB (fun hc => ?_) fun hc => ?_ | refine Wl.deadq ‹_› ?_ | refine Wl.fail hB (by omega) | refine Wl.ite (fun hc => ?_) fun hc => ?_) | ((with_reducible refine Wl.ret (by omega) ⟨by omega, by (try simp only [dr]); omega, by (try simp only [gain, loss]); omega, ?_⟩); (try simp only [Shape]); first | assumption | exact List.prefix_rfl | exact hs.nt | exact hop.nt | (refine ⟨by assumption, ?_⟩; first | omega | (simp; done))) | ((with_reducible refine Wl.taken hB ‹_› (by omega) (fun b hd ho hq hr hn => ?_) (fun hc => ?_)) <;> ((try replace hop := hop.trans hq); (try replace hp := hp.trans hq))) | ((with_reducible refine Wl.expect (by decide) hB ‹_› (by omega) (fun b hd ho hq hr hn => ?_)); ((try replace hop := hop.trans hq); (try replace hp := hp.trans hq))) | ((with_reducible refine Wl.take hB ‹_› (by omega) (by first | assumption | omega) (fun b hd ho hq hr hn => ?_)); ((try replace hop := hop.trans hq); (try replace hp := hp.trans hq))) | ((with_reducible refine Wl.none_ hB ‹_› (by omega) (fun b hd ho hr hq hn => ?_)); (try replace hop := hop.trans hq.pre); (try replace hp := hp.trans hq.pre)) | ((refine Wl.close (by rfl) hB ‹_› (by omega) ‹_› ⟨by omega, by first | exact Or.inl ⟨by omega, by omega⟩ | exact Or.inr ‹_›⟩ (fun b hd ho hr hs hn => ?_)); (try replace hop := hs.op); (try replace hp := hs.pre)) | ((with_reducible refine Wl.mark (by decide) ?_); (try rw [List.nil_append])) | ((refine Wl.call (ih _ _ _ (by simp only [mu, rank]; omega) ⟨by assumption, by omega, by omega, by simp only [slack]; omega, by simp only [Pre']; first | rfl | trivial | assumption | omega | exact ⟨_, rfl, by assumption⟩ | (exact ⟨by omega, by omega, by omega, trivial, rfl, fun h => by first | omega | (rcases h with h | h <;> cases h)⟩) | exact ⟨trivial, rfl⟩⟩) hB (fun r b hd hq => ?_)); (obtain ⟨ho, hr, hn, hs⟩ := hq; simp only [dr, gain, loss, Shape, Nat.add_zero] at hr hn hs; (try replace hs := hs _ rfl ‹_›); (first | ((try replace hop := hop.trans hs); replace hp := hp.trans hs) | ((try replace hop := hop.trans hs.1); replace hp := hp.trans hs.1) | ((first | replace hop := hop.trans hs.pre | have hop := hs.op); (try replace hp := hp.trans hs.pre)) | skip))) | refine Wl.lit (by rfl) ‹_› (fun c => ?_)))
theorem t_X (head : Bool) (hB : B ≤ 4294967000) (ih : IHT B (mu (.X head) a)) (hpre : PreT B (.X head) a ms) : Wl B (body (.X head)) a ms (PostT (.X head) a ms) := (t_g0 head 0 [] 0 false hB).1 ih hpre
theorem t_X1 (head : Bool) (hB : B ≤ 4294967000) (ih : IHT B (mu (.X1 head) a)) (hpre : PreT B (.X1 head) a ms) : Wl B (body (.X1 head)) a ms (PostT (.X1 head) a ms) := (t_g0 head 0 [] 0 false hB).2.1 ih hpre
theorem t_binary (q : Int) (head : Bool) (hB : B ≤ 4294967000) (ih : IHT B (mu (.binary q head) a)) (hpre : PreT B (.binary q head) a ms) : Wl B (body (.binary q head)) a ms (PostT (.binary q head) a ms) := (t_g0 head q [] 0 false hB).2.2.1 ih hpre
theorem t_unary (head : Bool) (hB : B ≤ 4294967000) (ih : IHT B (mu (.unary head) a)) (hpre : PreT B (.unary head) a ms) : Wl B (body (.unary head)) a ms (PostT (.unary head) a ms) := (t_g0 head 0 [] 0 false hB).2.2.2.1 ih hpre
theorem t_unary1 (head : Bool) (hB : B ≤ 4294967000) (ih : IHT B (mu (.unary1 head) a)) (hpre : PreT B (.unary1 head) a ms) : Wl B (body (.unary1 head)) a ms (PostT (.unary1 head) a ms) := (t_g0 head 0 [] 0 false hB).2.2.2.2.1 ih hpre
theorem t_primary (head : Bool) (hB : B ≤ 4294967000) (ih : IHT B (mu (.primary head) a)) (hpre : PreT B (.primary head) a ms) : Wl B (body (.primary head)) a ms (PostT (.primary head) a ms) := (t_g0 head 0 [] 0 false hB).2.2.2.2.2.1 ih hpre
theorem t_period (hB : B ≤ 4294967000) (ih : IHT B (mu .period a)) (hpre : PreT B .period a ms) : Wl B (body .period) a ms (PostT .period a ms) := (t_g0 false 0 [] 0 false hB).2.2.2.2.2.2.1 ih hpre
theorem t_index (hB : B ≤ 4294967000) (ih : IHT B (mu .index a)) (hpre : PreT B .index a ms) : Wl B (body .index) a ms (PostT .index a ms) := (t_g0 false 0 [] 0 false hB).2.2.2.2.2.2.2 ih hpre
set_option maxHeartbeats 4000000 in
theorem t_g1 (head : Bool) (q : Int) (ks : List Int) (n : Int) (more : Bool) (hB : B ≤ 4294967000) :
  (IHT B (mu (.unless ks) a) → PreT B (.unless ks) a ms → Wl B (body (.unless ks)) a ms (PostT (.unless ks) a ms)) ∧
  (IHT B (mu .indexL a) → PreT B .indexL a ms → Wl B (body .indexL) a ms (PostT .indexL a ms)) ∧
  (IHT B (mu .arguments a) → PreT B .arguments a ms → Wl B (body .arguments) a ms (PostT .arguments a ms)) ∧
  (IHT B (mu .argsL a) → PreT B .argsL a ms → Wl B (body .argsL) a ms (PostT .argsL a ms)) ∧
  (IHT B (mu .value a) → PreT B .value a ms → Wl B (body .value) a ms (PostT .value a ms)) ∧
  (IHT B (mu .value1 a) → PreT B .value1 a ms → Wl B (body .value1) a ms (PostT .value1 a ms)) ∧
  (IHT B (mu .values a) → PreT B .values a ms → Wl B (body .values) a ms (PostT .values a ms)) ∧
  (IHT B (mu .valuesL a) → PreT B .valuesL a ms → Wl B (body .valuesL) a ms (PostT .valuesL a ms)) := by
 refine ⟨?_, ?_, ?_, ?_, ?_, ?_, ?_, ?_⟩ <;> (intro ih hpre; obtain ⟨hd, h0, h1, hphi, hk⟩ := hpre; simp only [slack] at hphi; simp only [Pre'] at hk; subst hk; have hp := List.prefix_rfl (l := a.row); (simp only [body, go, done, primM, itemsM, unaryM, valuesM, elemsM, entryM, List.map_nil]); repeat' (first | with_reducible (first | refine Wl.tt ?_ | refine Wl.ff ?_ | refine Wl.kind fun x hx => ?_ | refine Wl.comes (fun hc hk => ?_) fun hc => ?_ | refine Wl.lookB (fun hc => ?_) fun hc => ?_ | refine Wl.deadq ‹_› ?_ | refine Wl.fail hB (by omega) | refine Wl.ite (fun hc => ?_) fun hc => ?_) | ((with_reducible refine Wl.ret (by omega) ⟨by omega, by (try simp only [dr]); omega, by (try simp only [gain, loss]); omega, ?_⟩); (try simp only [Shape]); first | assumption | exact List.prefix_rfl | exact hs.nt | exact hop.nt | (refine ⟨by assumption, ?_⟩; first | omega | (simp; done))) | ((with_reducible refine Wl.taken hB ‹_› (by omega) (fun b hd ho hq hr hn => ?_) (fun hc => ?_)) <;> ((try replace hop := hop.trans hq); (try replace hp := hp.trans hq))) | ((with_reducible refine Wl.expect (by decide) hB ‹_› (by omega) (fun b hd ho hq hr hn => ?_)); ((try replace hop := hop.trans hq); (try replace hp := hp.trans hq))) | ((with_reducible refine Wl.take hB ‹_› (by omega) (by first | assumption | omega) (fun b hd ho hq hr hn => ?_)); ((try replace hop := hop.trans hq); (try replace hp := hp.trans hq))) | ((with_reducible refine Wl.none_ hB ‹_› (by omega) (fun b hd ho hr hq hn => ?_)); (try replace hop := hop.trans hq.pre); (try replace hp := hp.trans hq.pre)) | ((refine Wl.close (by rfl) hB ‹_› (by omega) ‹_› ⟨by omega, by first | exact Or.inl ⟨by omega, by omega⟩ | exact Or.inr ‹_›⟩ (fun b hd ho hr hs hn => ?_)); (try replace hop := hs.op); (try replace hp := hs.pre)) | ((with_reducible refine Wl.mark (by decide) ?_); (try rw [List.nil_append])) | ((refine Wl.call (ih _ _ _ (by simp only [mu, rank]; omega) ⟨by assumption, by omega, by omega, by simp only [slack]; omega, by simp only [Pre']; first | rfl | trivial | assumption | omega | exact ⟨_, rfl, by assumption⟩ | (exact ⟨by omega, by omega, by omega, trivial, rfl, fun h => by first | omega | (rcases h with h | h <;> cases h)⟩) | exact ⟨trivial, rfl⟩⟩) hB (fun r b hd hq => ?_)); (obtain ⟨ho, hr, hn, hs⟩ := hq; simp only [dr, gain, loss, Shape, Nat.add_zero] at hr hn hs; (try replace hs := hs _ rfl ‹_›); (first | ((try replace hop := hop.trans hs); replace hp := hp.trans hs) | ((try replace hop := hop.trans hs.1); replace hp := hp.trans hs.1) | ((first | replace hop := hop.trans hs.pre | have hop := hs.op); (try replace hp := hp.trans hs.pre)) | skip))) | refine Wl.lit (by rfl) ‹_› (fun c => ?_)))
theorem t_unless (ks : List Int) (hB : B ≤ 4294967000) (ih : IHT B (mu (.unless ks) a)) (hpre : PreT B (.unless ks) a ms) : Wl B (body (.unless ks)) a ms (PostT (.unless ks) a ms) := (t_g1 false 0 ks 0 false hB).1 ih hpre
theorem t_indexL (hB : B ≤ 4294967000) (ih : IHT B (mu .indexL a)) (hpre : PreT B .indexL a ms) : Wl B (body .indexL) a ms (PostT .indexL a ms) := (t_g1 false 0 [] 0 false hB).2.1 ih hpre
theorem t_arguments (hB : B ≤ 4294967000) (ih : IHT B (mu .arguments a)) (hpre : PreT B .arguments a ms) : Wl B (body .arguments) a ms (PostT .arguments a ms) := (t_g1 false 0 [] 0 false hB).2.2.1 ih hpre
theorem t_argsL (hB : B ≤ 4294967000) (ih : IHT B (mu .argsL a)) (hpre : PreT B .argsL a ms) : Wl B (body .argsL) a ms (PostT .argsL a ms) := (t_g1 false 0 [] 0 false hB).2.2.2.1 ih hpre
theorem t_value (hB : B ≤ 4294967000) (ih : IHT B (mu .value a)) (hpre : PreT B .value a ms) : Wl B (body .value) a ms (PostT .value a ms) := (t_g1 false 0 [] 0 false hB).2.2.2.2.1 ih hpre
theorem t_value1 (hB : B ≤ 4294967000) (ih : IHT B (mu .value1 a)) (hpre : PreT B .value1 a ms) : Wl B (body .value1) a ms (PostT .value1 a ms) := (t_g1 false 0 [] 0 false hB).2.2.2.2.2.1 ih hpre
theorem t_values (hB : B ≤ 4294967000) (ih : IHT B (mu .values a)) (hpre : PreT B .values a ms) : Wl B (body .values) a ms (PostT .values a ms) := (t_g1 false 0 [] 0 false hB).2.2.2.2.2.2.1 ih hpre
theorem t_valuesL (hB : B ≤ 4294967000) (ih : IHT B (mu .valuesL a)) (hpre : PreT B .valuesL a ms) : Wl B (body .valuesL) a ms (PostT .valuesL a ms) := (t_g1 false 0 [] 0 false hB).2.2.2.2.2.2.2 ih hpre
set_option maxHeartbeats 4000000 in
theorem t_g2 (head : Bool) (q : Int) (ks : List Int) (n : Int) (more : Bool) (hB : B ≤ 4294967000) :
  (IHT B (mu .operand a) → PreT B .operand a ms → Wl B (body .operand) a ms (PostT .operand a ms)) ∧
  (IHT B (mu .flat a) → PreT B .flat a ms → Wl B (body .flat) a ms (PostT .flat a ms)) ∧
  (IHT B (mu (.flatL n) a) → PreT B (.flatL n) a ms → Wl B (body (.flatL n)) a ms (PostT (.flatL n) a ms)) ∧
  (IHT B (mu .Name a) → PreT B .Name a ms → Wl B (body .Name) a ms (PostT .Name a ms)) ∧
  (IHT B (mu (.List head) a) → PreT B (.List head) a ms → Wl B (body (.List head)) a ms (PostT (.List head) a ms)) ∧
  (IHT B (mu (.List1 head) a) → PreT B (.List1 head) a ms → Wl B (body (.List1 head)) a ms (PostT (.List1 head) a ms)) ∧
  (IHT B (mu (.ListL head) a) → PreT B (.ListL head) a ms → Wl B (body (.ListL head)) a ms (PostT (.ListL head) a ms)) ∧
  (IHT B (mu .Type a) → PreT B .Type a ms → Wl B (body .Type) a ms (PostT .Type a ms)) := by
 refine ⟨?_, ?_, ?_, ?_, ?_, ?_, ?_, ?_⟩ <;> (intro ih hpre; obtain ⟨hd, h0, h1, hphi, hk⟩ := hpre; simp only [slack] at hphi; simp only [Pre'] at hk; subst hk; have hp := List.prefix_rfl (l := a.row); (simp only [body, go, done, primM, itemsM, unaryM, valuesM, elemsM, entryM, List.map_nil]); repeat' (first | with_reducible (first | refine Wl.tt ?_ | refine Wl.ff ?_ | refine Wl.kind fun x hx => ?_ | refine Wl.comes (fun hc hk => ?_) fun hc => ?_ | refine Wl.lookB (fun hc => ?_) fun hc => ?_ | refine Wl.deadq ‹_› ?_ | refine Wl.fail hB (by omega) | refine Wl.ite (fun hc => ?_) fun hc => ?_) | ((with_reducible refine Wl.ret (by omega) ⟨by omega, by (try simp only [dr]); omega, by (try simp only [gain, loss]); omega, ?_⟩); (try simp only [Shape]); first | assumption | exact List.prefix_rfl | exact hs.nt | exact hop.nt | (refine ⟨by assumption, ?_⟩; first | omega | (simp; done))) | ((with_reducible refine Wl.taken hB ‹_› (by omega) (fun b hd ho hq hr hn => ?_) (fun hc => ?_)) <;> ((try replace hop := hop.trans hq); (try replace hp := hp.trans hq))) | ((with_reducible refine Wl.expect (by decide) hB ‹_› (by omega) (fun b hd ho hq hr hn => ?_)); ((try replace hop := hop.trans hq); (try replace hp := hp.trans hq))) | ((with_reducible refine Wl.take hB ‹_› (by omega) (by first | assumption | omega) (fun b hd ho hq hr hn => ?_)); ((try replace hop := hop.trans hq); (try replace hp := hp.trans hq))) | ((with_reducible refine Wl.none_ hB ‹_› (by omega) (fun b hd ho hr hq hn => ?_)); (try replace hop := hop.trans hq.pre); (try replace hp := hp.trans hq.pre)) | ((refine Wl.close (by rfl) hB ‹_› (by omega) ‹_› ⟨by omega, by first | exact Or.inl ⟨by omega, by omega⟩ | exact Or.inr ‹_›⟩ (fun b hd ho hr hs hn => ?_)); (try replace hop := hs.op); (try replace hp := hs.pre)) | ((with_reducible refine Wl.mark (by decide) ?_); (try rw [List.nil_append])) | ((refine Wl.call (ih _ _ _ (by simp only [mu, rank]; omega) ⟨by assumption, by omega, by omega, by simp only [slack]; omega, by simp only [Pre']; first | rfl | trivial | assumption | omega | exact ⟨_, rfl, by assumption⟩ | (exact ⟨by omega, by omega, by omega, trivial, rfl, fun h => by first | omega | (rcases h with h | h <;> cases h)⟩) | exact ⟨trivial, rfl⟩⟩) hB (fun r b hd hq => ?_)); (obtain ⟨ho, hr, hn, hs⟩ := hq; simp only [dr, gain, loss, Shape, Nat.add_zero] at hr hn hs; (try replace hs := hs _ rfl ‹_›); (first | ((try replace hop := hop.trans hs); replace hp := hp.trans hs) | ((try replace hop := hop.trans hs.1); replace hp := hp.trans hs.1) | ((first | replace hop := hop.trans hs.pre | have hop := hs.op); (try replace hp := hp.trans hs.pre)) | skip))) | refine Wl.lit (by rfl) ‹_› (fun c => ?_)))
theorem t_operand (hB : B ≤ 4294967000) (ih : IHT B (mu .operand a)) (hpre : PreT B .operand a ms) : Wl B (body .operand) a ms (PostT .operand a ms) := (t_g2 false 0 [] 0 false hB).1 ih hpre
theorem t_flat (hB : B ≤ 4294967000) (ih : IHT B (mu .flat a)) (hpre : PreT B .flat a ms) : Wl B (body .flat) a ms (PostT .flat a ms) := (t_g2 false 0 [] 0 false hB).2.1 ih hpre
theorem t_flatL (n : Int) (hB : B ≤ 4294967000) (ih : IHT B (mu (.flatL n) a)) (hpre : PreT B (.flatL n) a ms) : Wl B (body (.flatL n)) a ms (PostT (.flatL n) a ms) := (t_g2 false 0 [] n false hB).2.2.1 ih hpre
theorem t_Name (hB : B ≤ 4294967000) (ih : IHT B (mu .Name a)) (hpre : PreT B .Name a ms) : Wl B (body .Name) a ms (PostT .Name a ms) := (t_g2 false 0 [] 0 false hB).2.2.2.1 ih hpre
theorem t_List (head : Bool) (hB : B ≤ 4294967000) (ih : IHT B (mu (.List head) a)) (hpre : PreT B (.List head) a ms) : Wl B (body (.List head)) a ms (PostT (.List head) a ms) := (t_g2 head 0 [] 0 false hB).2.2.2.2.1 ih hpre
theorem t_List1 (head : Bool) (hB : B ≤ 4294967000) (ih : IHT B (mu (.List1 head) a)) (hpre : PreT B (.List1 head) a ms) : Wl B (body (.List1 head)) a ms (PostT (.List1 head) a ms) := (t_g2 head 0 [] 0 false hB).2.2.2.2.2.1 ih hpre
theorem t_ListL (head : Bool) (hB : B ≤ 4294967000) (ih : IHT B (mu (.ListL head) a)) (hpre : PreT B (.ListL head) a ms) : Wl B (body (.ListL head)) a ms (PostT (.ListL head) a ms) := (t_g2 head 0 [] 0 false hB).2.2.2.2.2.2.1 ih hpre
theorem t_Type (hB : B ≤ 4294967000) (ih : IHT B (mu .Type a)) (hpre : PreT B .Type a ms) : Wl B (body .Type) a ms (PostT .Type a ms) := (t_g2 false 0 [] 0 false hB).2.2.2.2.2.2.2 ih hpre
set_option maxHeartbeats 4000000 in
theorem t_g3 (head : Bool) (q : Int) (ks : List Int) (n : Int) (more : Bool) (hB : B ≤ 4294967000) :
  (IHT B (mu .form a) → PreT B .form a ms → Wl B (body .form) a ms (PostT .form a ms)) ∧
  (IHT B (mu .elements a) → PreT B .elements a ms → Wl B (body .elements) a ms (PostT .elements a ms)) ∧
  (IHT B (mu .qualified a) → PreT B .qualified a ms → Wl B (body .qualified) a ms (PostT .qualified a ms)) ∧
  (IHT B (mu .field a) → PreT B .field a ms → Wl B (body .field) a ms (PostT .field a ms)) ∧
  (IHT B (mu .element a) → PreT B .element a ms → Wl B (body .element) a ms (PostT .element a ms)) ∧
  (IHT B (mu .union a) → PreT B .union a ms → Wl B (body .union) a ms (PostT .union a ms)) ∧
  (IHT B (mu (.unionL more) a) → PreT B (.unionL more) a ms → Wl B (body (.unionL more)) a ms (PostT (.unionL more) a ms)) ∧
  (IHT B (mu .Sig a) → PreT B .Sig a ms → Wl B (body .Sig) a ms (PostT .Sig a ms)) := by
 refine ⟨?_, ?_, ?_, ?_, ?_, ?_, ?_, ?_⟩ <;> (intro ih hpre; obtain ⟨hd, h0, h1, hphi, hk⟩ := hpre; simp only [slack] at hphi; simp only [Pre'] at hk; subst hk; have hp := List.prefix_rfl (l := a.row); (simp only [body, go, done, primM, itemsM, unaryM, valuesM, elemsM, entryM, List.map_nil]); repeat' (first | with_reducible (first | refine Wl.tt ?_ | refine Wl.ff ?_ | refine Wl.kind fun x hx => ?_ | refine Wl.comes (fun hc hk => ?_) fun hc => ?_ | refine Wl.lookB (fun hc => ?_) fun hc => ?_ | refine Wl.deadq ‹_› ?_ | refine Wl.fail hB (by omega) | refine Wl.ite (fun hc => ?_) fun hc => ?_) | ((with_reducible refine Wl.ret (by omega) ⟨by omega, by (try simp only [dr]); omega, by (try simp only [gain, loss]); omega, ?_⟩); (try simp only [Shape]); first | assumption | exact List.prefix_rfl | exact hs.nt | exact hop.nt | (refine ⟨by assumption, ?_⟩; first | omega | (simp; done))) | ((with_reducible refine Wl.taken hB ‹_› (by omega) (fun b hd ho hq hr hn => ?_) (fun hc => ?_)) <;> ((try replace hop := hop.trans hq); (try replace hp := hp.trans hq))) | ((with_reducible refine Wl.expect (by decide) hB ‹_› (by omega) (fun b hd ho hq hr hn => ?_)); ((try replace hop := hop.trans hq); (try replace hp := hp.trans hq))) | ((with_reducible refine Wl.take hB ‹_› (by omega) (by first | assumption | omega) (fun b hd ho hq hr hn => ?_)); ((try replace hop := hop.trans hq); (try replace hp := hp.trans hq))) | ((with_reducible refine Wl.none_ hB ‹_› (by omega) (fun b hd ho hr hq hn => ?_)); (try replace hop := hop.trans hq.pre); (try replace hp := hp.trans hq.pre)) | ((refine Wl.close (by rfl) hB ‹_› (by omega) ‹_› ⟨by omega, by first | exact Or.inl ⟨by omega, by omega⟩ | exact Or.inr ‹_›⟩ (fun b hd ho hr hs hn => ?_)); (try replace hop := hs.op); (try replace hp := hs.pre)) | ((with_reducible refine Wl.mark (by decide) ?_); (try rw [List.nil_append])) | ((refine Wl.call (ih _ _ _ (by simp only [mu, rank]; omega) ⟨by assumption, by omega, by omega, by simp only [slack]; omega, by simp only [Pre']; first | rfl | trivial | assumption | omega | exact ⟨_, rfl, by assumption⟩ | (exact ⟨by omega, by omega, by omega, trivial, rfl, fun h => by first | omega | (rcases h with h | h <;> cases h)⟩) | exact ⟨trivial, rfl⟩⟩) hB (fun r b hd hq => ?_)); (obtain ⟨ho, hr, hn, hs⟩ := hq; simp only [dr, gain, loss, Shape, Nat.add_zero] at hr hn hs; (try replace hs := hs _ rfl ‹_›); (first | ((try replace hop := hop.trans hs); replace hp := hp.trans hs) | ((try replace hop := hop.trans hs.1); replace hp := hp.trans hs.1) | ((first | replace hop := hop.trans hs.pre | have hop := hs.op); (try replace hp := hp.trans hs.pre)) | skip))) | refine Wl.lit (by rfl) ‹_› (fun c => ?_)))
theorem t_form (hB : B ≤ 4294967000) (ih : IHT B (mu .form a)) (hpre : PreT B .form a ms) : Wl B (body .form) a ms (PostT .form a ms) := (t_g3 false 0 [] 0 false hB).1 ih hpre
theorem t_elements (hB : B ≤ 4294967000) (ih : IHT B (mu .elements a)) (hpre : PreT B .elements a ms) : Wl B (body .elements) a ms (PostT .elements a ms) := (t_g3 false 0 [] 0 false hB).2.1 ih hpre
theorem t_qualified (hB : B ≤ 4294967000) (ih : IHT B (mu .qualified a)) (hpre : PreT B .qualified a ms) : Wl B (body .qualified) a ms (PostT .qualified a ms) := (t_g3 false 0 [] 0 false hB).2.2.1 ih hpre
theorem t_field (hB : B ≤ 4294967000) (ih : IHT B (mu .field a)) (hpre : PreT B .field a ms) : Wl B (body .field) a ms (PostT .field a ms) := (t_g3 false 0 [] 0 false hB).2.2.2.1 ih hpre
theorem t_element (hB : B ≤ 4294967000) (ih : IHT B (mu .element a)) (hpre : PreT B .element a ms) : Wl B (body .element) a ms (PostT .element a ms) := (t_g3 false 0 [] 0 false hB).2.2.2.2.1 ih hpre
theorem t_union (hB : B ≤ 4294967000) (ih : IHT B (mu .union a)) (hpre : PreT B .union a ms) : Wl B (body .union) a ms (PostT .union a ms) := (t_g3 false 0 [] 0 false hB).2.2.2.2.2.1 ih hpre
theorem t_unionL (more : Bool) (hB : B ≤ 4294967000) (ih : IHT B (mu (.unionL more) a)) (hpre : PreT B (.unionL more) a ms) : Wl B (body (.unionL more)) a ms (PostT (.unionL more) a ms) := (t_g3 false 0 [] 0 more hB).2.2.2.2.2.2.1 ih hpre
theorem t_Sig (hB : B ≤ 4294967000) (ih : IHT B (mu .Sig a)) (hpre : PreT B .Sig a ms) : Wl B (body .Sig) a ms (PostT .Sig a ms) := (t_g3 false 0 [] 0 false hB).2.2.2.2.2.2.2 ih hpre
set_option maxHeartbeats 4000000 in
theorem t_g4 (head : Bool) (q : Int) (ks : List Int) (n : Int) (more : Bool) (hB : B ≤ 4294967000) :
  (IHT B (mu .Sig1 a) → PreT B .Sig1 a ms → Wl B (body .Sig1) a ms (PostT .Sig1 a ms)) ∧
  (IHT B (mu .Params a) → PreT B .Params a ms → Wl B (body .Params) a ms (PostT .Params a ms)) ∧
  (IHT B (mu .entry a) → PreT B .entry a ms → Wl B (body .entry) a ms (PostT .entry a ms)) ∧
  (IHT B (mu .TParams a) → PreT B .TParams a ms → Wl B (body .TParams) a ms (PostT .TParams a ms)) ∧
  (IHT B (mu .TParams1 a) → PreT B .TParams1 a ms → Wl B (body .TParams1) a ms (PostT .TParams1 a ms)) ∧
  (IHT B (mu .TParams11 a) → PreT B .TParams11 a ms → Wl B (body .TParams11) a ms (PostT .TParams11 a ms)) := by
 refine ⟨?_, ?_, ?_, ?_, ?_, ?_⟩ <;> (intro ih hpre; obtain ⟨hd, h0, h1, hphi, hk⟩ := hpre; simp only [slack] at hphi; simp only [Pre'] at hk; subst hk; have hp := List.prefix_rfl (l := a.row); (simp only [body, go, done, primM, itemsM, unaryM, valuesM, elemsM, entryM, List.map_nil]); repeat' (first | with_reducible (first | refine Wl.tt ?_ | refine Wl.ff ?_ | refine Wl.kind fun x hx => ?_ | refine Wl.comes (fun hc hk => ?_) fun hc => ?_ | refine Wl.lookB (fun hc => ?_) fun hc => ?_ | refine Wl.deadq ‹_› ?_ | refine Wl.fail hB (by omega) | refine Wl.ite (fun hc => ?_) fun hc => ?_) | ((with_reducible refine Wl.ret (by omega) ⟨by omega, by (try simp only [dr]); omega, by (try simp only [gain, loss]); omega, ?_⟩); (try simp only [Shape]); first | assumption | exact List.prefix_rfl | exact hs.nt | exact hop.nt | (refine ⟨by assumption, ?_⟩; first | omega | (simp; done))) | ((with_reducible refine Wl.taken hB ‹_› (by omega) (fun b hd ho hq hr hn => ?_) (fun hc => ?_)) <;> ((try replace hop := hop.trans hq); (try replace hp := hp.trans hq))) | ((with_reducible refine Wl.expect (by decide) hB ‹_› (by omega) (fun b hd ho hq hr hn => ?_)); ((try replace hop := hop.trans hq); (try replace hp := hp.trans hq))) | ((with_reducible refine Wl.take hB ‹_› (by omega) (by first | assumption | omega) (fun b hd ho hq hr hn => ?_)); ((try replace hop := hop.trans hq); (try replace hp := hp.trans hq))) | ((with_reducible refine Wl.none_ hB ‹_› (by omega) (fun b hd ho hr hq hn => ?_)); (try replace hop := hop.trans hq.pre); (try replace hp := hp.trans hq.pre)) | ((refine Wl.close (by rfl) hB ‹_› (by omega) ‹_› ⟨by omega, by first | exact Or.inl ⟨by omega, by omega⟩ | exact Or.inr ‹_›⟩ (fun b hd ho hr hs hn => ?_)); (try replace hop := hs.op); (try replace hp := hs.pre)) | ((with_reducible refine Wl.mark (by decide) ?_); (try rw [List.nil_append])) | ((refine Wl.call (ih _ _ _ (by simp only [mu, rank]; omega) ⟨by assumption, by omega, by omega, by simp only [slack]; omega, by simp only [Pre']; first | rfl | trivial | assumption | omega | exact ⟨_, rfl, by assumption⟩ | (exact ⟨by omega, by omega, by omega, trivial, rfl, fun h => by first | omega | (rcases h with h | h <;> cases h)⟩) | exact ⟨trivial, rfl⟩⟩) hB (fun r b hd hq => ?_)); (obtain ⟨ho, hr, hn, hs⟩ := hq; simp only [dr, gain, loss, Shape, Nat.add_zero] at hr hn hs; (try replace hs := hs _ rfl ‹_›); (first | ((try replace hop := hop.trans hs); replace hp := hp.trans hs) | ((try replace hop := hop.trans hs.1); replace hp := hp.trans hs.1) | ((first | replace hop := hop.trans hs.pre | have hop := hs.op); (try replace hp := hp.trans hs.pre)) | skip))) | refine Wl.lit (by rfl) ‹_› (fun c => ?_)))
theorem t_Sig1 (hB : B ≤ 4294967000) (ih : IHT B (mu .Sig1 a)) (hpre : PreT B .Sig1 a ms) : Wl B (body .Sig1) a ms (PostT .Sig1 a ms) := (t_g4 false 0 [] 0 false hB).1 ih hpre
theorem t_Params (hB : B ≤ 4294967000) (ih : IHT B (mu .Params a)) (hpre : PreT B .Params a ms) : Wl B (body .Params) a ms (PostT .Params a ms) := (t_g4 false 0 [] 0 false hB).2.1 ih hpre
theorem t_entry (hB : B ≤ 4294967000) (ih : IHT B (mu .entry a)) (hpre : PreT B .entry a ms) : Wl B (body .entry) a ms (PostT .entry a ms) := (t_g4 false 0 [] 0 false hB).2.2.1 ih hpre
theorem t_TParams (hB : B ≤ 4294967000) (ih : IHT B (mu .TParams a)) (hpre : PreT B .TParams a ms) : Wl B (body .TParams) a ms (PostT .TParams a ms) := (t_g4 false 0 [] 0 false hB).2.2.2.1 ih hpre
theorem t_TParams1 (hB : B ≤ 4294967000) (ih : IHT B (mu .TParams1 a)) (hpre : PreT B .TParams1 a ms) : Wl B (body .TParams1) a ms (PostT .TParams1 a ms) := (t_g4 false 0 [] 0 false hB).2.2.2.2.1 ih hpre
theorem t_TParams11 (hB : B ≤ 4294967000) (ih : IHT B (mu .TParams11 a)) (hpre : PreT B .TParams11 a ms) : Wl B (body .TParams11) a ms (PostT .TParams11 a ms) := (t_g4 false 0 [] 0 false hB).2.2.2.2.2 ih hpre
end
end Go.AI.Rd
end
section
namespace Go.AI.Rd
theorem dIn_facts {pr : Proc} (h : dIn pr) : rank pr ≤ 10 ∧ slack pr = 3 ∧ dr pr = 1 ∧ loss pr = 0 ∧ (∀ a, Pre' pr a []) ∧ (∀ a ms r b, Shape pr a ms r b → N1 a.row b.row) := by
 cases pr <;> first | exact False.elim h | exact ⟨by simp only [rank]; omega, rfl, rfl, rfl, fun a => rfl, fun a ms r b h => h⟩
theorem nIn_facts {pr : Proc} (h : nIn pr) : slack pr = 3 ∧ dr pr = 1 ∧ loss pr = 0 ∧ 1 ≤ gain pr ∧ (∀ a, (pr = .takeP ∨ pr = .entry1 → a.kinds.getD 0 0 ≠ 0) → Pre' pr a []) ∧ (∀ a ms r b, Shape pr a ms r b → a.row <+: b.row) := by
 cases pr <;> first | exact False.elim h | exact ⟨rfl, rfl, rfl, by simp only [gain]; omega, fun a _ => rfl, fun a ms r b h => h⟩ | exact ⟨rfl, rfl, rfl, by simp only [gain]; omega, fun a h => h (by simp), fun a ms r b h => h⟩
theorem iIn_facts {pr : Proc} (h : iIn pr) : rank pr ≤ 10 ∧ slack pr = 3 ∧ dr pr = 1 ∧ loss pr = 0 ∧ (∀ a, Pre' pr a []) ∧ (∀ a ms r b, Shape pr a ms r b → a.row <+: b.row) := by
 cases pr <;> first | exact False.elim h | exact ⟨by simp only [rank]; omega, rfl, rfl, rfl, fun a => rfl, fun a ms r b h => N1.pre h⟩
section
variable {B : Nat} {a : A} {ms : List Int}
theorem t_deeper {pr : Proc} (hB : B ≤ 4294967000) (ih : IHT B (mu (.deeper pr) a)) (hpre : PreT B (.deeper pr) a ms) : Wl B (body (.deeper pr)) a ms (PostT (.deeper pr) a ms) := by
 obtain ⟨hd, h0, h1, hphi, hk⟩ := hpre
 simp only [slack] at hphi
 simp only [Pre'] at hk
 obtain ⟨hk, rfl⟩ := hk
 obtain ⟨f1, f2, f3, f4, f5, f6⟩ := dIn_facts hk
 simp only [body, go, done, primM, itemsM, unaryM, valuesM, elemsM, entryM, List.map_nil]
 refine Wl.down hB hd (by omega) fun hne => Wl.tt ?_
 refine Wl.call (ih pr _ [] (by simp only [mu, rank]; omega) ⟨hd, by simp only; omega, by simp only; omega, by rw [f2]; exact hphi, f5 _⟩) hB fun r b hd hq => ?_
 obtain ⟨ho, hr, hn, hs⟩ := hq
 simp only [f3, f4] at ho hr hn
 have hs' := f6 _ _ _ _ hs
 refine Wl.up (Wl.ret (show b.row.length + 8 * b.rest.length ≤ B by omega) ⟨?_, ?_, ?_, hs'⟩)
 ·show max (b.opn - 1) 0 = a.opn
  omega
 ·simp only [dr, f3]; exact hr
 ·simp only [gain, loss]; exact hn
theorem t_node {pr : Proc} (k : Int) (hB : B ≤ 4294967000) (ih : IHT B (mu (.node k pr) a)) (hpre : PreT B (.node k pr) a ms) : Wl B (body (.node k pr)) a ms (PostT (.node k pr) a ms) := by
 obtain ⟨hd, h0, h1, hphi, hk⟩ := hpre
 simp only [slack] at hphi
 simp only [Pre'] at hk
 obtain ⟨k1, k2, k3, hk, rfl, hkk⟩ := hk
 obtain ⟨f2, f3, f4, f5, f6, f7⟩ := nIn_facts hk
 simp only [body, go, done, primM, itemsM, unaryM, valuesM, elemsM, entryM, List.map_nil]
 refine Wl.mark (by decide) ?_
 rw [List.nil_append]
 refine Wl.call (ih pr _ [] (by simp only [mu, rank]; omega) ⟨hd, h0, h1, by rw [f2]; exact hphi, f6 _ hkk⟩) hB fun r b hd hq => ?_
 obtain ⟨ho, hr, hn, hs⟩ := hq
 simp only [f3, f4] at ho hr hn
 have hp := f7 _ _ _ _ hs
 refine Wl.close rfl hB hd (by omega) hp ⟨k1, .inl ⟨k2, k3⟩⟩ fun c hd ho hr hs hn => ?_
 refine Wl.ret (by omega) ⟨by omega, ?_, ?_, hs⟩
 ·simp only [dr, f3]; omega
 ·simp only [gain, loss]; omega
theorem t_items {pr : Proc} (hB : B ≤ 4294967000) (ih : IHT B (mu (.items pr) a)) (hpre : PreT B (.items pr) a ms) : Wl B (body (.items pr)) a ms (PostT (.items pr) a ms) := by
 obtain ⟨hd, h0, h1, hphi, hk⟩ := hpre
 simp only [slack] at hphi
 simp only [Pre'] at hk
 obtain ⟨hk, rfl⟩ := hk
 obtain ⟨f1, f2, f3, f4, f5, f6⟩ := iIn_facts hk
 have hp := List.prefix_rfl (l := a.row)
 simp only [body, go, done, primM, itemsM, unaryM, valuesM, elemsM, entryM, List.map_nil]
 refine Wl.expect (by decide) hB hd (by omega) fun b hd ho hq hr hn => ?_
 (try replace hop := hop.trans hq); (try replace hp := hp.trans hq)
 refine Wl.call (ih (.itemsL pr) _ [] (by simp only [mu, rank]; omega) ⟨by assumption, by omega, by omega, by simp only [slack]; omega, hk, rfl⟩) hB (fun r b hd hq => ?_)
 (obtain ⟨ho, hr, hn, hs⟩ := hq; simp only [dr, gain, loss, Shape, Nat.add_zero] at hr hn hs; (try replace hs := hs _ rfl ‹_›); (first | ((try replace hop := hop.trans hs); replace hp := hp.trans hs) | ((try replace hop := hop.trans hs.1); replace hp := hp.trans hs.1) | ((first | replace hop := hop.trans hs.pre | have hop := hs.op); (try replace hp := hp.trans hs.pre)) | skip))
 repeat' (first | with_reducible (first | refine Wl.tt ?_ | refine Wl.ff ?_ | refine Wl.kind fun x hx => ?_ | refine Wl.comes (fun hc hk => ?_) fun hc => ?_ | refine Wl.lookB (fun hc => ?_) fun hc => ?_ | refine Wl.deadq ‹_› ?_ | refine Wl.fail hB (by omega) | refine Wl.ite (fun hc => ?_) fun hc => ?_) | ((with_reducible refine Wl.ret (by omega) ⟨by omega, by (try simp only [dr]); omega, by (try simp only [gain, loss]); omega, ?_⟩); (try simp only [Shape]); first | assumption | exact List.prefix_rfl | exact hs.nt | exact hop.nt | (refine ⟨by assumption, ?_⟩; first | omega | (simp; done))) | ((with_reducible refine Wl.taken hB ‹_› (by omega) (fun b hd ho hq hr hn => ?_) (fun hc => ?_)) <;> ((try replace hop := hop.trans hq); (try replace hp := hp.trans hq))) | ((with_reducible refine Wl.expect (by decide) hB ‹_› (by omega) (fun b hd ho hq hr hn => ?_)); ((try replace hop := hop.trans hq); (try replace hp := hp.trans hq))) | ((with_reducible refine Wl.take hB ‹_› (by omega) (by first | assumption | omega) (fun b hd ho hq hr hn => ?_)); ((try replace hop := hop.trans hq); (try replace hp := hp.trans hq))) | ((with_reducible refine Wl.none_ hB ‹_› (by omega) (fun b hd ho hr hq hn => ?_)); (try replace hop := hop.trans hq.pre); (try replace hp := hp.trans hq.pre)) | ((refine Wl.close (by rfl) hB ‹_› (by omega) ‹_› ⟨by omega, by first | exact Or.inl ⟨by omega, by omega⟩ | exact Or.inr ‹_›⟩ (fun b hd ho hr hs hn => ?_)); (try replace hop := hs.op); (try replace hp := hs.pre)) | ((with_reducible refine Wl.mark (by decide) ?_); (try rw [List.nil_append])) | ((refine Wl.call (ih _ _ _ (by simp only [mu, rank]; omega) ⟨by assumption, by omega, by omega, by simp only [slack]; omega, by simp only [Pre']; first | rfl | trivial | assumption | omega | exact ⟨_, rfl, by assumption⟩ | (exact ⟨by omega, by omega, by omega, trivial, rfl, fun h => by first | omega | (rcases h with h | h <;> cases h)⟩) | exact ⟨trivial, rfl⟩⟩) hB (fun r b hd hq => ?_)); (obtain ⟨ho, hr, hn, hs⟩ := hq; simp only [dr, gain, loss, Shape, Nat.add_zero] at hr hn hs; (try replace hs := hs _ rfl ‹_›); (first | ((try replace hop := hop.trans hs); replace hp := hp.trans hs) | ((try replace hop := hop.trans hs.1); replace hp := hp.trans hs.1) | ((first | replace hop := hop.trans hs.pre | have hop := hs.op); (try replace hp := hp.trans hs.pre)) | skip))) | refine Wl.lit (by rfl) ‹_› (fun c => ?_))
theorem t_itemsL {pr : Proc} (hB : B ≤ 4294967000) (ih : IHT B (mu (.itemsL pr) a)) (hpre : PreT B (.itemsL pr) a ms) : Wl B (body (.itemsL pr)) a ms (PostT (.itemsL pr) a ms) := by
 obtain ⟨hd, h0, h1, hphi, hk⟩ := hpre
 simp only [slack] at hphi
 simp only [Pre'] at hk
 obtain ⟨hk, rfl⟩ := hk
 obtain ⟨f1, f2, f3, f4, f5, f6⟩ := iIn_facts hk
 have hp := List.prefix_rfl (l := a.row)
 simp only [body, go, done, primM, itemsM, unaryM, valuesM, elemsM, entryM, List.map_nil]
 refine Wl.deadq hd (Wl.ff (Wl.comes (fun hc hkk => Wl.tt ?_) fun hc => Wl.ff ?_))
 ·repeat' (first | with_reducible (first | refine Wl.tt ?_ | refine Wl.ff ?_ | refine Wl.kind fun x hx => ?_ | refine Wl.comes (fun hc hk => ?_) fun hc => ?_ | refine Wl.lookB (fun hc => ?_) fun hc => ?_ | refine Wl.deadq ‹_› ?_ | refine Wl.fail hB (by omega) | refine Wl.ite (fun hc => ?_) fun hc => ?_) | ((with_reducible refine Wl.ret (by omega) ⟨by omega, by (try simp only [dr]); omega, by (try simp only [gain, loss]); omega, ?_⟩); (try simp only [Shape]); first | assumption | exact List.prefix_rfl | exact hs.nt | exact hop.nt | (refine ⟨by assumption, ?_⟩; first | omega | (simp; done))) | ((with_reducible refine Wl.taken hB ‹_› (by omega) (fun b hd ho hq hr hn => ?_) (fun hc => ?_)) <;> ((try replace hop := hop.trans hq); (try replace hp := hp.trans hq))) | ((with_reducible refine Wl.expect (by decide) hB ‹_› (by omega) (fun b hd ho hq hr hn => ?_)); ((try replace hop := hop.trans hq); (try replace hp := hp.trans hq))) | ((with_reducible refine Wl.take hB ‹_› (by omega) (by first | assumption | omega) (fun b hd ho hq hr hn => ?_)); ((try replace hop := hop.trans hq); (try replace hp := hp.trans hq))) | ((with_reducible refine Wl.none_ hB ‹_› (by omega) (fun b hd ho hr hq hn => ?_)); (try replace hop := hop.trans hq.pre); (try replace hp := hp.trans hq.pre)) | ((refine Wl.close (by rfl) hB ‹_› (by omega) ‹_› ⟨by omega, by first | exact Or.inl ⟨by omega, by omega⟩ | exact Or.inr ‹_›⟩ (fun b hd ho hr hs hn => ?_)); (try replace hop := hs.op); (try replace hp := hs.pre)) | ((with_reducible refine Wl.mark (by decide) ?_); (try rw [List.nil_append])) | ((refine Wl.call (ih _ _ _ (by simp only [mu, rank]; omega) ⟨by assumption, by omega, by omega, by simp only [slack]; omega, by simp only [Pre']; first | rfl | trivial | assumption | omega | exact ⟨_, rfl, by assumption⟩ | (exact ⟨by omega, by omega, by omega, trivial, rfl, fun h => by first | omega | (rcases h with h | h <;> cases h)⟩) | exact ⟨trivial, rfl⟩⟩) hB (fun r b hd hq => ?_)); (obtain ⟨ho, hr, hn, hs⟩ := hq; simp only [dr, gain, loss, Shape, Nat.add_zero] at hr hn hs; (try replace hs := hs _ rfl ‹_›); (first | ((try replace hop := hop.trans hs); replace hp := hp.trans hs) | ((try replace hop := hop.trans hs.1); replace hp := hp.trans hs.1) | ((first | replace hop := hop.trans hs.pre | have hop := hs.op); (try replace hp := hp.trans hs.pre)) | skip))) | refine Wl.lit (by rfl) ‹_› (fun c => ?_))
 ·refine Wl.call (ih pr _ [] (by simp only [mu, rank]; omega) ⟨hd, h0, h1, by rw [f2]; exact hphi, f5 _⟩) hB fun r b hd hq => ?_
  obtain ⟨ho, hr, hn, hs⟩ := hq
  simp only [f3, f4] at ho hr hn
  have hp := f6 _ _ _ _ hs
  refine Wl.taken hB hd (by omega) (fun b hd ho hq hr hn => Wl.tt ?_) fun hc => Wl.ff ?_
  ·(try replace hop := hop.trans hq); (try replace hp := hp.trans hq)
   refine Wl.call (ih (.itemsL pr) _ [] (by simp only [mu, rank]; omega) ⟨by assumption, by omega, by omega, by simp only [slack]; omega, hk, rfl⟩) hB (fun r b hd hq => ?_)
   (obtain ⟨ho, hr, hn, hs⟩ := hq; simp only [dr, gain, loss, Shape, Nat.add_zero] at hr hn hs; (try replace hs := hs _ rfl ‹_›); (first | ((try replace hop := hop.trans hs); replace hp := hp.trans hs) | ((try replace hop := hop.trans hs.1); replace hp := hp.trans hs.1) | ((first | replace hop := hop.trans hs.pre | have hop := hs.op); (try replace hp := hp.trans hs.pre)) | skip))
   repeat' (first | with_reducible (first | refine Wl.tt ?_ | refine Wl.ff ?_ | refine Wl.kind fun x hx => ?_ | refine Wl.comes (fun hc hk => ?_) fun hc => ?_ | refine Wl.lookB (fun hc => ?_) fun hc => ?_ | refine Wl.deadq ‹_› ?_ | refine Wl.fail hB (by omega) | refine Wl.ite (fun hc => ?_) fun hc => ?_) | ((with_reducible refine Wl.ret (by omega) ⟨by omega, by (try simp only [dr]); omega, by (try simp only [gain, loss]); omega, ?_⟩); (try simp only [Shape]); first | assumption | exact List.prefix_rfl | exact hs.nt | exact hop.nt | (refine ⟨by assumption, ?_⟩; first | omega | (simp; done))) | ((with_reducible refine Wl.taken hB ‹_› (by omega) (fun b hd ho hq hr hn => ?_) (fun hc => ?_)) <;> ((try replace hop := hop.trans hq); (try replace hp := hp.trans hq))) | ((with_reducible refine Wl.expect (by decide) hB ‹_› (by omega) (fun b hd ho hq hr hn => ?_)); ((try replace hop := hop.trans hq); (try replace hp := hp.trans hq))) | ((with_reducible refine Wl.take hB ‹_› (by omega) (by first | assumption | omega) (fun b hd ho hq hr hn => ?_)); ((try replace hop := hop.trans hq); (try replace hp := hp.trans hq))) | ((with_reducible refine Wl.none_ hB ‹_› (by omega) (fun b hd ho hr hq hn => ?_)); (try replace hop := hop.trans hq.pre); (try replace hp := hp.trans hq.pre)) | ((refine Wl.close (by rfl) hB ‹_› (by omega) ‹_› ⟨by omega, by first | exact Or.inl ⟨by omega, by omega⟩ | exact Or.inr ‹_›⟩ (fun b hd ho hr hs hn => ?_)); (try replace hop := hs.op); (try replace hp := hs.pre)) | ((with_reducible refine Wl.mark (by decide) ?_); (try rw [List.nil_append])) | ((refine Wl.call (ih _ _ _ (by simp only [mu, rank]; omega) ⟨by assumption, by omega, by omega, by simp only [slack]; omega, by simp only [Pre']; first | rfl | trivial | assumption | omega | exact ⟨_, rfl, by assumption⟩ | (exact ⟨by omega, by omega, by omega, trivial, rfl, fun h => by first | omega | (rcases h with h | h <;> cases h)⟩) | exact ⟨trivial, rfl⟩⟩) hB (fun r b hd hq => ?_)); (obtain ⟨ho, hr, hn, hs⟩ := hq; simp only [dr, gain, loss, Shape, Nat.add_zero] at hr hn hs; (try replace hs := hs _ rfl ‹_›); (first | ((try replace hop := hop.trans hs); replace hp := hp.trans hs) | ((try replace hop := hop.trans hs.1); replace hp := hp.trans hs.1) | ((first | replace hop := hop.trans hs.pre | have hop := hs.op); (try replace hp := hp.trans hs.pre)) | skip))) | refine Wl.lit (by rfl) ‹_› (fun c => ?_))
  ·repeat' (first | with_reducible (first | refine Wl.tt ?_ | refine Wl.ff ?_ | refine Wl.kind fun x hx => ?_ | refine Wl.comes (fun hc hk => ?_) fun hc => ?_ | refine Wl.lookB (fun hc => ?_) fun hc => ?_ | refine Wl.deadq ‹_› ?_ | refine Wl.fail hB (by omega) | refine Wl.ite (fun hc => ?_) fun hc => ?_) | ((with_reducible refine Wl.ret (by omega) ⟨by omega, by (try simp only [dr]); omega, by (try simp only [gain, loss]); omega, ?_⟩); (try simp only [Shape]); first | assumption | exact List.prefix_rfl | exact hs.nt | exact hop.nt | (refine ⟨by assumption, ?_⟩; first | omega | (simp; done))) | ((with_reducible refine Wl.taken hB ‹_› (by omega) (fun b hd ho hq hr hn => ?_) (fun hc => ?_)) <;> ((try replace hop := hop.trans hq); (try replace hp := hp.trans hq))) | ((with_reducible refine Wl.expect (by decide) hB ‹_› (by omega) (fun b hd ho hq hr hn => ?_)); ((try replace hop := hop.trans hq); (try replace hp := hp.trans hq))) | ((with_reducible refine Wl.take hB ‹_› (by omega) (by first | assumption | omega) (fun b hd ho hq hr hn => ?_)); ((try replace hop := hop.trans hq); (try replace hp := hp.trans hq))) | ((with_reducible refine Wl.none_ hB ‹_› (by omega) (fun b hd ho hr hq hn => ?_)); (try replace hop := hop.trans hq.pre); (try replace hp := hp.trans hq.pre)) | ((refine Wl.close (by rfl) hB ‹_› (by omega) ‹_› ⟨by omega, by first | exact Or.inl ⟨by omega, by omega⟩ | exact Or.inr ‹_›⟩ (fun b hd ho hr hs hn => ?_)); (try replace hop := hs.op); (try replace hp := hs.pre)) | ((with_reducible refine Wl.mark (by decide) ?_); (try rw [List.nil_append])) | ((refine Wl.call (ih _ _ _ (by simp only [mu, rank]; omega) ⟨by assumption, by omega, by omega, by simp only [slack]; omega, by simp only [Pre']; first | rfl | trivial | assumption | omega | exact ⟨_, rfl, by assumption⟩ | (exact ⟨by omega, by omega, by omega, trivial, rfl, fun h => by first | omega | (rcases h with h | h <;> cases h)⟩) | exact ⟨trivial, rfl⟩⟩) hB (fun r b hd hq => ?_)); (obtain ⟨ho, hr, hn, hs⟩ := hq; simp only [dr, gain, loss, Shape, Nat.add_zero] at hr hn hs; (try replace hs := hs _ rfl ‹_›); (first | ((try replace hop := hop.trans hs); replace hp := hp.trans hs) | ((try replace hop := hop.trans hs.1); replace hp := hp.trans hs.1) | ((first | replace hop := hop.trans hs.pre | have hop := hs.op); (try replace hp := hp.trans hs.pre)) | skip))) | refine Wl.lit (by rfl) ‹_› (fun c => ?_))
theorem t_binaryL (q : Int) (head : Bool) (hB : B ≤ 4294967000) (ih : IHT B (mu (.binaryL q head) a)) (hpre : PreT B (.binaryL q head) a ms) : Wl B (body (.binaryL q head)) a ms (PostT (.binaryL q head) a ms) := by
 obtain ⟨hd, h0, h1, hphi, hk⟩ := hpre
 simp only [slack] at hphi
 simp only [Pre'] at hk
 obtain ⟨R, rfl, hN⟩ := hk
 have hp : R <+: a.row := hN.pre
 have hop : Op R a.row := hN.op
 refine Wl.mono (Q := fun r b => Po 0 0 0 (N1 R b.row) a b) ?_ (fun r b hd h => ⟨h.opn, h.rest, h.phi, shapeR hN.pre h.shape⟩)
 simp only [body, go, done, primM, itemsM, unaryM, valuesM, elemsM, entryM, List.map_nil]
 refine Wl.look fun x hx => Wl.ite (fun hc => Wl.ite (fun hc2 => ?_) (fun hc2 => ?_)) (fun hc => ?_)
 ·have hk : a.kinds.getD 0 0 ≠ 0 := by
   intro h; rw [h] at hx; rw [← hx] at hc; exact absurd hc (by decide)
  refine Wl.take hB hd (by omega) hk fun b hd ho hq hr hn => ?_
  (try replace hop := hop.trans hq); (try replace hp := hp.trans hq)
  repeat' (first | with_reducible (first | refine Wl.tt ?_ | refine Wl.ff ?_ | refine Wl.kind fun x hx => ?_ | refine Wl.comes (fun hc hk => ?_) fun hc => ?_ | refine Wl.lookB (fun hc => ?_) fun hc => ?_ | refine Wl.deadq ‹_› ?_ | refine Wl.fail hB (by omega) | refine Wl.ite (fun hc => ?_) fun hc => ?_) | ((with_reducible refine Wl.ret (by omega) ⟨by omega, by (try simp only [dr]); omega, by (try simp only [gain, loss]); omega, ?_⟩); (try simp only [Shape]); first | assumption | exact List.prefix_rfl | exact hs.nt | exact hop.nt | (refine ⟨by assumption, ?_⟩; first | omega | (simp; done))) | ((with_reducible refine Wl.taken hB ‹_› (by omega) (fun b hd ho hq hr hn => ?_) (fun hc => ?_)) <;> ((try replace hop := hop.trans hq); (try replace hp := hp.trans hq))) | ((with_reducible refine Wl.expect (by decide) hB ‹_› (by omega) (fun b hd ho hq hr hn => ?_)); ((try replace hop := hop.trans hq); (try replace hp := hp.trans hq))) | ((with_reducible refine Wl.take hB ‹_› (by omega) (by first | assumption | omega) (fun b hd ho hq hr hn => ?_)); ((try replace hop := hop.trans hq); (try replace hp := hp.trans hq))) | ((with_reducible refine Wl.none_ hB ‹_› (by omega) (fun b hd ho hr hq hn => ?_)); (try replace hop := hop.trans hq.pre); (try replace hp := hp.trans hq.pre)) | ((refine Wl.close (by rfl) hB ‹_› (by omega) ‹_› ⟨by omega, by first | exact Or.inl ⟨by omega, by omega⟩ | exact Or.inr ‹_›⟩ (fun b hd ho hr hs hn => ?_)); (try replace hop := hs.op); (try replace hp := hs.pre)) | ((with_reducible refine Wl.mark (by decide) ?_); (try rw [List.nil_append])) | ((refine Wl.call (ih _ _ _ (by simp only [mu, rank]; omega) ⟨by assumption, by omega, by omega, by simp only [slack]; omega, by simp only [Pre']; first | rfl | trivial | assumption | omega | exact ⟨_, rfl, by assumption⟩ | (exact ⟨by omega, by omega, by omega, trivial, rfl, fun h => by first | omega | (rcases h with h | h <;> cases h)⟩) | exact ⟨trivial, rfl⟩⟩) hB (fun r b hd hq => ?_)); (obtain ⟨ho, hr, hn, hs⟩ := hq; simp only [dr, gain, loss, Shape, Nat.add_zero] at hr hn hs; (try replace hs := hs _ rfl ‹_›); (first | ((try replace hop := hop.trans hs); replace hp := hp.trans hs) | ((try replace hop := hop.trans hs.1); replace hp := hp.trans hs.1) | ((first | replace hop := hop.trans hs.pre | have hop := hs.op); (try replace hp := hp.trans hs.pre)) | skip))) | refine Wl.lit (by rfl) ‹_› (fun c => ?_))
 repeat' (first | with_reducible (first | refine Wl.tt ?_ | refine Wl.ff ?_ | refine Wl.kind fun x hx => ?_ | refine Wl.comes (fun hc hk => ?_) fun hc => ?_ | refine Wl.lookB (fun hc => ?_) fun hc => ?_ | refine Wl.deadq ‹_› ?_ | refine Wl.fail hB (by omega) | refine Wl.ite (fun hc => ?_) fun hc => ?_) | ((with_reducible refine Wl.ret (by omega) ⟨by omega, by (try simp only [dr]); omega, by (try simp only [gain, loss]); omega, ?_⟩); (try simp only [Shape]); first | assumption | exact List.prefix_rfl | exact hs.nt | exact hop.nt | (refine ⟨by assumption, ?_⟩; first | omega | (simp; done))) | ((with_reducible refine Wl.taken hB ‹_› (by omega) (fun b hd ho hq hr hn => ?_) (fun hc => ?_)) <;> ((try replace hop := hop.trans hq); (try replace hp := hp.trans hq))) | ((with_reducible refine Wl.expect (by decide) hB ‹_› (by omega) (fun b hd ho hq hr hn => ?_)); ((try replace hop := hop.trans hq); (try replace hp := hp.trans hq))) | ((with_reducible refine Wl.take hB ‹_› (by omega) (by first | assumption | omega) (fun b hd ho hq hr hn => ?_)); ((try replace hop := hop.trans hq); (try replace hp := hp.trans hq))) | ((with_reducible refine Wl.none_ hB ‹_› (by omega) (fun b hd ho hr hq hn => ?_)); (try replace hop := hop.trans hq.pre); (try replace hp := hp.trans hq.pre)) | ((refine Wl.close (by rfl) hB ‹_› (by omega) ‹_› ⟨by omega, by first | exact Or.inl ⟨by omega, by omega⟩ | exact Or.inr ‹_›⟩ (fun b hd ho hr hs hn => ?_)); (try replace hop := hs.op); (try replace hp := hs.pre)) | ((with_reducible refine Wl.mark (by decide) ?_); (try rw [List.nil_append])) | ((refine Wl.call (ih _ _ _ (by simp only [mu, rank]; omega) ⟨by assumption, by omega, by omega, by simp only [slack]; omega, by simp only [Pre']; first | rfl | trivial | assumption | omega | exact ⟨_, rfl, by assumption⟩ | (exact ⟨by omega, by omega, by omega, trivial, rfl, fun h => by first | omega | (rcases h with h | h <;> cases h)⟩) | exact ⟨trivial, rfl⟩⟩) hB (fun r b hd hq => ?_)); (obtain ⟨ho, hr, hn, hs⟩ := hq; simp only [dr, gain, loss, Shape, Nat.add_zero] at hr hn hs; (try replace hs := hs _ rfl ‹_›); (first | ((try replace hop := hop.trans hs); replace hp := hp.trans hs) | ((try replace hop := hop.trans hs.1); replace hp := hp.trans hs.1) | ((first | replace hop := hop.trans hs.pre | have hop := hs.op); (try replace hp := hp.trans hs.pre)) | skip))) | refine Wl.lit (by rfl) ‹_› (fun c => ?_))
set_option maxHeartbeats 4000000 in
theorem t_loops (head : Bool) (hB : B ≤ 4294967000) : (IHT B (mu (.primaryL head) a) → PreT B (.primaryL head) a ms → Wl B (body (.primaryL head)) a ms (PostT (.primaryL head) a ms)) ∧ (IHT B (mu .formL a) → PreT B .formL a ms → Wl B (body .formL) a ms (PostT .formL a ms)) ∧ (IHT B (mu .fieldL a) → PreT B .fieldL a ms → Wl B (body .fieldL) a ms (PostT .fieldL a ms)) := by
 refine ⟨?_, ?_, ?_⟩ <;> (intro ih hpre; obtain ⟨hd, h0, h1, hphi, hk⟩ := hpre; simp only [slack] at hphi; simp only [Pre'] at hk; obtain ⟨R, rfl, hN⟩ := hk; have hp : R <+: a.row := (by first | exact N1.pre hN | exact Op.pre hN | exact hN); have hp0 := hp; (try have hop : Op R a.row := (by first | exact N1.op hN | exact hN)); refine Wl.mono (Q := fun r b => Po 0 0 0 (N1 R b.row) a b) ?_ (fun r b hd h => ⟨h.opn, h.rest, h.phi, shapeR hp0 h.shape⟩); (simp only [body, go, done, primM, itemsM, unaryM, valuesM, elemsM, entryM, List.map_nil]); repeat' (first | with_reducible (first | refine Wl.tt ?_ | refine Wl.ff ?_ | refine Wl.kind fun x hx => ?_ | refine Wl.comes (fun hc hk => ?_) fun hc => ?_ | refine Wl.lookB (fun hc => ?_) fun hc => ?_ | refine Wl.deadq ‹_› ?_ | refine Wl.fail hB (by omega) | refine Wl.ite (fun hc => ?_) fun hc => ?_) | ((with_reducible refine Wl.ret (by omega) ⟨by omega, by (try simp only [dr]); omega, by (try simp only [gain, loss]); omega, ?_⟩); (try simp only [Shape]); first | assumption | exact List.prefix_rfl | exact hs.nt | exact hop.nt | (refine ⟨by assumption, ?_⟩; first | omega | (simp; done))) | ((with_reducible refine Wl.taken hB ‹_› (by omega) (fun b hd ho hq hr hn => ?_) (fun hc => ?_)) <;> ((try replace hop := hop.trans hq); (try replace hp := hp.trans hq))) | ((with_reducible refine Wl.expect (by decide) hB ‹_› (by omega) (fun b hd ho hq hr hn => ?_)); ((try replace hop := hop.trans hq); (try replace hp := hp.trans hq))) | ((with_reducible refine Wl.take hB ‹_› (by omega) (by first | assumption | omega) (fun b hd ho hq hr hn => ?_)); ((try replace hop := hop.trans hq); (try replace hp := hp.trans hq))) | ((with_reducible refine Wl.none_ hB ‹_› (by omega) (fun b hd ho hr hq hn => ?_)); (try replace hop := hop.trans hq.pre); (try replace hp := hp.trans hq.pre)) | ((refine Wl.close (by rfl) hB ‹_› (by omega) ‹_› ⟨by omega, by first | exact Or.inl ⟨by omega, by omega⟩ | exact Or.inr ‹_›⟩ (fun b hd ho hr hs hn => ?_)); (try replace hop := hs.op); (try replace hp := hs.pre)) | ((with_reducible refine Wl.mark (by decide) ?_); (try rw [List.nil_append])) | ((refine Wl.call (ih _ _ _ (by simp only [mu, rank]; omega) ⟨by assumption, by omega, by omega, by simp only [slack]; omega, by simp only [Pre']; first | rfl | trivial | assumption | omega | exact ⟨_, rfl, by assumption⟩ | (exact ⟨by omega, by omega, by omega, trivial, rfl, fun h => by first | omega | (rcases h with h | h <;> cases h)⟩) | exact ⟨trivial, rfl⟩⟩) hB (fun r b hd hq => ?_)); (obtain ⟨ho, hr, hn, hs⟩ := hq; simp only [dr, gain, loss, Shape, Nat.add_zero] at hr hn hs; (try replace hs := hs _ rfl ‹_›); (first | ((try replace hop := hop.trans hs); replace hp := hp.trans hs) | ((try replace hop := hop.trans hs.1); replace hp := hp.trans hs.1) | ((first | replace hop := hop.trans hs.pre | have hop := hs.op); (try replace hp := hp.trans hs.pre)) | skip))) | refine Wl.lit (by rfl) ‹_› (fun c => ?_)))
theorem t_primaryL (head : Bool) (hB : B ≤ 4294967000) (ih : IHT B (mu (.primaryL head) a)) (hpre : PreT B (.primaryL head) a ms) : Wl B (body (.primaryL head)) a ms (PostT (.primaryL head) a ms) := (t_loops head hB).1 ih hpre
theorem t_formL (hB : B ≤ 4294967000) (ih : IHT B (mu .formL a)) (hpre : PreT B .formL a ms) : Wl B (body .formL) a ms (PostT .formL a ms) := (t_loops false hB).2.1 ih hpre
theorem t_fieldL (hB : B ≤ 4294967000) (ih : IHT B (mu .fieldL a)) (hpre : PreT B .fieldL a ms) : Wl B (body .fieldL) a ms (PostT .fieldL a ms) := (t_loops false hB).2.2 ih hpre
set_option maxHeartbeats 4000000 in
theorem t_two (hB : B ≤ 4294967000) : (IHT B (mu .entry1 a) → PreT B .entry1 a ms → Wl B (body .entry1) a ms (PostT .entry1 a ms)) ∧ (IHT B (mu .TParams11L a) → PreT B .TParams11L a ms → Wl B (body .TParams11L) a ms (PostT .TParams11L a ms)) := by
 refine ⟨?_, ?_⟩ <;> (intro ih hpre; obtain ⟨hd, h0, h1, hphi, hk⟩ := hpre; simp only [slack] at hphi; simp only [Pre'] at hk; (try subst hk); have hp := List.prefix_rfl (l := a.row); (simp only [body, go, done, primM, itemsM, unaryM, valuesM, elemsM, entryM, List.map_nil]); repeat' (first | with_reducible (first | refine Wl.tt ?_ | refine Wl.ff ?_ | refine Wl.kind fun x hx => ?_ | refine Wl.comes (fun hc hk => ?_) fun hc => ?_ | refine Wl.lookB (fun hc => ?_) fun hc => ?_ | refine Wl.deadq ‹_› ?_ | refine Wl.fail hB (by omega) | refine Wl.ite (fun hc => ?_) fun hc => ?_) | ((with_reducible refine Wl.ret (by omega) ⟨by omega, by (try simp only [dr]); omega, by (try simp only [gain, loss]); omega, ?_⟩); (try simp only [Shape]); first | assumption | exact List.prefix_rfl | exact hs.nt | exact hop.nt | (refine ⟨by assumption, ?_⟩; first | omega | (simp; done))) | ((with_reducible refine Wl.taken hB ‹_› (by omega) (fun b hd ho hq hr hn => ?_) (fun hc => ?_)) <;> ((try replace hop := hop.trans hq); (try replace hp := hp.trans hq))) | ((with_reducible refine Wl.expect (by decide) hB ‹_› (by omega) (fun b hd ho hq hr hn => ?_)); ((try replace hop := hop.trans hq); (try replace hp := hp.trans hq))) | ((with_reducible refine Wl.take hB ‹_› (by omega) (by first | assumption | omega) (fun b hd ho hq hr hn => ?_)); ((try replace hop := hop.trans hq); (try replace hp := hp.trans hq))) | ((with_reducible refine Wl.none_ hB ‹_› (by omega) (fun b hd ho hr hq hn => ?_)); (try replace hop := hop.trans hq.pre); (try replace hp := hp.trans hq.pre)) | ((refine Wl.close (by rfl) hB ‹_› (by omega) ‹_› ⟨by omega, by first | exact Or.inl ⟨by omega, by omega⟩ | exact Or.inr ‹_›⟩ (fun b hd ho hr hs hn => ?_)); (try replace hop := hs.op); (try replace hp := hs.pre)) | ((with_reducible refine Wl.mark (by decide) ?_); (try rw [List.nil_append])) | ((refine Wl.call (ih _ _ _ (by simp only [mu, rank]; omega) ⟨by assumption, by omega, by omega, by simp only [slack]; omega, by simp only [Pre']; first | rfl | trivial | assumption | omega | exact ⟨_, rfl, by assumption⟩ | (exact ⟨by omega, by omega, by omega, trivial, rfl, fun h => by first | omega | (rcases h with h | h <;> cases h)⟩) | exact ⟨trivial, rfl⟩⟩) hB (fun r b hd hq => ?_)); (obtain ⟨ho, hr, hn, hs⟩ := hq; simp only [dr, gain, loss, Shape, Nat.add_zero] at hr hn hs; (try replace hs := hs _ rfl ‹_›); (first | ((try replace hop := hop.trans hs); replace hp := hp.trans hs) | ((try replace hop := hop.trans hs.1); replace hp := hp.trans hs.1) | ((first | replace hop := hop.trans hs.pre | have hop := hs.op); (try replace hp := hp.trans hs.pre)) | skip))) | refine Wl.lit (by rfl) ‹_› (fun c => ?_)))
theorem t_entry1 (hB : B ≤ 4294967000) (ih : IHT B (mu .entry1 a)) (hpre : PreT B .entry1 a ms) : Wl B (body .entry1) a ms (PostT .entry1 a ms) := (t_two hB).1 ih hpre
theorem t_TParams11L (hB : B ≤ 4294967000) (ih : IHT B (mu .TParams11L a)) (hpre : PreT B .TParams11L a ms) : Wl B (body .TParams11L) a ms (PostT .TParams11L a ms) := (t_two hB).2 ih hpre
theorem t_TParamsL (more : Bool) (hB : B ≤ 4294967000) (ih : IHT B (mu (.TParamsL more) a)) (hpre : PreT B (.TParamsL more) a ms) : Wl B (body (.TParamsL more)) a ms (PostT (.TParamsL more) a ms) := by
 obtain ⟨hd, h0, h1, hphi, hk⟩ := hpre
 simp only [slack] at hphi
 simp only [Pre'] at hk
 subst hk
 have hp := List.prefix_rfl (l := a.row)
 simp only [body, go, done, primM, itemsM, unaryM, valuesM, elemsM, entryM, List.map_nil]
 refine Wl.ite (fun hm => Wl.deadq hd (Wl.ff ?_)) (fun hm => ?_)
 repeat' (first | with_reducible (first | refine Wl.tt ?_ | refine Wl.ff ?_ | refine Wl.kind fun x hx => ?_ | refine Wl.comes (fun hc hk => ?_) fun hc => ?_ | refine Wl.lookB (fun hc => ?_) fun hc => ?_ | refine Wl.deadq ‹_› ?_ | refine Wl.fail hB (by omega) | refine Wl.ite (fun hc => ?_) fun hc => ?_) | ((with_reducible refine Wl.ret (by omega) ⟨by omega, by (try simp only [dr]); omega, by (try simp only [gain, loss]); omega, ?_⟩); (try simp only [Shape]); first | assumption | exact List.prefix_rfl | exact hs.nt | exact hop.nt | (refine ⟨by assumption, ?_⟩; first | omega | (simp; done))) | ((with_reducible refine Wl.taken hB ‹_› (by omega) (fun b hd ho hq hr hn => ?_) (fun hc => ?_)) <;> ((try replace hop := hop.trans hq); (try replace hp := hp.trans hq))) | ((with_reducible refine Wl.expect (by decide) hB ‹_› (by omega) (fun b hd ho hq hr hn => ?_)); ((try replace hop := hop.trans hq); (try replace hp := hp.trans hq))) | ((with_reducible refine Wl.take hB ‹_› (by omega) (by first | assumption | omega) (fun b hd ho hq hr hn => ?_)); ((try replace hop := hop.trans hq); (try replace hp := hp.trans hq))) | ((with_reducible refine Wl.none_ hB ‹_› (by omega) (fun b hd ho hr hq hn => ?_)); (try replace hop := hop.trans hq.pre); (try replace hp := hp.trans hq.pre)) | ((refine Wl.close (by rfl) hB ‹_› (by omega) ‹_› ⟨by omega, by first | exact Or.inl ⟨by omega, by omega⟩ | exact Or.inr ‹_›⟩ (fun b hd ho hr hs hn => ?_)); (try replace hop := hs.op); (try replace hp := hs.pre)) | ((with_reducible refine Wl.mark (by decide) ?_); (try rw [List.nil_append])) | ((refine Wl.call (ih _ _ _ (by simp only [mu, rank]; omega) ⟨by assumption, by omega, by omega, by simp only [slack]; omega, by simp only [Pre']; first | rfl | trivial | assumption | omega | exact ⟨_, rfl, by assumption⟩ | (exact ⟨by omega, by omega, by omega, trivial, rfl, fun h => by first | omega | (rcases h with h | h <;> cases h)⟩) | exact ⟨trivial, rfl⟩⟩) hB (fun r b hd hq => ?_)); (obtain ⟨ho, hr, hn, hs⟩ := hq; simp only [dr, gain, loss, Shape, Nat.add_zero] at hr hn hs; (try replace hs := hs _ rfl ‹_›); (first | ((try replace hop := hop.trans hs); replace hp := hp.trans hs) | ((try replace hop := hop.trans hs.1); replace hp := hp.trans hs.1) | ((first | replace hop := hop.trans hs.pre | have hop := hs.op); (try replace hp := hp.trans hs.pre)) | skip))) | refine Wl.lit (by rfl) ‹_› (fun c => ?_))
theorem t_Params1 (hB : B ≤ 4294967000) (ih : IHT B (mu .Params1 a)) (hpre : PreT B .Params1 a ms) : Wl B (body .Params1) a ms (PostT .Params1 a ms) := by
 obtain ⟨hd, h0, h1, hphi, hk⟩ := hpre
 simp only [slack] at hphi
 simp only [Pre'] at hk
 subst hk
 have hp := List.prefix_rfl (l := a.row)
 simp only [body, go, done, primM, itemsM, unaryM, valuesM, elemsM, entryM, List.map_nil]
 refine Wl.expect (by decide) hB hd (by omega) fun b hd ho hq hr hn => ?_
 (try replace hop := hop.trans hq); (try replace hp := hp.trans hq)
 refine Wl.call (ih (.ParamsL []) _ [] (by simp only [mu, rank]; omega) ⟨by assumption, by omega, by omega, by simp only [slack, List.length_nil]; omega, rfl, by simp [entsOf, entsOK], by simp only [List.length_nil]; omega⟩) hB (fun r c hd hq => ?_)
 obtain ⟨ho, hr, hn, hs⟩ := hq
 simp only [dr, gain, loss, Shape, Nat.add_zero, List.length_nil] at hr hn hs
 replace hp := hp.trans (hs b.row List.prefix_rfl (by simp [entsOf, entsOK]))
 repeat' (first | with_reducible (first | refine Wl.tt ?_ | refine Wl.ff ?_ | refine Wl.kind fun x hx => ?_ | refine Wl.comes (fun hc hk => ?_) fun hc => ?_ | refine Wl.lookB (fun hc => ?_) fun hc => ?_ | refine Wl.deadq ‹_› ?_ | refine Wl.fail hB (by omega) | refine Wl.ite (fun hc => ?_) fun hc => ?_) | ((with_reducible refine Wl.ret (by omega) ⟨by omega, by (try simp only [dr]); omega, by (try simp only [gain, loss]); omega, ?_⟩); (try simp only [Shape]); first | assumption | exact List.prefix_rfl | exact hs.nt | exact hop.nt | (refine ⟨by assumption, ?_⟩; first | omega | (simp; done))) | ((with_reducible refine Wl.taken hB ‹_› (by omega) (fun b hd ho hq hr hn => ?_) (fun hc => ?_)) <;> ((try replace hop := hop.trans hq); (try replace hp := hp.trans hq))) | ((with_reducible refine Wl.expect (by decide) hB ‹_› (by omega) (fun b hd ho hq hr hn => ?_)); ((try replace hop := hop.trans hq); (try replace hp := hp.trans hq))) | ((with_reducible refine Wl.take hB ‹_› (by omega) (by first | assumption | omega) (fun b hd ho hq hr hn => ?_)); ((try replace hop := hop.trans hq); (try replace hp := hp.trans hq))) | ((with_reducible refine Wl.none_ hB ‹_› (by omega) (fun b hd ho hr hq hn => ?_)); (try replace hop := hop.trans hq.pre); (try replace hp := hp.trans hq.pre)) | ((refine Wl.close (by rfl) hB ‹_› (by omega) ‹_› ⟨by omega, by first | exact Or.inl ⟨by omega, by omega⟩ | exact Or.inr ‹_›⟩ (fun b hd ho hr hs hn => ?_)); (try replace hop := hs.op); (try replace hp := hs.pre)) | ((with_reducible refine Wl.mark (by decide) ?_); (try rw [List.nil_append])) | ((refine Wl.call (ih _ _ _ (by simp only [mu, rank]; omega) ⟨by assumption, by omega, by omega, by simp only [slack]; omega, by simp only [Pre']; first | rfl | trivial | assumption | omega | exact ⟨_, rfl, by assumption⟩ | (exact ⟨by omega, by omega, by omega, trivial, rfl, fun h => by first | omega | (rcases h with h | h <;> cases h)⟩) | exact ⟨trivial, rfl⟩⟩) hB (fun r b hd hq => ?_)); (obtain ⟨ho, hr, hn, hs⟩ := hq; simp only [dr, gain, loss, Shape, Nat.add_zero] at hr hn hs; (try replace hs := hs _ rfl ‹_›); (first | ((try replace hop := hop.trans hs); replace hp := hp.trans hs) | ((try replace hop := hop.trans hs.1); replace hp := hp.trans hs.1) | ((first | replace hop := hop.trans hs.pre | have hop := hs.op); (try replace hp := hp.trans hs.pre)) | skip))) | refine Wl.lit (by rfl) ‹_› (fun c => ?_))
theorem t_groupM {a0 : A} {ms0 : List Int} (ns0 ns : List Bool) (hB : B ≤ 4294967000) (hd : a.dead = false) (ho : a.opn = a0.opn) (hr : a.rest.length ≤ a0.rest.length) (hphi : a.row.length + 8 * a.rest.length + ns.length ≤ a0.row.length + 8 * a0.rest.length + ns0.length) (hb : a0.row.length + 8 * a0.rest.length + (ns0.length + 3) ≤ B)
  (he : entsOK a.row 0 (entsOf ms ns) = true) (hs : ∀ R : List Made, R <+: a0.row → entsOK a0.row R.length (entsOf ms0 ns0) = true → R <+: a.row ∧ entsOK a.row R.length (entsOf ms ns) = true) : Wl B (groupM ns) a ms (PostT (.ParamsL ns0) a0 ms0) := by
 have fin : ∀ any, Wl B (.group ns any (expect 62 done)) a ms (PostT (.ParamsL ns0) a0 ms0) := by
  intro any
  refine Wl.group hB hd (by omega) he fun b hd ho hr hn hg => ?_
  refine Wl.expect (by decide) hB hd (by omega) fun c hd ho hq hr hn => ?_
  refine Wl.ret (by omega) ⟨by omega, by simp only [dr]; omega, by simp only [gain, loss]; omega, fun R h1 h2 => ?_⟩
  obtain ⟨h3, h4⟩ := hs R h1 h2
  exact (hg R h3 h4).trans hq
 unfold groupM
 split
 ·exact Wl.names hB hd (by omega) he (fin true)
 ·exact fin false
theorem t_ParamsL (ns : List Bool) (hB : B ≤ 4294967000) (ih : IHT B (mu (.ParamsL ns) a)) (hpre : PreT B (.ParamsL ns) a ms) : Wl B (body (.ParamsL ns)) a ms (PostT (.ParamsL ns) a ms) := by
 obtain ⟨hd, h0, h1, hphi, hk⟩ := hpre
 simp only [slack] at hphi
 simp only [Pre'] at hk
 obtain ⟨hl, he, hb⟩ := hk
 simp only [body]
 have stop : Wl B (groupM ns) a ms (PostT (.ParamsL ns) a ms) := t_groupM ns ns hB hd rfl (Nat.le_refl _) (Nat.le_refl _) hphi he fun R h1 h2 => ⟨h1, h2⟩
 refine Wl.deadq hd (Wl.ff (Wl.comes (fun hc hk => Wl.tt stop) fun hc => Wl.ff ?_))
 refine Wl.mark (by omega) ?_
 refine Wl.call (ih .entry _ [] (by simp only [mu, rank]; omega) ⟨by assumption, by omega, by omega, by simp only [slack]; omega, rfl⟩) hB (fun r b hd hq => ?_)
 obtain ⟨ho, hr, hn, hs⟩ := hq
 simp only [dr, gain, loss, Shape, Nat.add_zero] at hr hn hs
 refine Wl.mark (by simp only [List.length_append, List.length_singleton]; omega) ?_
 rw [List.append_assoc, List.singleton_append]
 obtain ⟨new, hrow, hnt⟩ := hs
 have hsn : entsOf (ms ++ [(a.row.length : Int), (b.row.length : Int)]) (ns ++ [decide (r ≠ 0)]) = entsOf ms ns ++ [⟨(a.row.length : Int), (b.row.length : Int), decide (r ≠ 0)⟩] := entsOf_snocT _ _ _ hl
 have hse : ∀ m : Int, 0 ≤ m → entsOK a.row m (entsOf ms ns) = true → entsOK b.row m (entsOf (ms ++ [(a.row.length : Int), (b.row.length : Int)]) (ns ++ [decide (r ≠ 0)])) = true := by
  intro m hm h
  rw [hsn, hrow]
  exact entsOK_snoc hnt _ hm h
 refine Wl.taken hB hd (by omega) (fun c hd ho hq hr hn => Wl.tt ?_) fun hc => Wl.ff ?_
 ·have hms : (List.range (2 * ns.length + 2)).map (fun h => (ms ++ [(a.row.length : Int), (b.row.length : Int)]).getD h 0) = ms ++ [(a.row.length : Int), (b.row.length : Int)] := by
   rw [show 2 * ns.length + 2 = (ms ++ [(a.row.length : Int), (b.row.length : Int)]).length by simp [hl]]
   exact range_mapT _
  obtain ⟨more, hmore⟩ := hq
  have hse2 : ∀ m : Int, 0 ≤ m → entsOK a.row m (entsOf ms ns) = true → entsOK c.row m (entsOf (ms ++ [(a.row.length : Int), (b.row.length : Int)]) (ns ++ [decide (r ≠ 0)])) = true := by
   intro m hm h
   rw [← hmore]
   exact entsOK_ext more hm (hse m hm h)
  refine Wl.call (Q1 := PostT (.ParamsL (ns ++ [decide (r ≠ 0)])) c (ms ++ [(a.row.length : Int), (b.row.length : Int)])) ?_ hB (fun r2 d hd hq => ?_)
  ·rw [hms]
   exact ih (.ParamsL (ns ++ [decide (r ≠ 0)])) c _ (by simp only [mu, rank]; omega) ⟨by assumption, by omega, by omega, by simp only [slack, List.length_append, List.length_singleton]; omega, by simp [hl]; omega, hse2 0 (by omega) he, by simp only [List.length_append, List.length_singleton]; omega⟩
  ·obtain ⟨ho, hr, hn, hs⟩ := hq
   simp only [dr, gain, loss, Shape, Nat.add_zero, List.length_append, List.length_singleton] at hr hn hs
   refine Wl.ret (by omega) ⟨by omega, by simp only [dr]; omega, by simp only [gain, loss]; omega, fun R h1 h2 => ?_⟩
   refine hs R ?_ (hse2 _ (by omega) h2)
   rw [← hmore, hrow, List.append_assoc]
   exact h1.trans (List.prefix_append _ _)
 ·refine t_groupM ns (ns ++ [decide (r ≠ 0)]) hB hd (by omega) (by omega) (by simp only [List.length_append, List.length_singleton]; omega) hphi (hse 0 (by omega) he) fun R h1 h2 => ⟨?_, hse _ (by omega) h2⟩
  rw [hrow]
  exact h1.trans (List.prefix_append _ _)
theorem t_step (hB : B ≤ 4294967000) (pr : Proc) (ih : IHT B (mu pr a)) (hpre : PreT B pr a ms) : Wl B (body pr) a ms (PostT pr a ms) := by
 cases pr
 ·exact t_deeper hB ih hpre
 ·exact t_node _ hB ih hpre
 ·exact t_takeP hB hpre
 ·exact t_items hB ih hpre
 ·exact t_itemsL hB ih hpre
 ·exact t_X _ hB ih hpre
 ·exact t_X1 _ hB ih hpre
 ·exact t_binary _ _ hB ih hpre
 ·exact t_binaryL _ _ hB ih hpre
 ·exact t_unary _ hB ih hpre
 ·exact t_unary1 _ hB ih hpre
 ·exact t_primary _ hB ih hpre
 ·exact t_primaryL _ hB ih hpre
 ·exact t_period hB ih hpre
 ·exact t_index hB ih hpre
 ·exact t_unless _ hB ih hpre
 ·exact t_indexL hB ih hpre
 ·exact t_arguments hB ih hpre
 ·exact t_argsL hB ih hpre
 ·exact t_value hB ih hpre
 ·exact t_value1 hB ih hpre
 ·exact t_values hB ih hpre
 ·exact t_valuesL hB ih hpre
 ·exact t_operand hB ih hpre
 ·exact t_flat hB ih hpre
 ·exact t_flatL _ hB ih hpre
 ·exact t_Name hB ih hpre
 ·exact t_List _ hB ih hpre
 ·exact t_List1 _ hB ih hpre
 ·exact t_ListL _ hB ih hpre
 ·exact t_Type hB ih hpre
 ·exact t_form hB ih hpre
 ·exact t_formL hB ih hpre
 ·exact t_elements hB ih hpre
 ·exact t_qualified hB ih hpre
 ·exact t_field hB ih hpre
 ·exact t_fieldL hB ih hpre
 ·exact t_element hB ih hpre
 ·exact t_union hB ih hpre
 ·exact t_unionL _ hB ih hpre
 ·exact t_Sig hB ih hpre
 ·exact t_Sig1 hB ih hpre
 ·exact t_Params hB ih hpre
 ·exact t_Params1 hB ih hpre
 ·exact t_ParamsL _ hB ih hpre
 ·exact t_entry hB ih hpre
 ·exact t_entry1 hB ih hpre
 ·exact t_TParams hB ih hpre
 ·exact t_TParams1 hB ih hpre
 ·exact t_TParamsL _ hB ih hpre
 ·exact t_TParams11 hB ih hpre
 ·exact t_TParams11L hB ih hpre
theorem t_all (hB : B ≤ 4294967000) : ∀ N, IHT B N
 | 0 => fun pr a ms h _ => absurd h (Nat.not_lt_zero _)
 | N + 1 => fun pr a ms h hpre => t_step hB pr (fun pr' a' ms' h' hp' => t_all hB N pr' a' ms' (by omega) hp') hpre
theorem ends (hB : B ≤ 4294967000) (pr : Proc) (hpre : PreT B pr a ms) : ∃ n r b, callN n pr a ms = some (r, b) ∧ b.row.length + 8 * b.rest.length ≤ B ∧ (b.dead = false → PostT pr a ms r b) := by
 obtain ⟨n, r, b, h1, h2⟩ := t_all hB (mu pr a + 1) pr a ms (Nat.lt_succ_self _) hpre
 exact ⟨n + 1, r, b, h1, h2⟩
end
end Go.AI.Rd
end
namespace Go.AI.Rd
inductive Small : Node → Prop
 | mk (k f t : Int) (kids : List Node) (h1 : kids.length < 1099511627776) (h2 : ∀ x ∈ kids, Small x) : Small (.mk k f t kids)
theorem Small.kids {n : Node} (h : Small n) : (Node.kids n).length < 1099511627776 ∧ ∀ x ∈ Node.kids n, Small x := by
 cases h with | mk k f t kids h1 h2 => exact ⟨h1, h2⟩
theorem Small.none_ (k f t : Int) : Small (.mk k f t []) := .mk k f t [] (by simp) (fun x hx => by cases hx)
def SM (row : List Made) : Prop := ∀ x ∈ row, Small x.n
theorem SM.append {r s : List Made} (h : SM r) (k : SM s) : SM (r ++ s) := fun x hx => (List.mem_append.1 hx).elim (h x) (k x)
theorem SM.take {r : List Made} (h : SM r) (n : Nat) : SM (r.take n) := fun x hx => h x (List.mem_of_mem_take hx)
theorem SM.drop {r : List Made} (h : SM r) (n : Nat) : SM (r.drop n) := fun x hx => h x (List.mem_of_mem_drop hx)
section
variable {a : A}
theorem small_take (h : SM a.row) : SM a.take.row := by
 unfold A.take
 split
 ·exact h
 ·split
  ·exact h
  ·refine h.append fun x hx => ?_
   obtain ⟨t, _, rfl⟩ := List.mem_map.1 hx
   exact Small.none_ _ _ _
theorem small_fail (h : SM a.row) (c : Int) : SM (a.fail c).row := by rw [(fail_dg c).2.2.1]; exact h
theorem small_none (h : SM a.row) : SM a.none_.row := by
 unfold A.none_
 split
 ·exact h
 ·refine h.append fun x hx => ?_
  simp only [List.mem_singleton] at hx
  subst hx
  exact Small.none_ _ _ _
theorem mem_dropWhile {p : Made → Bool} : ∀ {l : List Made} {x : Made}, x ∈ l.dropWhile p → x ∈ l
 | [], x, h => by simp at h
 | y :: l, x, h => by
  rw [List.dropWhile_cons] at h
  split at h
  ·exact List.mem_cons_of_mem _ (mem_dropWhile h)
  ·exact h
theorem mem_takeWhile {p : Made → Bool} {l : List Made} {x : Made} (h : x ∈ l.takeWhile p) : x ∈ l := (List.takeWhile_prefix p).subset h
theorem small_nodeOf {l : List Made} (h : SM l) (hl : l.length < 1099511627776) (k hr : Int) : Small (nodeOf k hr l).n := by
 refine .mk _ _ _ _ (by simpa using hl) fun x hx => ?_
 obtain ⟨y, hy, rfl⟩ := List.mem_map.1 hx
 exact h y hy
theorem small_close (h : SM a.row) (hl : a.row.length < 1099511627776) (m k : Int) : SM (a.close m k).row := by
 cases hd : a.dg with
 | none =>
  rw [(close_row hd m k).1]
  refine (h.take _).append (SM.append (fun x hx => h x (List.mem_of_mem_drop (mem_takeWhile hx))) fun x hx => ?_)
  simp only [List.mem_singleton] at hx
  subst hx
  unfold A.closed
  refine small_nodeOf (fun x hx => h x (List.mem_of_mem_drop (mem_dropWhile hx))) ?_ _ _
  have := (List.dropWhile_suffix (l := a.row.drop (a.clamp m)) triv).length_le
  simp only [List.length_drop] at this
  omega
 | some d => rw [close_dead (by unfold A.dead; rw [hd]; rfl)]; exact h
theorem small_gap (h : SM a.row) (m : Int) : SM (a.gap m).row := by
 unfold A.gap
 split
 ·exact h
 ·refine (h.take _).append fun x hx => ?_
  rcases List.mem_cons.1 hx with rfl | hx
  ·exact Small.none_ _ _ _
  ·exact h x (List.mem_of_mem_drop hx)
theorem small_group1 (h : SM a.row) (hl : a.row.length < 1099511627776) (g : Int × Int) : SM (A.group1 g a).row := by
 unfold A.group1
 exact (small_close (a := { a with row := a.row.take g.2.toNat }) (h.take _) (by simp only [List.length_take]; omega) g.1 233).append (h.drop _)
theorem small_groups : ∀ (gs : List (Int × Int)) (a : A), SM a.row → a.row.length + gs.length < 1099511627776 → SM (gs.foldl (fun b g => A.group1 g b) a).row
 | [], a, h, _ => h
 | g :: gs, a, h, hl => by
  simp only [List.length_cons] at hl
  rw [List.foldl_cons]
  have := (group1_facts (a := a) g).2.2.1
  exact small_groups gs _ (small_group1 h (by omega) g) (by omega)
theorem small_group (h : SM a.row) (any : Bool) (l : List Ent) (hl : a.row.length + l.length < 1099511627776) : SM (a.group any l).row := by
 unfold A.group
 split
 ·exact h
 ·refine small_groups _ a h ?_
  have := backGroups_len any l.reverse
  rw [List.length_reverse] at this
  omega
theorem small_names (h : SM a.row) (l : List Ent) : SM (a.names l).row := by
 unfold A.names; split
 ·exact small_fail h _
 ·exact h
theorem small_down (h : SM a.row) : SM a.down.2.row := by
 unfold A.down; split
 ·exact h
 ·split
  ·exact small_fail h _
  ·exact h
end
theorem runM_small {cf : Proc → A → List Int → Option (Int × A)} (hcf : ∀ pr a ms r b, SM a.row → cf pr a ms = some (r, b) → SM b.row) : ∀ (m : M) (a : A) (ms : List Int) (r : Int) (b : A), SM a.row → runM cf m a ms = some (r, b) → SM b.row := by
 intro m
 induction m with
 | ret v => intro a ms r b h hr; simp only [runM, Option.some.injEq, Prod.mk.injEq] at hr; obtain ⟨_, rfl⟩ := hr; exact h
 | look f k ih => intro a ms r b h hr; exact ih _ a ms r b h hr
 | lookB f k ih => intro a ms r b h hr; exact ih _ a ms r b h hr
 | dead k ih => intro a ms r b h hr; exact ih _ a ms r b h hr
 | take k ih =>
  intro a ms r b h hr
  simp only [runM] at hr
  split at hr
  ·exact ih _ ms r b (small_take h) hr
  ·cases hr
 | none_ k ih =>
  intro a ms r b h hr
  simp only [runM] at hr
  split at hr
  ·exact ih _ ms r b (small_none h) hr
  ·cases hr
 | mark k ih =>
  intro a ms r b h hr
  simp only [runM] at hr
  split at hr
  ·exact ih a _ r b h hr
  ·cases hr
 | close hh kd k ih =>
  intro a ms r b h hr
  simp only [runM] at hr
  split at hr
  ·rename_i hroom
   rw [room_iff] at hroom
   exact ih _ ms r b (small_close h (by omega) _ _) hr
  ·cases hr
 | gap hh k ih =>
  intro a ms r b h hr
  simp only [runM] at hr
  split at hr
  ·exact ih _ ms r b (small_gap h _) hr
  ·cases hr
 | last k ih => intro a ms r b h hr; exact ih _ a ms r b h hr
 | down k ih => intro a ms r b h hr; exact ih _ _ ms r b (small_down h) hr
 | up k ih => intro a ms r b h hr; exact ih a.up ms r b h hr
 | fail c k ih => intro a ms r b h hr; exact ih _ ms r b (small_fail h c) hr
 | lit hh head k ih =>
  intro a ms r b h hr
  simp only [runM] at hr
  split at hr
  ·exact ih _ a ms r b h hr
  ·cases hr
 | names ns k ih =>
  intro a ms r b h hr
  simp only [runM] at hr
  split at hr
  ·exact ih _ ms r b (small_names h _) hr
  ·cases hr
 | group ns any k ih =>
  intro a ms r b h hr
  simp only [runM] at hr
  split at hr
  ·rename_i hc
   simp only [Bool.and_eq_true, Bool.or_eq_true, decide_eq_true_eq] at hc
   rcases hc with hc | hc
   ·rw [group_dead hc] at hr; exact ih a ms r b h hr
   ·have hroom := hc.2.1
    rw [room_iff] at hroom
    have := entsOf_length ms ns
    exact ih _ ms r b (small_group h any _ (by omega)) hr
  ·cases hr
 | call pr hs k ih =>
  intro a ms r b h hr
  simp only [runM] at hr
  split at hr
  ·rename_i r1 b1 hc
   exact ih _ b1 ms r b (hcf _ _ _ _ _ h hc) hr
  ·cases hr
theorem callN_small : ∀ (n : Nat) (pr : Proc) (a : A) (ms : List Int) (r : Int) (b : A), SM a.row → callN n pr a ms = some (r, b) → SM b.row
 | 0, pr, a, ms, r, b, _, h => by simp [callN] at h
 | n + 1, pr, a, ms, r, b, hg, h => runM_small (fun pr a ms r b => callN_small n pr a ms r b) (body pr) a ms r b hg h
def ndAV (n : Node) : AV := .agg [.int (Node.k n), .int (Node.f n), .int (Node.t n), .sl .node (Node.kids n)]
theorem same_l0 (lim : Nat) (x1 x2 x3 y1 y2 y3 : Int) (kids : List Node) (hl : kids.length < 1099511627776) (ih : ∀ x ∈ kids, W .unit sameNode.n [ndAV x, ndAV x] () = some (.bool true, ())) : ∀ (d i n0 : Nat), i + d = kids.length → d < n0 →
  sameNode.l0 W lim n0 i x1 x2 x3 kids y1 y2 y3 kids () = some (.bool true, ())
 | _, i, 0, hi, hn => by omega
 | 0, i, n0 + 1, hi, hn => by rw [sameNode.l0_succ, if_neg (by simp; omega)]
 | d + 1, i, n0 + 1, hi, hn => by
  rw [sameNode.l0_succ, if_pos (by simp; omega), if_pos (by omega), if_pos (by omega), if_pos (by omega), if_pos (by omega)]
  have hm : List.getD kids (Int.toNat (i : Int)) (El.dflt .node) ∈ kids := by
   rw [Int.toNat_natCast, List.getD_eq_getElem?_getD, List.getElem?_eq_getElem (by omega)]
   exact List.getElem_mem _
  have e := ih _ hm
  unfold ndAV at e
  rw [cX_b e, if_neg (by decide)]
  have hw : IntKind.i64.wrap ((i : Int) + 1) = ((i + 1 : Nat) : Int) := by rw [wi _ (by omega) (by omega)]; omega
  rw [hw]
  exact same_l0 lim x1 x2 x3 y1 y2 y3 kids hl ih d (i + 1) n0 (by omega) (by omega)
theorem same_ok {n : Node} (h : Small n) : W .unit sameNode.n [ndAV n, ndAV n] () = some (.bool true, ()) := by
 induction h with
 | mk k f t kids h1 h2 ih =>
  refine fx sameNode.fd (kids.length + 1) ?_
  refine (sameNode_eq W (kids.length + 1) (.mk k f t kids) (.mk k f t kids) ()).trans ?_
  rw [if_neg (by simp), if_neg (by simp), if_neg (by simp), if_neg (by simp)]
  exact same_l0 _ _ _ _ _ _ _ kids h1 ih kids.length 0 (kids.length + 1) (by omega) (by omega)
end Go.AI.Rd
namespace Go.AI.Rd
def Rf (x : Option (Int × A)) (y : Option (AV × PS)) (e : Int → A → AV) : Prop := ∀ r b, x = some (r, b) → y = some (e r b, toP b)
section
variable {n : Nat} {a : A} {ms : List Int} {e : Int → A → AV}
theorem Rf.fix {x : Option (Int × A)} {f : Nat} {fi : FnI} (hf : findN fnsT f = some fi) {args : List AV} (lim : Nat) {p : PS} (h : Rf x (evalBody T0 W .prog lim fi args p) e) : Rf x (W .prog f args p) e :=
 fun r b hx => fx hf lim (h r b hx)
theorem Rf.ret {v : Int} {u : AV} (h : u = e v a) : Rf (runM (callN n) (.ret v) a ms) (some (u, toP a)) e := by
 intro r b hx
 simp only [runM, Option.some.injEq, Prod.mk.injEq] at hx
 obtain ⟨rfl, rfl⟩ := hx
 rw [h]
theorem Rf.kind {k : Int → M} {K : Int → PS → Option (AV × PS)} (hg : a.good) (h : ∀ x, x = a.kinds.getD 0 0 → Rf (runM (callN n) (k x) a ms) (K x (toP a)) e) : Rf (runM (callN n) (kind k) a ms) (cX W .i .prog Kind.n [.rdr 0] (toP a) K) e := by
 rw [cX_i (W_Kind hg.took)]; exact h _ rfl
theorem Rf.comes {ks : List Int} {k : Bool → M} {K : Bool → PS → Option (AV × PS)} (hk : ks.length < 1099511627776) (hg : a.good) (h1 : comesF ks a.kinds = true → Rf (runM (callN n) (k true) a ms) (K true (toP a)) e) (h2 : comesF ks a.kinds = false → Rf (runM (callN n) (k false) a ms) (K false (toP a)) e) :
  Rf (runM (callN n) (comes ks k) a ms) (cX W .b .prog comes.n [.rdr 0, .sl .int ks] (toP a) K) e := by
 rw [cX_b (W_comes hg.took ks hk)]
 show Rf (runM (callN n) (k (comesF ks a.kinds)) a ms) _ e
 cases hc : comesF ks a.kinds with
 | true => exact h1 hc
 | false => exact h2 hc
theorem Rf.lookB {f : List Int → Bool} {k : Bool → M} {K : Bool → PS → Option (AV × PS)} {g : Nat} {args : List AV} (hW : W .prog g args (toP a) = some (.bool (f a.kinds), toP a)) (h1 : f a.kinds = true → Rf (runM (callN n) (k true) a ms) (K true (toP a)) e) (h2 : f a.kinds = false → Rf (runM (callN n) (k false) a ms) (K false (toP a)) e) :
  Rf (runM (callN n) (.lookB f k) a ms) (cX W .b .prog g args (toP a) K) e := by
 rw [cX_b hW]
 show Rf (runM (callN n) (k (f a.kinds)) a ms) _ e
 cases hc : f a.kinds with
 | true => exact h1 hc
 | false => exact h2 hc
theorem Rf.dead {k : Bool → M} {y1 y2 : Option (AV × PS)} (h1 : a.dead = false → Rf (runM (callN n) (k false) a ms) y1 e) (h2 : a.dead = true → Rf (runM (callN n) (k true) a ms) y2 e) :
  Rf (runM (callN n) (.dead k) a ms) (if (!(toP a).failed) = true then y1 else y2) e := by
 show Rf (runM (callN n) (k a.dead) a ms) (if (!a.dead) = true then y1 else y2) e
 cases hd : a.dead with
 | true => simpa using h2 hd
 | false => simpa using h1 hd
theorem Rf.take {k : M} {K : Unit → PS → Option (AV × PS)} (hg : a.good) (h : ∀ b, b.good → b = a.take → Rf (runM (callN n) k b ms) (K () (toP b)) e) : Rf (runM (callN n) (.take k) a ms) (cX W .u .prog Take.n [.rdr 0] (toP a) K) e := by
 intro r b hx
 simp only [runM] at hx
 split at hx
 ·rename_i hr
  rw [cX_u (W_Take hg.took hr)]
  exact h _ (good_take hg hr) rfl r b hx
 ·cases hx
theorem Rf.taken {ks : List Int} {k : Bool → M} {K : Bool → PS → Option (AV × PS)} (hk : ks.length < 1099511627776) (hg : a.good) (h1 : ∀ b, comesF ks a.kinds = true → b.good → b = a.take → Rf (runM (callN n) (k true) b ms) (K true (toP b)) e) (h2 : comesF ks a.kinds = false → Rf (runM (callN n) (k false) a ms) (K false (toP a)) e) :
  Rf (runM (callN n) (taken ks k) a ms) (cX W .b .prog taken.n [.rdr 0, .sl .int ks] (toP a) K) e := by
 intro r b hx
 have hx' : runM (callN n) (if comesF ks a.kinds then .take (k true) else k false) a ms = some (r, b) := hx
 cases hc : comesF ks a.kinds with
 | true =>
  rw [hc, if_pos rfl] at hx'
  simp only [runM] at hx'
  split at hx'
  ·rename_i hr
   have := W_taken hg.took hr ks hk
   rw [hc, if_pos rfl] at this
   rw [cX_b this]
   exact h1 _ hc (good_take hg hr) rfl r b hx'
  ·cases hx'
 | false =>
  rw [hc, if_neg (by decide)] at hx'
  have : W .prog taken.n [.rdr 0, .sl .int ks] (toP a) = some (.bool false, toP a) := by
   refine fx taken.fd 0 ?_
   rw [taken_eq, cX_b (W_comes hg.took ks hk), hc, if_neg (by decide)]
  rw [cX_b this]
  exact h2 hc r b hx'
theorem Rf.expect {c : Int} {k : M} {K : Bool → PS → Option (AV × PS)} (hc : c ≠ 0) (hg : a.good) (h1 : ∀ b, b.good → Rf (runM (callN n) k b ms) (K true (toP b)) e) (h2 : ∀ b, b.good → Rf (runM (callN n) k b ms) (K false (toP b)) e) : Rf (runM (callN n) (expect c k) a ms) (cX W .b .prog Expect.n [.rdr 0, .int c] (toP a) K) e := by
 intro r b hx
 have hx' : runM (callN n) (if a.kinds.getD 0 0 = c then .take k else .fail 201 k) a ms = some (r, b) := hx
 have hW : ∀ hr, W .prog Expect.n [.rdr 0, .int c] (toP a) = _ := fun hr => W_Expect hg.took hr c hc
 by_cases hk : a.kinds.getD 0 0 = c
 ·rw [if_pos hk] at hx'
  simp only [runM] at hx'
  split at hx'
  ·rename_i hr
   have := hW hr
   rw [if_pos hk, decide_eq_true hk] at this
   rw [cX_b this]
   exact h1 _ (good_take hg hr) r b hx'
  ·cases hx'
 ·rw [if_neg hk] at hx'
  simp only [runM] at hx'
  have : W .prog Expect.n [.rdr 0, .int c] (toP a) = some (.bool false, toP (a.fail 201)) := by
   refine fx Expect.fd 0 ?_
   rw [Expect_eq, if_neg (by simpa using hc), cX_i (W_Kind hg.took), if_pos (decide_eq_true hk), cX_u (W_Fail hg.took 201)]
  rw [cX_b this]
  exact h2 _ (good_fail hg 201) r b hx'
theorem Rf.fail {c : Int} {k : M} {K : Unit → PS → Option (AV × PS)} (hg : a.good) (h : ∀ b, b.good → Rf (runM (callN n) k b ms) (K () (toP b)) e) : Rf (runM (callN n) (.fail c k) a ms) (cX W .u .prog Fail.n [.rdr 0, .int c] (toP a) K) e := by
 rw [cX_u (W_Fail hg.took c)]
 exact h _ (good_fail hg c)
theorem Rf.none_ {k : M} {K : Unit → PS → Option (AV × PS)} (hg : a.good) (h : ∀ b, b.good → Rf (runM (callN n) k b ms) (K () (toP b)) e) : Rf (runM (callN n) (.none_ k) a ms) (cX W .u .prog None_.n [.rdr 0] (toP a) K) e := by
 intro r b hx
 simp only [runM] at hx
 split at hx
 ·rename_i hr
  rw [cX_u (W_None hg.took hr)]
  exact h _ (good_none hg hr) r b hx
 ·cases hx
theorem Rf.mark {k : M} {K : Int → PS → Option (AV × PS)} (h : Rf (runM (callN n) k a (ms ++ [(a.row.length : Int)])) (K a.row.length (toP a)) e) : Rf (runM (callN n) (.mark k) a ms) (cX W .i .prog Mark.n [.rdr 0] (toP a) K) e := by
 intro r b hx
 simp only [runM] at hx
 split at hx
 ·rw [cX_i W_Mark]; exact h r b hx
 ·cases hx
theorem Rf.close {hh : Nat} {kd m : Int} {k : M} {K : Unit → PS → Option (AV × PS)} (hm : ms.getD hh 0 = m) (hg : a.good) (h : ∀ b, b.good → Rf (runM (callN n) k b ms) (K () (toP b)) e) : Rf (runM (callN n) (.close hh kd k) a ms) (cX W .u .prog Close.n [.rdr 0, .int m, .int kd] (toP a) K) e := by
 intro r b hx
 simp only [runM] at hx
 split at hx
 ·rename_i hr
  rw [hm] at hx
  rw [cX_u (W_Close hg hr m kd)]
  exact h _ (good_close hg hr m kd) r b hx
 ·cases hx
theorem Rf.down {k : Bool → M} {K : Bool → PS → Option (AV × PS)} (hg : a.good) (h : ∀ b c, b.good → Rf (runM (callN n) (k c) b ms) (K c (toP b)) e) : Rf (runM (callN n) (.down k) a ms) (cX W .b .prog Down.n [.rdr 0] (toP a) K) e := by
 rw [cX_b (W_Down hg.took)]
 exact h _ _ (good_down hg)
theorem Rf.up {k : M} {K : Unit → PS → Option (AV × PS)} (hg : a.good) (h : ∀ b, b.good → Rf (runM (callN n) k b ms) (K () (toP b)) e) : Rf (runM (callN n) (.up k) a ms) (cX W .u .prog Up.n [.rdr 0] (toP a) K) e := by
 rw [cX_u (W_Up hg.took)]
 exact h _ (good_up hg)
theorem Rf.lit {hh : Nat} {m : Int} {head : Bool} {k : Bool → M} {K : Bool → PS → Option (AV × PS)} (hm : ms.getD hh 0 = m) (hlv : a.dead = false) (hg : a.good) (h : ∀ c, Rf (runM (callN n) (k c) a ms) (K c (toP a)) e) : Rf (runM (callN n) (.lit hh head k) a ms) (cX W .b .prog literal.n [.rdr 0, .int m, .bool head] (toP a) K) e := by
 intro r b hx
 simp only [runM] at hx
 split at hx
 ·rename_i hr
  simp only [Bool.or_eq_true] at hr
  rw [hm] at hx hr
  rw [cX_b (W_literal hg.took m head (hr.resolve_left (by rw [hlv]; decide)))]
  exact h _ r b hx
 ·cases hx
theorem live_of_kind {x : Int} (h : x = a.kinds.getD 0 0) (hx : x ≠ 0) : a.dead = false := by
 cases hd : a.dead with
 | false => rfl
 | true => rw [kinds_dead hd] at h; exact absurd h hx
theorem Rf.names {ns : List Bool} {l : List Ent} {k : M} {K : Unit → PS → Option (AV × PS)} (hns : ns.length < 4294967296) (hl : entsOf ms ns = l) (hp : EntPos l) (hg : a.good) (h : ∀ b, b.good → Rf (runM (callN n) k b ms) (K () (toP b)) e) : Rf (runM (callN n) (.names ns k) a ms) (cX W .u .prog names.n [.rdr 0, .sl .ent l] (toP a) K) e := by
 intro r b hx
 simp only [runM] at hx
 split at hx
 ·rename_i hr
  simp only [Bool.and_eq_true, Bool.or_eq_true, decide_eq_true_eq] at hr
  rw [hl] at hx hr
  have hll := entsOf_length ms ns
  rw [hl] at hll
  rw [cX_u (W_names hg.took l (by omega) hp (hr.imp_right (·.2)))]
  exact h _ (names_good hg l) r b hx
 ·cases hx
theorem Rf.group {ns : List Bool} {any : Bool} {l : List Ent} {k : M} {K : Unit → PS → Option (AV × PS)} (hns : ns.length < 4294967296) (hl : entsOf ms ns = l) (hg : a.good) (h : ∀ b, b.good → Rf (runM (callN n) k b ms) (K () (toP b)) e) : Rf (runM (callN n) (.group ns any k) a ms) (cX W .u .prog group.n [.rdr 0, .sl .ent l, .bool any] (toP a) K) e := by
 intro r b hx
 simp only [runM] at hx
 split at hx
 ·rename_i hr
  simp only [Bool.and_eq_true, Bool.or_eq_true, decide_eq_true_eq] at hr
  rw [hl] at hx hr
  have hll := entsOf_length ms ns
  rw [hl] at hll
  rw [cX_u (W_group hg any l (by omega) (hr.imp_right (·.2)))]
  exact h _ (group_good hg any l (by omega) (hr.imp_right (·.2))).1 r b hx
 ·cases hx
theorem Rf.ite {c : Prop} [Decidable c] {x : Option (Int × A)} {y1 y2 : Option (AV × PS)} (h1 : c → Rf x y1 e) (h2 : ¬ c → Rf x y2 e) : Rf x (if c then y1 else y2) e := by
 split
 ·exact h1 ‹_›
 ·exact h2 ‹_›
theorem Rf.callU {pr : Proc} {hs : List Nat} {k : Int → M} {f : Nat} {args : List AV} {K : Unit → PS → Option (AV × PS)} {u : Int → A → AV} (hg : a.good) (H : Rf (callN n pr a (hs.map fun h => ms.getD h 0)) (W .prog f args (toP a)) u)
  (h : ∀ r b, b.good → b.rest.length ≤ a.rest.length → Rf (runM (callN n) (k r) b ms) (K () (toP b)) e) : Rf (runM (callN n) (.call pr hs k) a ms) (cX W .u .prog f args (toP a) K) e := by
 intro r b hx
 simp only [runM] at hx
 split at hx
 ·rename_i r1 b1 hc
  rw [cX_u (H _ _ hc)]
  have hk := callN_good n pr a _ _ _ hg hc
  exact h _ _ hk.1 hk.2 r b hx
 ·cases hx
theorem Rf.callI {pr : Proc} {hs : List Nat} {k : Int → M} {f : Nat} {args : List AV} {K : Int → PS → Option (AV × PS)} (hg : a.good) (H : Rf (callN n pr a (hs.map fun h => ms.getD h 0)) (W .prog f args (toP a)) (fun r _ => .int r))
  (h : ∀ r b, b.good → b.rest.length ≤ a.rest.length → Rf (runM (callN n) (k r) b ms) (K r (toP b)) e) : Rf (runM (callN n) (.call pr hs k) a ms) (cX W .i .prog f args (toP a) K) e := by
 intro r b hx
 simp only [runM] at hx
 split at hx
 ·rename_i r1 b1 hc
  rw [cX_i (H _ _ hc)]
  have hk := callN_good n pr a _ _ _ hg hc
  exact h _ _ hk.1 hk.2 r b hx
 ·cases hx
theorem Rf.callB {pr : Proc} {hs : List Nat} {k : Int → M} {f : Nat} {args : List AV} {K : Bool → PS → Option (AV × PS)} (hg : a.good) (H : Rf (callN n pr a (hs.map fun h => ms.getD h 0)) (W .prog f args (toP a)) (fun r _ => .bool (decide (r ≠ 0))))
  (h : ∀ r b, b.good → b.rest.length ≤ a.rest.length → Rf (runM (callN n) (k r) b ms) (K (decide (r ≠ 0)) (toP b)) e) : Rf (runM (callN n) (.call pr hs k) a ms) (cX W .b .prog f args (toP a) K) e := by
 intro r b hx
 simp only [runM] at hx
 split at hx
 ·rename_i r1 b1 hc
  rw [cX_b (H _ _ hc)]
  have hk := callN_good n pr a _ _ _ hg hc
  exact h _ _ hk.1 hk.2 r b hx
 ·cases hx
theorem Rf.callE {pr : Proc} {hs : List Nat} {k : Int → M} {f : Nat} {args : List AV} {K : Ent → PS → Option (AV × PS)} (hg : a.good) (H : Rf (callN n pr a (hs.map fun h => ms.getD h 0)) (W .prog f args (toP a)) (fun r b => .agg [.int a.row.length, .int b.row.length, .bool (decide (r ≠ 0))]))
  (h : ∀ r b, b.good → b.rest.length ≤ a.rest.length → Rf (runM (callN n) (k r) b ms) (K ⟨a.row.length, b.row.length, decide (r ≠ 0)⟩ (toP b)) e) : Rf (runM (callN n) (.call pr hs k) a ms) (cX W (.e .ent) .prog f args (toP a) K) e := by
 intro r b hx
 simp only [runM] at hx
 split at hx
 ·rename_i r1 b1 hc
  rw [cX_ent (H _ _ hc)]
  have hk := callN_good n pr a _ _ _ hg hc
  exact h _ _ hk.1 hk.2 r b hx
 ·cases hx
theorem Rf.kindT {x : Option (Int × A)} {K : Int → PS → Option (AV × PS)} (hg : a.good) (h : Rf x (K (a.kinds.getD 0 0) (toP a)) e) : Rf x (cX W .i .prog Kind.n [.rdr 0] (toP a) K) e := by
 rw [cX_i (W_Kind hg.took)]; exact h
theorem Rf.prec {x : Option (Int × A)} {k : Int} {K : Int → Unit → Option (AV × PS)} (h : Rf x (K (precF k) ()) e) : Rf x (cX W .i .unit Prec.n [.int k] () K) e := by
 rw [cX_i (W_Prec k)]; exact h
theorem Rf.wrap {x : Option (Int × A)} {y : Int → Option (AV × PS)} {z : Int} (hz : -9223372036854775808 ≤ z ∧ z ≤ 9223372036854775807) (h : Rf x (y z) e) : Rf x (y (IntKind.i64.wrap z)) e := by
 rw [wi z hz.1 hz.2]; exact h
theorem Rf.tail {pr : Proc} {hs : List Nat} {y : Option (AV × PS)} (H : Rf (callN n pr a (hs.map fun h => ms.getD h 0)) y e) : Rf (runM (callN n) (.call pr hs .ret) a ms) y e := by
 intro r b hx
 simp only [runM] at hx
 split at hx
 ·rename_i r1 b1 hc
  simp only [Option.some.injEq, Prod.mk.injEq] at hx
  obtain ⟨rfl, rfl⟩ := hx
  exact H _ _ hc
 ·cases hx
end
end Go.AI.Rd
