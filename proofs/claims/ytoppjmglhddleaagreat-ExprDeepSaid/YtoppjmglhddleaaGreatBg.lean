/- DERIVED. THE EVALUATOR, THE READER, THE SCANNER: lemmas for Deep. -/
import Derived.Test.YtoppjmglhddleaaGreatBf
set_option linter.unusedVariables false
set_option linter.unusedSimpArgs false
namespace Go.AI.Rd
theorem cX_node {τ : STy} {f : Nat} {args : List AV} {p q : τ.T} {R : Type} {n : Node} {K : Node → τ.T → Option R} (h : W τ f args p = some (.agg [.int (Node.k n), .int (Node.f n), .int (Node.t n), .sl .node (Node.kids n)], q)) : cX W (.e .node) τ f args p K = K n q := by
 unfold cX; rw [h]; cases n; rfl
theorem cX_node0 {τ : STy} {f : Nat} {args : List AV} {p q : τ.T} {R : Type} {k f' t : Int} {K : Node → τ.T → Option R} (h : W τ f args p = some (.agg [.int k, .int f', .int t, .nil], q)) : cX W (.e .node) τ f args p K = K (.mk k f' t []) q := by
 unfold cX; rw [h]; rfl
def toQ (a : A) : QS :=
 { l := a.pre ++ a.rest, at_ := a.pre.length, row := a.row.map (·.n), high := a.row.map (·.h), opn := a.opn, dc := (match a.dg with | some d => d.c | none => 0), df := (match a.dg with | some d => d.f | none => 0), dt := (match a.dg with | some d => d.t | none => 0), failed := a.dead }
structure RelQ (q : QS) (a : A) : Prop where
 l : q.l = a.pre ++ a.rest
 f : q.failed = a.dead
 live : a.dead = false → q = toQ a
 dd : ∀ d, a.dg = some d → q.dc = d.c ∧ q.df = d.f ∧ q.dt = d.t
theorem RelQ.toQ (a : A) : RelQ (toQ a) a := ⟨rfl, rfl, fun _ => rfl, fun d hd => by simp [Rd.toQ, hd]⟩
def posSig : List Tok → Nat → Nat
 | [], _ => 0
 | t :: r, n => if sg t then (match n with | 0 => 0 | n + 1 => posSig r n + 1) else posSig r n + 1
theorem posSig_lt : ∀ (r : List Tok) (n : Nat) (d : Tok), n < (sigs r).length → posSig r n < r.length ∧ r.getD (posSig r n) d = (sigs r).getD n d
 | [], n, d, h => by simp [sigs] at h
 | t :: r, n, d, h => by
  unfold posSig
  by_cases ht : sg t = true
  ·have hs : sigs (t :: r) = t :: sigs r := by simp [sigs, List.filter_cons, ht]
   rw [hs] at h ⊢
   rw [if_pos ht]
   cases n with
   | zero => exact ⟨by simp, rfl⟩
   | succ n =>
    obtain ⟨h1, h2⟩ := posSig_lt r n d (by simpa using h)
    exact ⟨by simp; omega, by simpa using h2⟩
  ·have hs : sigs (t :: r) = sigs r := by simp [sigs, List.filter_cons, ht]
   rw [hs] at h ⊢
   rw [if_neg ht]
   obtain ⟨h1, h2⟩ := posSig_lt r n d h
   exact ⟨by simp; omega, by simpa using h2⟩
theorem posSig_ge : ∀ (r : List Tok) (n : Nat), (sigs r).length ≤ n → posSig r n = r.length
 | [], n, h => rfl
 | t :: r, n, h => by
  unfold posSig
  by_cases ht : sg t = true
  ·have hs : sigs (t :: r) = t :: sigs r := by simp [sigs, List.filter_cons, ht]
   rw [hs] at h
   rw [if_pos ht]
   cases n with
   | zero => simp at h
   | succ n => simp only [List.length_cons]; rw [posSig_ge r n (by simpa using h)]
  ·have hs : sigs (t :: r) = sigs r := by simp [sigs, List.filter_cons, ht]
   rw [hs] at h
   rw [if_neg ht, posSig_ge r n h]; rfl
theorem tok_drop {l : List Tok} {i : Nat} (h : i < l.length) : l.drop i = l.getD i ⟨0, 0, 0⟩ :: l.drop (i + 1) := by
 rw [List.drop_eq_getElem_cons h, List.getD_eq_getElem?_getD, List.getElem?_eq_getElem h]; rfl
theorem sg_iff (t : Tok) : (decide (t.k ≥ 10) = true) = (sg t = true) := rfl
theorem qnext_l0 (q : QS) (lim : Nat) (hq : q.l.length < 1099511627776) : ∀ (d i n0 n : Nat), i + d = q.l.length → d < n0 → n < 2199023255552 →
  qnext.l0 W lim n0 n i q = some (.int ((i + posSig (q.l.drop i) n : Nat) : Int), q)
 | _, i, 0, n, hi, hn, _ => by omega
 | 0, i, n0 + 1, n, hi, hn, _ => by
  rw [qnext.l0_succ, if_neg (by simp; omega), List.drop_of_length_le (by omega)]; rfl
 | d + 1, i, n0 + 1, n, hi, hn, hnb => by
  rw [qnext.l0_succ, if_pos (by simp; omega), if_pos (by omega), if_pos (by omega), Int.toNat_natCast, tok_drop (by omega)]
  unfold posSig
  by_cases ht : sg (q.l.getD i ⟨0, 0, 0⟩) = true
  ·rw [if_pos (by rw [sg_iff]; exact ht), if_pos ht]
   cases n with
   | zero => rw [if_pos (by simp)]; rfl
   | succ n =>
    rw [if_neg (by simp; omega), wi _ (by omega) (by omega), wi _ (by omega) (by omega)]
    have := qnext_l0 q lim hq d (i + 1) n0 n (by omega) (by omega) (by omega)
    rw [show (((n + 1 : Nat) : Int) - 1) = (n : Int) by omega, show ((i : Int) + 1) = ((i + 1 : Nat) : Int) by omega, this]
    congr 3
    exact congrArg Nat.cast (by show i + 1 + posSig (q.l.drop (i + 1)) n = i + (posSig (q.l.drop (i + 1)) n + 1); omega)
  ·rw [if_neg (by rw [sg_iff]; exact ht), if_neg ht, wi _ (by omega) (by omega)]
   have := qnext_l0 q lim hq d (i + 1) n0 n (by omega) (by omega) hnb
   rw [show ((i : Int) + 1) = ((i + 1 : Nat) : Int) by omega, this]
   congr 3; omega
structure QA (q : QS) (a : A) : Prop where
 l : q.l = a.pre ++ a.rest
 p : q.at_ = a.pre.length
section
variable {a : A} {q : QS}
theorem W_qnext (h : QA q a) (ho : a.ok) (n : Nat) (hn : n < 2199023255552) : W .ref qnext.n [.rdr 0, .int n] q = some (.int ((a.pre.length + posSig a.rest n : Nat) : Int), q) := by
 have hl := ho.len
 have hql : q.l.length = a.pre.length + a.rest.length := by rw [h.l, List.length_append]
 refine fx qnext.fd (q.l.length + 1) ?_
 rw [qnext_eq, h.p, qnext_l0 q _ (by omega) a.rest.length a.pre.length _ n (by omega) (by omega) hn, h.l, List.drop_left]
theorem W_qhere (h : QA q a) (ho : a.ok) : W .ref qhere.n [.rdr 0] q = some (.int a.here, q) := by
 have hl := ho.len
 have hql : q.l.length = a.pre.length + a.rest.length := by rw [h.l, List.length_append]
 refine fx qhere.fd 1 ?_
 rw [qhere_eq, qhere.l0_succ, h.p, wi _ (by omega) (by omega)]
 unfold A.here
 cases hg : a.pre.getLast? with
 | some t =>
  obtain ⟨k, hk⟩ := List.getLast?_eq_some_iff.1 hg
  have hpl : a.pre.length = k.length + 1 := by rw [hk]; simp
  have e1 : ((a.pre.length : Int) - 1) = (k.length : Int) := by omega
  have hgt : q.l.getD k.length ⟨0, 0, 0⟩ = t := by
   rw [h.l, hk, List.append_assoc, getD_app_right _ _ _ _ (by omega)]; simp
  rw [e1, if_pos (by simp), if_pos (by omega), if_pos (by omega), Int.toNat_natCast, hgt, if_pos (by rw [sg_iff]; exact ho.pre t hg), if_pos (by omega), if_pos (by omega)]
 | none =>
  have hpn : a.pre = [] := List.getLast?_eq_none_iff.1 hg
  have hp0 : a.pre.length = 0 := by rw [hpn]; rfl
  rw [if_neg (by simp; omega)]
  have hnx := W_qnext h ho 0 (by decide)
  rw [cX_i (show W .ref qnext.n [.rdr 0, .int 0] q = _ from hnx)]
  by_cases hs : 0 < (sigs a.rest).length
  ·obtain ⟨p1, p2⟩ := posSig_lt a.rest 0 ⟨0, 0, 0⟩ hs
   rw [if_pos (by simp; omega), if_pos (by omega), if_pos (by omega), Int.toNat_natCast]
   have : q.l.getD (a.pre.length + posSig a.rest 0) ⟨0, 0, 0⟩ = (sigs a.rest).getD 0 ⟨0, 0, 0⟩ := by
    rw [h.l, getD_app_right _ _ _ _ (by omega), Nat.add_sub_cancel_left]; exact p2
   rw [this]
   cases hx : sigs a.rest with
   | nil => rw [hx] at hs; simp at hs
   | cons x y => rfl
  ·have hz : sigs a.rest = [] := List.length_eq_zero_iff.1 (by omega)
   have hpg := posSig_ge a.rest 0 (by omega)
   rw [if_neg (by simp; omega), hz]
   simp only [List.head?_nil]
   have hqr : q.l = a.rest := by rw [h.l, hpn]; rfl
   rw [hqr]
   cases hr : a.rest with
   | nil => simp
   | cons x y => simp
theorem W_qAhead (h : QA q a) (hf : q.failed = a.dead) (ho : a.ok) (n : Nat) (hn : n < 2199023255552) : W .ref qAhead.n [.rdr 0, .int n] q = some (.int (a.kinds.getD n 0), q) := by
 have hl := ho.len
 have hql : q.l.length = a.pre.length + a.rest.length := by rw [h.l, List.length_append]
 refine fx qAhead.fd 0 ?_
 rw [qAhead_eq]
 by_cases hd : a.dead = true
 ·rw [if_pos (by rw [hf]; exact hd), kinds_dead hd]; rfl
 have hd : a.dead = false := by simpa using hd
 rw [if_neg (by rw [hf, hd]; decide), if_neg (by simp), cX_i (W_qnext h ho n hn), kinds_live hd]
 by_cases hs : n < (sigs a.rest).length
 ·obtain ⟨p1, p2⟩ := posSig_lt a.rest n ⟨0, 0, 0⟩ hs
  rw [if_neg (by simp; omega), if_pos (by omega), if_pos (by omega), Int.toNat_natCast]
  have : q.l.getD (a.pre.length + posSig a.rest n) ⟨0, 0, 0⟩ = (sigs a.rest).getD n ⟨0, 0, 0⟩ := by
   rw [h.l, getD_app_right _ _ _ _ (by omega), Nat.add_sub_cancel_left]; exact p2
  rw [this, List.getD_eq_getElem?_getD, List.getD_eq_getElem?_getD, List.getElem?_map, List.getElem?_eq_getElem hs]; rfl
 ·have hpg := posSig_ge a.rest n (by omega)
  rw [if_pos (by simp; omega), List.getD_eq_getElem?_getD, List.getElem?_eq_none (by simp; omega)]; rfl
theorem W_qAheadD (hd : q.failed = true) (n : Int) : W .ref qAhead.n [.rdr 0, .int n] q = some (.int 0, q) := by
 refine fx qAhead.fd 0 ?_
 rw [qAhead_eq, if_pos hd]
end
theorem RelQ.qa {q : QS} {a : A} (h : RelQ q a) (hl : a.dead = false) : QA q a := by rw [h.live hl]; exact ⟨rfl, rfl⟩
section
variable {a : A} {q : QS}
theorem W_qAhead' (h : RelQ q a) (ho : a.ok) (n : Nat) (hn : n < 2199023255552) : W .ref qAhead.n [.rdr 0, .int n] q = some (.int (a.kinds.getD n 0), q) := by
 cases hd : a.dead with
 | false => exact W_qAhead (h.qa hd) h.f ho n hn
 | true => rw [kinds_dead hd]; exact W_qAheadD (by rw [h.f]; exact hd) n
theorem W_qKind (h : RelQ q a) (ho : a.ok) : W .ref qKind.n [.rdr 0] q = some (.int (a.kinds.getD 0 0), q) := by
 refine fx qKind.fd 0 ?_
 rw [qKind_eq, cX_i (show W .ref qAhead.n [.rdr 0, .int 0] q = _ from W_qAhead' h ho 0 (by decide))]
theorem qcomes_l0 (q : QS) (lim : Nat) (v : Int) (s : List Int) (hs : s.length < 1099511627776) : ∀ (d i n0 : Nat), i + d = s.length → d < n0 →
  qcomes.l0 W lim n0 s v i q = some (.bool (decide (v ≠ 0) && (s.drop i).contains v), q)
 | _, i, 0, hi, hn => by omega
 | 0, i, n0 + 1, hi, hn => by
  rw [qcomes.l0_succ, if_neg (by simp; omega), List.drop_of_length_le (by omega)]; simp
 | d + 1, i, n0 + 1, hi, hn => by
  have hx : s.drop i = s.getD i 0 :: s.drop (i + 1) := by
   rw [List.drop_eq_getElem_cons (by omega), List.getD_eq_getElem?_getD, List.getElem?_eq_getElem (by omega)]; rfl
  have ih := qcomes_l0 q lim v s hs d (i + 1) n0 (by omega) (by omega)
  rw [Int.natCast_add, Int.natCast_one] at ih
  rw [qcomes.l0_succ, if_pos (by simp; omega), if_pos (by omega), if_pos (by omega), Int.toNat_natCast, hx, wi _ (by omega) (by omega), ih, List.contains_cons]
  by_cases h0 : v = 0
  ·subst h0; simp
  ·have hne : decide (v ≠ 0) = true := decide_eq_true h0
   rw [hne, if_pos rfl]
   by_cases hv : v = s.getD i 0
   ·rw [if_pos (decide_eq_true hv), ← hv]; simp
   ·rw [if_neg (by simp only [decide_eq_true_eq]; exact hv)]
    have : (v == s.getD i 0) = false := by simp only [beq_eq_false_iff_ne]; exact hv
    rw [this]; rfl
theorem W_qcomes (h : RelQ q a) (ho : a.ok) (ks : List Int) (hk : ks.length < 1099511627776) : W .ref qcomes.n [.rdr 0, .sl .int ks] q = some (.bool (comesF ks a.kinds), q) := by
 refine fx qcomes.fd (ks.length + 1) ?_
 rw [qcomes_eq, cX_i (W_qKind h ho)]
 exact qcomes_l0 q _ _ ks hk ks.length 0 _ (by omega) (by omega)
theorem W_qMark (q : QS) : W .ref qMark.n [.rdr 0] q = some (.int q.row.length, q) := by
 refine fx qMark.fd 0 ?_
 rw [qMark_eq]
theorem W_qFail3 (h : RelQ q a) (ho : a.ok) (c : Int) : ∃ q', W .ref qFail.n [.rdr 0, .int c] q = some (.undef, q') ∧ RelQ q' (a.fail c) ∧ (a.dead = false → q' = toQ (a.fail c)) := by
 have hl := ho.len
 cases hd : a.dg with
 | some d =>
  have hdd : a.dead = true := toP_dead d hd
  refine ⟨q, ?_, by rw [fail_dead hdd]; exact h, fun hc => by rw [hdd] at hc; cases hc⟩
  refine fx qFail.fd 0 ?_
  rw [qFail_eq, if_pos (by rw [h.f]; exact hdd)]
 | none =>
  have hlv := live_of hd
  have hqa := h.qa hlv
  have hql : q.l.length = a.pre.length + a.rest.length := by rw [h.l, List.length_append]
  have hq := h.live hlv
  refine ⟨toQ (a.fail c), ?_, RelQ.toQ _, fun _ => rfl⟩
  refine fx qFail.fd 0 ?_
  rw [qFail_eq, if_neg (by rw [h.f, hlv]; decide), cX_i (W_qhere hqa ho), cX_i (W_qhere hqa ho)]
  have hqa2 : QA { q with dc := c, df := a.here, dt := a.here } a := ⟨h.l, hqa.p⟩
  rw [cX_i (show W .ref qnext.n [.rdr 0, .int 0] { q with dc := c, df := a.here, dt := a.here } = _ from W_qnext hqa2 ho 0 (by decide))]
  by_cases hs : 0 < (sigs a.rest).length
  ·obtain ⟨p1, p2⟩ := posSig_lt a.rest 0 ⟨0, 0, 0⟩ hs
   rw [if_pos (by simp; omega), if_pos (by omega), if_pos (by simp only; omega), if_pos (by omega), if_pos (by simp only; omega), Int.toNat_natCast]
   have : q.l.getD (a.pre.length + posSig a.rest 0) ⟨0, 0, 0⟩ = (sigs a.rest).getD 0 ⟨0, 0, 0⟩ := by
    rw [h.l, getD_app_right _ _ _ _ (by omega), Nat.add_sub_cancel_left]; exact p2
   simp only
   rw [this]
   unfold A.fail
   rw [hd]
   cases hx : sigs a.rest with
   | nil => rw [hx] at hs; simp at hs
   | cons x y => rw [hq]; simp [toQ, A.dead]
  ·have hz : sigs a.rest = [] := List.length_eq_zero_iff.1 (by omega)
   have hpg := posSig_ge a.rest 0 (by omega)
   rw [if_neg (by simp only [decide_eq_true_eq]; omega)]
   unfold A.fail
   rw [hd, hz, hq]; simp [toQ, A.dead]
theorem W_qFail (h : RelQ q a) (ho : a.ok) (c : Int) : ∃ q', W .ref qFail.n [.rdr 0, .int c] q = some (.undef, q') ∧ RelQ q' (a.fail c) := by
 obtain ⟨q', h1, h2, _⟩ := W_qFail3 h ho c
 exact ⟨q', h1, h2⟩
theorem qpush_nil_eq (call : Call) (lim : Nat) (k f t : Int) (high : Int) (p : QS) : evalBody T0 call .ref lim qpush.I [.rdr 0, .agg [.int k, .int f, .int t, .nil], .int high] p =
 if (p.row).length + ([(Node.mk 0 0 0 [])]).length < maxRow then
 if 0 ≤ ((p.row).length : Int) then
 if ((p.row).length : Int) < (((p.row ++ [(Node.mk 0 0 0 [])])).length : Int) then
 if (p.high).length + ([high]).length < maxRow then
 some (.undef, { p with row := (List.set (p.row ++ [(Node.mk 0 0 0 [])]) (Int.toNat ((p.row).length : Int)) (Node.mk k f t [])), high := (p.high ++ [high]) })
 else none
 else none
 else none
 else none := by kernel_rfl
theorem set_last {α : Type} (l : List α) (x y : α) : List.set (l ++ [x]) l.length y = l ++ [y] := by
 simp
theorem W_qpush (q : QS) (n : Node) (hi : Int) (h1 : q.row.length < 4294967290) (h2 : q.high.length < 4294967290) : W .ref qpush.n [.rdr 0, .agg [.int (Node.k n), .int (Node.f n), .int (Node.t n), .sl .node (Node.kids n)], .int hi] q = some (.undef, { q with row := q.row ++ [n], high := q.high ++ [hi] }) := by
 refine fx qpush.fd 0 ?_
 rw [qpush_eq, if_pos (by simp only [List.length_singleton]; unfold maxRow; omega), if_pos (by omega), if_pos (by simp; omega), if_pos (by simp only [List.length_singleton]; unfold maxRow; omega), Node.eta, Int.toNat_natCast, set_last]
theorem W_qpush0 (q : QS) (k f t : Int) (hi : Int) (h1 : q.row.length < 4294967290) (h2 : q.high.length < 4294967290) : W .ref qpush.n [.rdr 0, .agg [.int k, .int f, .int t, .nil], .int hi] q = some (.undef, { q with row := q.row ++ [.mk k f t []], high := q.high ++ [hi] }) := by
 refine fx qpush.fd 0 ?_
 rw [qpush_nil_eq, if_pos (by simp only [List.length_singleton]; unfold maxRow; omega), if_pos (by omega), if_pos (by simp; omega), if_pos (by simp only [List.length_singleton]; unfold maxRow; omega), Int.toNat_natCast, set_last]
theorem W_qUp (h : RelQ q a) (ho : a.ok) : ∃ q', W .ref qUp.n [.rdr 0] q = some (.undef, q') ∧ RelQ q' a.up := by
 cases hd : a.dead with
 | false =>
  have hq := h.live hd
  have := ho.opn
  refine ⟨toQ a.up, ?_, RelQ.toQ _⟩
  refine fx qUp.fd 0 ?_
  rw [qUp_eq, hq]
  by_cases h0 : a.opn > 0
  ·rw [if_pos (by exact decide_eq_true h0), wi _ (by show _ ≤ a.opn - 1; omega) (by show a.opn - 1 ≤ _; omega)]
   have : max (a.opn - 1) 0 = a.opn - 1 := by omega
   simp [toQ, A.up, A.dead, this]
  ·rw [if_neg (by show ¬ decide (a.opn > 0) = true; simpa using h0)]
   have : max (a.opn - 1) 0 = a.opn := by omega
   simp [toQ, A.up, A.dead, this]
 | true =>
  have key : ∀ o : Int, RelQ { q with opn := o } a.up := fun o => ⟨h.l, h.f, fun hc => absurd (show a.dead = false from hc) (by rw [hd]; decide), h.dd⟩
  by_cases h0 : q.opn > 0
  ·refine ⟨{ q with opn := IntKind.i64.wrap (q.opn - 1) }, ?_, key _⟩
   refine fx qUp.fd 0 ?_
   rw [qUp_eq, if_pos (decide_eq_true h0)]
  ·refine ⟨q, ?_, key q.opn⟩
   refine fx qUp.fd 0 ?_
   rw [qUp_eq, if_neg (by simpa using h0)]
theorem W_qDown (h : RelQ q a) (ho : a.ok) : ∃ q', W .ref qDown.n [.rdr 0] q = some (.bool a.down.1, q') ∧ RelQ q' a.down.2 := by
 have hop := ho.opn
 cases hd : a.dg with
 | some d =>
  have hdd : a.dead = true := toP_dead d hd
  refine ⟨q, ?_, by unfold A.down; rw [hd]; exact h⟩
  refine fx qDown.fd 0 ?_
  unfold A.down
  rw [qDown_eq, if_pos (by rw [h.f]; exact hdd), hd]
 | none =>
  have hlv := live_of hd
  have hq := h.live hlv
  have hqo : q.opn = a.opn := by rw [hq]; rfl
  by_cases hx : a.opn = 100
  ·obtain ⟨q', h1, h2⟩ := W_qFail h ho 202
   refine ⟨q', ?_, by unfold A.down; rw [hd]; simp only [if_pos hx]; exact h2⟩
   refine fx qDown.fd 0 ?_
   unfold A.down
   rw [qDown_eq, if_neg (by rw [h.f, hlv]; decide), if_pos (by rw [hqo, hx]; decide), cX_u h1, hd]
   simp only [if_pos hx]
  ·refine ⟨toQ { a with opn := a.opn + 1 }, ?_, by unfold A.down; rw [hd]; simp only [if_neg hx]; rw [← hd]; exact RelQ.toQ _⟩
   refine fx qDown.fd 0 ?_
   unfold A.down
   rw [qDown_eq, if_neg (by rw [h.f, hlv]; decide), if_neg (by rw [hqo]; simp; omega), hqo, wi _ (by omega) (by omega), hd]
   simp only [if_neg hx]
   rw [hq]; simp [toQ, A.dead, hd]
theorem W_qNone (h : RelQ q a) (ho : a.ok) (hr : a.room = true) : ∃ q', W .ref qNone.n [.rdr 0] q = some (.undef, q') ∧ RelQ q' a.none_ := by
 rw [room_iff] at hr
 cases hd : a.dg with
 | some d =>
  have hdd : a.dead = true := toP_dead d hd
  refine ⟨q, ?_, by unfold A.none_; rw [hd]; exact h⟩
  refine fx qNone.fd 0 ?_
  rw [qNone_eq, if_pos (by rw [h.f]; exact hdd)]
 | none =>
  have hlv := live_of hd
  have hq := h.live hlv
  refine ⟨toQ a.none_, ?_, RelQ.toQ _⟩
  refine fx qNone.fd 0 ?_
  rw [qNone_eq, if_neg (by rw [h.f, hlv]; decide), cX_i (W_qhere (h.qa hlv) ho), cX_i (W_qhere (h.qa hlv) ho), cX_u (W_qpush0 _ _ _ _ _ (by rw [hq]; simp [toQ]; omega) (by rw [hq]; simp [toQ]; omega))]
  unfold A.none_
  rw [hd, hq]; simp [toQ, A.dead, hd]
theorem qTake_l0 (q : QS) (lim : Nat) (e : Nat) (he : e < q.l.length) (hl : q.l.length < 1099511627776) : ∀ (d i n0 : Nat) (row : List Node) (hi : List Int), i + d = e + 1 → d < n0 → row.length + d < 4294967290 → hi.length = row.length →
  qTake.l0 W lim n0 e { q with at_ := i, row := row, high := hi } = some (.undef, { q with at_ := (e : Int) + 1, row := row ++ ((q.l.drop i).take d).map (fun t => .mk t.k t.f t.t []), high := hi ++ List.replicate d 0 })
 | _, i, 0, row, hi, h1, h2, _, _ => by omega
 | 0, i, n0 + 1, row, hi, h1, h2, _, _ => by
  rw [qTake.l0_succ, if_neg (by simp; omega)]
  simp; omega
 | d + 1, i, n0 + 1, row, hi, h1, h2, h3, h4 => by
  rw [qTake.l0_succ, if_pos (by simp; omega), if_pos (by simp only; omega), if_pos (by simp only; omega)]
  simp only [Int.toNat_natCast]
  rw [cX_u (W_qpush0 _ _ _ _ _ (by simp only; omega) (by simp only; omega))]
  simp only
  rw [wi _ (by omega) (by omega)]
  have := qTake_l0 q lim e he hl d (i + 1) n0 (row ++ [.mk (q.l.getD i ⟨0, 0, 0⟩).k (q.l.getD i ⟨0, 0, 0⟩).f (q.l.getD i ⟨0, 0, 0⟩).t []]) (hi ++ [0]) (by omega) (by omega) (by simp; omega) (by simp; omega)
  rw [Int.natCast_add, Int.natCast_one] at this
  refine this.trans ?_
  have hx := tok_drop (l := q.l) (i := i) (by omega)
  rw [hx, List.take_succ_cons]
  simp only [List.map_cons, List.append_assoc, List.replicate_succ]
  rfl
theorem W_qTake (h : RelQ q a) (ho : a.ok) (hr : a.room = true) : ∃ q', W .ref qTake.n [.rdr 0] q = some (.undef, q') ∧ RelQ q' a.take := by
 rw [room_iff] at hr
 have hl := ho.len
 by_cases hk : a.kinds.getD 0 0 = 0
 ·refine ⟨q, ?_, ?_⟩
  ·refine fx qTake.fd 0 ?_
   rw [qTake_eq, cX_i (W_qKind h ho), if_pos (decide_eq_true hk)]
  ·have : a.take = a := by
    unfold A.take; unfold A.kinds at hk
    cases hd : a.dg with
    | some d => rfl
    | none =>
     rw [hd] at hk
     simp only at hk ⊢
     cases hc : cutSig a.rest with
     | none => rfl
     | some x =>
      obtain ⟨s, t, r⟩ := x
      rw [cutSig_sigs hc] at hk
      have := sg_ge (cutSig_some hc).2.2
      simp at hk; omega
   rw [this]; exact h
 ·have hlv : a.dead = false := by
   cases hd : a.dead with
   | false => rfl
   | true => rw [kinds_dead hd] at hk; exact absurd rfl hk
  have hq := h.live hlv
  have hdg := dg_live hlv
  refine ⟨toQ a.take, ?_, RelQ.toQ _⟩
  refine fx qTake.fd (a.rest.length + 2) ?_
  rw [qTake_eq, cX_i (W_qKind h ho), if_neg (by simp only [decide_eq_true_eq]; exact hk), cX_i (show W .ref qnext.n [.rdr 0, .int 0] q = _ from W_qnext (h.qa hlv) ho 0 (by decide))]
  unfold A.take
  rw [hdg]
  cases hc : cutSig a.rest with
  | none => rw [kinds_live hlv, cutSig_none hc] at hk; exact absurd rfl hk
  | some x =>
   obtain ⟨s, t, r⟩ := x
   obtain ⟨h1, h2, h3⟩ := cutSig_some hc
   have hps : posSig a.rest 0 = s.length := by
    rw [h1]
    clear hc h1
    induction s with
    | nil => simp [posSig, h3]
    | cons x s ih =>
     have hx : sg x = false := by
      cases hx : sg x with
      | false => rfl
      | true => simp [sigs, List.filter_cons, hx] at h2
     have h2' : sigs s = [] := by simpa [sigs, List.filter_cons, hx] using h2
     simp only [List.cons_append, posSig, hx, List.length_cons]
     rw [ih h2']; rfl
   have hl2 : a.rest.length = s.length + 1 + r.length := by rw [h1]; simp; omega
   rw [hps]
   have := qTake_l0 q (a.rest.length + 2) (a.pre.length + s.length) (by rw [h.l]; simp; omega) (by rw [h.l]; simp; omega) (s.length + 1) a.pre.length (a.rest.length + 2) q.row q.high (by omega) (by omega) (by rw [hq]; simp [toQ]; omega) (by rw [hq]; simp [toQ])
   have hqe : { q with at_ := (a.pre.length : Int), row := q.row, high := q.high } = q := by rw [hq]; rfl
   rw [hqe] at this
   refine this.trans ?_
   have hdr : (q.l.drop a.pre.length).take (s.length + 1) = s ++ [t] := by
    rw [h.l, List.drop_left, h1, List.take_length_add_append]; rfl
   rw [hdr, hq]
   have e6 : a.pre ++ a.rest = a.pre ++ (s ++ [t]) ++ r := by rw [h1]; simp
   have e7 : List.replicate (s.length + 1) (0 : Int) = (s ++ [t]).map (fun _ => (0 : Int)) := by
    rw [List.map_const']; simp
   simp only [toQ, A.dead, hdg]
   rw [e6, e7]
   simp [leaf]
   omega
end
end Go.AI.Rd
namespace Go.AI.Rd
theorem getD_map_n (l : List Made) (k : Nat) : (l.map (·.n)).getD k (El.dflt .node) = (l.getD k (El.dflt .made)).n := by
 rw [List.getD_eq_getElem?_getD, List.getD_eq_getElem?_getD, List.getElem?_map]
 cases l[k]? <;> rfl
theorem getD_map_h (l : List Made) (k : Nat) : (l.map (·.h)).getD k (0 : Int) = (l.getD k (El.dflt .made)).h := by
 rw [List.getD_eq_getElem?_getD, List.getD_eq_getElem?_getD, List.getElem?_map]
 cases l[k]? <;> rfl
section
variable {a : A} {q : QS}
theorem W_qExpect {c : Int} (h : RelQ q a) (ho : a.ok) (hr : a.kinds.getD 0 0 = c → a.room = true) (hc : c ≠ 0) : ∃ q', W .ref qExpect.n [.rdr 0, .int c] q = some (.bool (decide (a.kinds.getD 0 0 = c)), q') ∧ RelQ q' (if a.kinds.getD 0 0 = c then a.take else a.fail 201) := by
 by_cases hk : a.kinds.getD 0 0 = c
 ·obtain ⟨q', h1, h2⟩ := W_qTake h ho (hr hk)
  refine ⟨q', ?_, by rw [if_pos hk]; exact h2⟩
  refine fx qExpect.fd 0 ?_
  rw [qExpect_eq, if_pos (decide_eq_true hc), cX_i (W_qKind h ho), if_pos (decide_eq_true hk), cX_u h1, decide_eq_true hk]
 ·obtain ⟨q', h1, h2⟩ := W_qFail h ho 201
  refine ⟨q', ?_, by rw [if_neg hk]; exact h2⟩
  refine fx qExpect.fd 0 ?_
  rw [qExpect_eq, if_pos (decide_eq_true hc), cX_i (W_qKind h ho), if_neg (by simp only [decide_eq_true_eq]; exact hk), cX_u h1, decide_eq_false hk]
theorem qClose_l0 (hq : q = toQ a) (ho : a.ok) (hlv : a.dead = false) (lim : Nat) (kind : Int) : ∀ (d k n0 : Nat), k + d = a.row.length → d < n0 →
  ∃ j : Nat, j = k + ((a.row.drop k).takeWhile triv).length ∧ j ≤ a.row.length ∧
   qClose.l0 W lim n0 k kind q = qClose.l2 W lim lim j 1 j kind a.here a.here [] q
 | _, k, 0, hi, hn => by omega
 | 0, k, n0 + 1, hi, hn => by
  have hqa : QA q a := by rw [hq]; exact ⟨rfl, rfl⟩
  have hrl : q.row.length = a.row.length := by rw [hq]; simp [toQ]
  refine ⟨k, ?_, by omega, ?_⟩
  ·rw [List.drop_of_length_le (by omega)]; rfl
  ·rw [qClose.l0_succ, if_neg (by simp only [decide_eq_true_eq]; omega), cX_i (W_qhere hqa ho), cX_i (W_qhere hqa ho)]
 | d + 1, k, n0 + 1, hi, hn => by
  have hqa : QA q a := by rw [hq]; exact ⟨rfl, rfl⟩
  have hrl : q.row.length = a.row.length := by rw [hq]; simp [toQ]
  have hro := ho.row
  have hx := drop_getD (row := a.row) (k := k) (by omega)
  have hg : q.row.getD k (El.dflt .node) = (a.row.getD k (El.dflt .made)).n := by rw [hq]; exact getD_map_n _ _
  rw [qClose.l0_succ, if_pos (by simp only [decide_eq_true_eq]; omega), if_pos (by omega), if_pos (by omega), Int.toNat_natCast, hg]
  by_cases ht : triv (a.row.getD k (El.dflt .made)) = true
  ·obtain ⟨j, h1, h2, h3⟩ := qClose_l0 hq ho hlv lim kind d (k + 1) n0 (by omega) (by omega)
   refine ⟨j, ?_, h2, ?_⟩
   ·rw [h1, hx, List.takeWhile_cons, if_pos ht, List.length_cons]; omega
   ·rw [if_pos (by exact ht), wi _ (by omega) (by omega)]
    rw [Int.natCast_add, Int.natCast_one] at h3; exact h3
  ·refine ⟨k, ?_, by omega, ?_⟩
   ·rw [hx, List.takeWhile_cons, if_neg ht]; rfl
   ·rw [if_neg (by exact ht), cX_i (W_qhere hqa ho), cX_i (W_qhere hqa ho)]
noncomputable def qCloseEnd (m hi kind f t : Int) (kids : List Node) (p : QS) : Option (AV × QS) :=
 if (decide (((kids).length : Int) > 0)) then
 if 0 ≤ 0 then
 if 0 < ((kids).length : Int) then
 if 0 ≤ (IntKind.i64.wrap (((kids).length : Int) - 1)) then
 if (IntKind.i64.wrap (((kids).length : Int) - 1)) < ((kids).length : Int) then
 if 0 ≤ m then
 if m ≤ ((p.row).length : Int) then
 if 0 ≤ m then
 if m ≤ ((p.high).length : Int) then
 cX W .u .ref qpush.n [.rdr 0, .agg [.int kind, .int (Node.f (List.getD kids (Int.toNat 0) (El.dflt .node))), .int (Node.t (List.getD kids (Int.toNat (IntKind.i64.wrap (((kids).length : Int) - 1))) (El.dflt .node))), .sl .node kids], .int hi] ({ p with row := (List.take (Int.toNat m) p.row), high := (List.take (Int.toNat m) p.high) }) fun _ (p15 : QS) =>
 if (decide (hi > 100)) then
 cX W .u .ref qFail.n [.rdr 0, .int 202] p15 fun _ (p17 : QS) =>
 some (.undef, p17)
 else
 some (.undef, p15)
 else none
 else none
 else none
 else none
 else none
 else none
 else none
 else none
 else
 if 0 ≤ m then
 if m ≤ ((p.row).length : Int) then
 if 0 ≤ m then
 if m ≤ ((p.high).length : Int) then
 cX W .u .ref qpush.n [.rdr 0, .agg [.int kind, .int f, .int t, .sl .node kids], .int hi] ({ p with row := (List.take (Int.toNat m) p.row), high := (List.take (Int.toNat m) p.high) }) fun _ (p19 : QS) =>
 if (decide (hi > 100)) then
 cX W .u .ref qFail.n [.rdr 0, .int 202] p19 fun _ (p21 : QS) =>
 some (.undef, p21)
 else
 some (.undef, p19)
 else none
 else none
 else none
 else none
theorem qClose_l2 (hq : q = toQ a) (ho : a.ok) (lim : Nat) (m kind f t : Int) : ∀ (d i n0 : Nat) (hi : Int) (kids : List Node), i + d = a.row.length → d < n0 → kids.length ≤ i →
  qClose.l2 W lim n0 m hi i kind f t kids q = qCloseEnd m (high (a.row.drop i) hi) kind f t (kids ++ (a.row.drop i).map (·.n)) q
 | _, i, 0, hi, kids, h1, h2, _ => by omega
 | 0, i, n0 + 1, hi, kids, h1, h2, _ => by
  have hrl : q.row.length = a.row.length := by rw [hq]; simp [toQ]
  rw [qClose.l2_succ, if_neg (by simp only [decide_eq_true_eq]; omega), show a.row.drop i = [] from List.drop_of_length_le (by omega)]
  simp only [high, List.map_nil, List.append_nil]
  rfl
 | d + 1, i, n0 + 1, hi, kids, h1, h2, h3 => by
  have hrl : q.row.length = a.row.length := by rw [hq]; simp [toQ]
  have hhl : q.high.length = a.row.length := by rw [hq]; simp [toQ]
  have hro := ho.row
  have hx := drop_getD (row := a.row) (k := i) (by omega)
  have hg : q.row.getD i (El.dflt .node) = (a.row.getD i (El.dflt .made)).n := by rw [hq]; exact getD_map_n _ _
  have hgh : q.high.getD i (0 : Int) = (a.row.getD i (El.dflt .made)).h := by rw [hq]; exact getD_map_h _ _
  have hmem : a.row.getD i (El.dflt .made) ∈ a.row := by
   rw [List.getD_eq_getElem?_getD, List.getElem?_eq_getElem (by omega)]; exact List.getElem_mem _
  have hhx := ho.high _ hmem
  rw [qClose.l2_succ, if_pos (by simp only [decide_eq_true_eq]; omega), if_pos (by omega), if_pos (by omega), Int.toNat_natCast, hg, Node.eta]
  rw [if_pos (by simp only [List.length_singleton]; unfold maxRow; omega), if_pos (by omega), if_pos (by omega), hgh, wi _ (by omega) (by omega), wi _ (by omega) (by omega)]
  have ih := qClose_l2 hq ho lim m kind f t d (i + 1) n0 (max hi ((a.row.getD i (El.dflt .made)).h + 1)) (kids ++ [(a.row.getD i (El.dflt .made)).n]) (by omega) (by omega) (by simp; omega)
  rw [Int.natCast_add, Int.natCast_one] at ih
  rw [ih, hx]
  simp only [high, List.map_cons, List.append_assoc, List.singleton_append]
theorem W_qClose3 (h : RelQ q a) (hg : a.good) (hr : a.room = true) (m m' kind : Int) (hm : a.dead = false → m' = m) : ∃ q', W .ref qClose.n [.rdr 0, .int m', .int kind] q = some (.undef, q') ∧ RelQ q' (a.close m kind) ∧ (a.dead = false → q' = toQ (a.close m kind)) := by
 rw [room_iff] at hr
 cases hd : a.dg with
 | some d =>
  have hdd : a.dead = true := toP_dead d hd
  refine ⟨q, ?_, by rw [close_dead hdd]; exact h, fun hc => by rw [hdd] at hc; cases hc⟩
  refine fx qClose.fd 0 ?_
  rw [qClose_eq, if_pos (by rw [h.f]; exact hdd)]
 | none =>
  have hlv := live_of hd
  have hq := h.live hlv
  have hmm := hm hlv
  subst hmm
  have hrl : q.row.length = a.row.length := by rw [hq]; simp [toQ]
  have hhl : q.high.length = a.row.length := by rw [hq]; simp [toQ]
  have hcl := clamp_le (a := a) m'
  have hmin : max 0 (min m' ((q.row).length : Int)) = ((a.clamp m' : Nat) : Int) := by
   rw [hrl]; unfold A.clamp; omega
  obtain ⟨j, j1, j2, j3⟩ := qClose_l0 hq hg.took hlv (a.row.length + 2) kind (a.row.length - a.clamp m') (a.clamp m') (a.row.length + 2) (by omega) (by omega)
  have h2 := qClose_l2 hq hg.took (a.row.length + 2) j kind a.here a.here (a.row.length - j) j (a.row.length + 2) 1 [] (by omega) (by omega) (by simp)
  have hdj : a.row.drop j = (a.row.drop (a.clamp m')).dropWhile triv := by rw [j1]; exact row_cut'
  have htj : a.row.take j = a.row.take (a.clamp m') ++ (a.row.drop (a.clamp m')).takeWhile triv := by rw [j1]; exact row_cut hcl
  have hcd : (a.closed (a.clamp m') kind) = ⟨Node.mk kind (match (a.row.drop j).head? with | some x => Node.f x.n | none => a.here) (match (a.row.drop j).getLast? with | some x => Node.t x.n | none => a.here) ((a.row.drop j).map (·.n)), high (a.row.drop j) 1⟩ := by
   rw [hdj]; rfl
  have hlen := closeRow_len (a := a) (a.clamp m') (a.closed (a.clamp m') kind)
  have hlow := hg.low hlv
  have hc := closed_high (a.clamp m') kind hg.took hlow
  have hb : A.ok { a with row := a.row.take (a.clamp m') ++ ((a.row.drop (a.clamp m')).takeWhile triv ++ [a.closed (a.clamp m') kind]) } := by
   refine ⟨hg.pre, hg.len, hg.opn, fun x hx => ?_, by simp only; omega⟩
   rcases closeRow_mem hx with hx | rfl
   ·exact hg.high x hx
   ·omega
  have hrow : { q with row := q.row.take j ++ [(a.closed (a.clamp m') kind).n], high := q.high.take j ++ [(a.closed (a.clamp m') kind).h] } = toQ { a with row := a.row.take (a.clamp m') ++ ((a.row.drop (a.clamp m')).takeWhile triv ++ [a.closed (a.clamp m') kind]) } := by
   rw [hq]
   simp only [toQ, A.dead]
   rw [← List.map_take, ← List.map_take, htj]
   simp
  have hpush : ∀ f t, f = (match (a.row.drop j).head? with | some x => Node.f x.n | none => a.here) → t = (match (a.row.drop j).getLast? with | some x => Node.t x.n | none => a.here) →
    ∃ q', (cX W .u .ref qpush.n [.rdr 0, .agg [.int kind, .int f, .int t, .sl .node ((a.row.drop j).map (·.n))], .int (high (a.row.drop j) 1)] ({ q with row := (List.take j q.row), high := (List.take j q.high) }) fun _ (p15 : QS) =>
     if (decide (high (a.row.drop j) 1 > 100)) then
     cX W .u .ref qFail.n [.rdr 0, .int 202] p15 fun _ (p17 : QS) =>
     some (AV.undef, p17)
     else
     some (.undef, p15)) = some (.undef, q') ∧ RelQ q' (a.close m' kind) ∧ q' = toQ (a.close m' kind) := by
   intro f t hf ht
   have hpu := W_qpush { q with row := (List.take j q.row), high := (List.take j q.high) } (a.closed (a.clamp m') kind).n (a.closed (a.clamp m') kind).h (by simp; omega) (by simp; omega)
   simp only at hpu
   rw [hrow] at hpu
   have e1 : Node.k (a.closed (a.clamp m') kind).n = kind := rfl
   have e2 : Node.f (a.closed (a.clamp m') kind).n = f := by rw [hcd, hf]; rfl
   have e3 : Node.t (a.closed (a.clamp m') kind).n = t := by rw [hcd, ht]; rfl
   have e4 : Node.kids (a.closed (a.clamp m') kind).n = (a.row.drop j).map (·.n) := by rw [hcd]; rfl
   have e5 : (a.closed (a.clamp m') kind).h = high (a.row.drop j) 1 := by rw [hcd]
   rw [e1, e2, e3, e4, e5] at hpu
   rw [cX_u hpu]
   unfold A.close
   rw [hd]
   simp only
   rw [← e5]
   by_cases hx : 100 < (a.closed (a.clamp m') kind).h
   ·rw [if_pos (decide_eq_true hx), if_pos hx]
    obtain ⟨q', g1, g2, g3⟩ := W_qFail3 (RelQ.toQ _) hb 202
    replace g3 := g3 hlv
    rw [hd] at g1 g2 g3
    exact ⟨q', by rw [cX_u g1], g2, g3⟩
   ·rw [if_neg (by simp only [decide_eq_true_eq]; exact hx), if_neg hx]
    have := RelQ.toQ ({ a with row := a.row.take (a.clamp m') ++ ((a.row.drop (a.clamp m')).takeWhile triv ++ [a.closed (a.clamp m') kind]) } : A)
    rw [hd] at this
    exact ⟨_, rfl, this, rfl⟩
  have key : ∃ q', qCloseEnd j (high (a.row.drop j) 1) kind a.here a.here ([] ++ (a.row.drop j).map (·.n)) q = some (.undef, q') ∧ RelQ q' (a.close m' kind) ∧ q' = toQ (a.close m' kind) := by
   unfold qCloseEnd
   rw [List.nil_append]
   by_cases hz : a.row.drop j = []
   ·rw [hz]
    rw [if_neg (by simp), if_pos (by omega), if_pos (by omega), if_pos (by omega), if_pos (by omega), Int.toNat_natCast]
    have := hpush a.here a.here (by rw [hz]; rfl) (by rw [hz]; rfl)
    rw [hz] at this; exact this
   ·have hpos : 0 < (a.row.drop j).length := List.length_pos_iff.2 hz
    have hdl : (a.row.drop j).length ≤ a.row.length := by simp
    have hml : (((a.row.drop j).map (·.n)).length : Int) = ((a.row.drop j).length : Int) := by simp
    rw [hml, if_pos (by simp only [decide_eq_true_eq]; omega), if_pos (by omega), if_pos (by omega), wi _ (by omega) (by omega), if_pos (by omega), if_pos (by omega), if_pos (by omega), if_pos (by omega), if_pos (by omega), if_pos (by omega), Int.toNat_natCast]
    have e1 : (((a.row.drop j).length : Int) - 1).toNat = (a.row.drop j).length - 1 := by omega
    rw [e1, getD_map_n, Int.toNat_zero, getD_map_n]
    refine hpush _ _ ?_ ?_
    ·cases hr : a.row.drop j with
     | nil => exact absurd hr hz
     | cons x y => rfl
    ·rw [List.getLast?_eq_getElem?, List.getD_eq_getElem?_getD]
     rw [List.getElem?_eq_getElem (by omega)]; rfl
  obtain ⟨q', g1, g2, g3⟩ := key
  refine ⟨q', ?_, g2, fun _ => g3⟩
  refine fx qClose.fd (a.row.length + 2) ?_
  rw [qClose_eq, if_neg (by rw [h.f, hlv]; decide), hmin, j3, h2]
  exact g1
theorem W_qClose (h : RelQ q a) (hg : a.good) (hr : a.room = true) (m m' kind : Int) (hm : a.dead = false → m' = m) : ∃ q', W .ref qClose.n [.rdr 0, .int m', .int kind] q = some (.undef, q') ∧ RelQ q' (a.close m kind) := by
 obtain ⟨q', h1, h2, _⟩ := W_qClose3 h hg hr m m' kind hm
 exact ⟨q', h1, h2⟩
theorem qpart_l0 (l : List Node) (x : Node) (r : List Node) (hl : l = x :: r) (hx : 200 ≤ Node.k x) (lim n0 : Nat) (a2 a3 a4 a6 a7 a8 : Int) : qpart.l0 W lim (n0 + 1) 0 a2 a3 a4 l a6 a7 a8 () = some (.agg [.int (Node.k x), .int (Node.f x), .int (Node.t x), .sl .node (Node.kids x)], ()) := by
 subst hl
 rw [qpart.l0_succ, if_pos (by simp), if_pos (by omega), if_pos (by simp), Int.toNat_zero, List.getD_cons_zero, if_pos (decide_eq_true hx), if_pos (by omega), if_pos (by simp)]
theorem W_qpart (n : Node) (h : part0 n = true) : W .unit qpart.n [.agg [.int (Node.k n), .int (Node.f n), .int (Node.t n), .sl .node (Node.kids n)]] () = some (.agg [.int (Node.k ((Node.kids n).getD 0 (El.dflt .node))), .int (Node.f ((Node.kids n).getD 0 (El.dflt .node))), .int (Node.t ((Node.kids n).getD 0 (El.dflt .node))), .sl .node (Node.kids ((Node.kids n).getD 0 (El.dflt .node)))], ()) := by
 refine fx qpart.fd 1 ?_
 rw [qpart_eq]
 unfold part0 at h
 cases hk : Node.kids n with
 | nil => rw [hk] at h; cases h
 | cons x r =>
  rw [hk] at h
  exact qpart_l0 _ x r rfl (of_decide_eq_true h) 1 0 _ _ _ _ _ _
theorem W_qnamed (n : Node) (hn : Node.k n = 207 → part0 n = true) : W .unit qnamed.n [.agg [.int (Node.k n), .int (Node.f n), .int (Node.t n), .sl .node (Node.kids n)]] () = some (.bool (namedF n), ()) := by
 refine fx qnamed.fd 0 ?_
 rw [qnamed_eq]
 unfold namedF
 by_cases h1 : Node.k n = 201
 ·rw [if_pos (decide_eq_true h1), decide_eq_true h1]; rfl
 rw [if_neg (by simp only [decide_eq_true_eq]; exact h1), decide_eq_false h1]
 by_cases h2 : Node.k n = 207
 ·rw [if_pos (decide_eq_true h2), cX_node (W_qpart n (hn h2)), decide_eq_true h2]; rfl
 ·rw [if_neg (by simp only [decide_eq_true_eq]; exact h2), decide_eq_false h2]; rfl
theorem W_qliteral (x : Node) (head : Bool) (hx : Rd.litOK x = true) : W .unit qliteral.n [.agg [.int (Node.k x), .int (Node.f x), .int (Node.t x), .sl .node (Node.kids x)], .bool head] () = some (.bool (literalF x head), ()) := by
 refine fx qliteral.fd 0 ?_
 rw [qliteral_eq]
 unfold Rd.litOK at hx
 simp only [Bool.and_eq_true, Bool.or_eq_true, decide_eq_true_eq] at hx
 obtain ⟨l1, l2⟩ := hx
 have hx1 : Node.k x = 207 → part0 x = true := fun hk => l1.resolve_left (fun hc => hc hk)
 have hn := W_qnamed x hx1
 unfold literalF
 by_cases k1 : Node.k x = 220
 ·simp [k1]
 by_cases k2 : Node.k x = 221
 ·simp [k2]
 by_cases k3 : Node.k x = 222
 ·simp [k3]
 by_cases k4 : Node.k x = 224
 ·simp [k4]
 cases head with
 | true => simp [k1, k2, k3, k4]
 | false =>
  simp only [k1, k2, k3, k4, decide_false, Bool.not_false, Bool.false_eq_true, if_true, if_false, or_self]
  rw [cX_b hn]
  by_cases k5 : Node.k x = 208
  ·obtain ⟨p1, p2⟩ := l2.resolve_left (fun hc => hc k5)
   have hnn : namedF x = false := by unfold namedF; simp [k5]
   have hk0 : Node.k ((Node.kids x).getD 0 (El.dflt .node)) = 207 → part0 ((Node.kids x).getD 0 (El.dflt .node)) = true := fun hk => p2.resolve_left (fun hc => hc hk)
   rw [if_neg (by rw [hnn]; decide), if_pos (decide_eq_true k5), cX_node (W_qpart x p1), cX_b (W_qnamed _ hk0), if_pos k5]
   simp; rfl
  ·rw [if_neg (c := decide (Node.k x = 208) = true) (by simp only [decide_eq_true_eq]; exact k5), if_neg k5]
   cases namedF x <;> simp
theorem qlast_l0 (hq : q = toQ a) (ho : a.ok) (lim : Nat) : ∀ (d k n0 : Nat), k + d = a.row.length → d < n0 →
  qlast.l0 W lim n0 k 0 0 0 q = some (match a.first k with | some x => .agg [.int (Node.k x.n), .int (Node.f x.n), .int (Node.t x.n), .sl .node (Node.kids x.n)] | none => .agg [.int 0, .int 0, .int 0, .nil], q)
 | _, k, 0, hi, hn => by omega
 | 0, k, n0 + 1, hi, hn => by
  have hrl : q.row.length = a.row.length := by rw [hq]; simp [toQ]
  rw [qlast.l0_succ, if_neg (by simp only [decide_eq_true_eq]; omega), first_end k (by omega)]
 | d + 1, k, n0 + 1, hi, hn => by
  have hrl : q.row.length = a.row.length := by rw [hq]; simp [toQ]
  have hro := ho.row
  have hg : q.row.getD k (El.dflt .node) = (a.row.getD k (El.dflt .made)).n := by rw [hq]; exact getD_map_n _ _
  have hf := first_at (a := a) k (by omega)
  rw [qlast.l0_succ, if_pos (by simp only [decide_eq_true_eq]; omega), if_pos (by omega), if_pos (by omega), Int.toNat_natCast, hg, hf]
  by_cases ht : triv (a.row.getD k (El.dflt .made)) = true
  ·have : Node.k (a.row.getD k (El.dflt .made)).n < 10 := of_decide_eq_true ht
   rw [if_neg (by simp only [decide_eq_true_eq]; omega), wi _ (by omega) (by omega), if_pos ht]
   have ih := qlast_l0 hq ho lim d (k + 1) n0 (by omega) (by omega)
   rw [Int.natCast_add, Int.natCast_one] at ih
   exact ih
  ·have : ¬ Node.k (a.row.getD k (El.dflt .made)).n < 10 := fun hc => ht (decide_eq_true hc)
   rw [if_pos (by simp only [decide_eq_true_eq]; omega), if_pos (by omega), if_pos (by omega), if_neg ht]
theorem W_qlast (h : RelQ q a) (ho : a.ok) (hlv : a.dead = false) (m : Int) (hm : 0 ≤ m) : W .ref qlast.n [.rdr 0, .int m] q = some (match a.first m with | some x => .agg [.int (Node.k x.n), .int (Node.f x.n), .int (Node.t x.n), .sl .node (Node.kids x.n)] | none => .agg [.int 0, .int 0, .int 0, .nil], q) := by
 have hq := h.live hlv
 have hrl : q.row.length = a.row.length := by rw [hq]; simp [toQ]
 obtain ⟨k, rfl⟩ : ∃ k : Nat, m = k := ⟨m.toNat, by omega⟩
 refine fx qlast.fd (a.row.length + 1) ?_
 rw [qlast_eq]
 by_cases hk : k ≤ a.row.length
 ·exact qlast_l0 hq ho _ (a.row.length - k) k _ (by omega) (by omega)
 ·rw [qlast.l0_succ, if_neg (by simp only [decide_eq_true_eq]; omega), first_end k (by omega)]
theorem W_qPrec (k : Int) : W .unit qPrec.n [.int k] () = some (.int (precF k), ()) := by
 refine fx qPrec.fd 0 ?_
 rw [qPrec_eq]
 by_cases h1 : k = 22
 ·subst h1; rfl
 by_cases h2 : k = 23
 ·subst h2; rfl
 by_cases h3 : k = 24
 ·subst h3; rfl
 by_cases h4 : k = 28
 ·subst h4; rfl
 by_cases h5 : k = 29
 ·subst h5; rfl
 by_cases h6 : k = 25
 ·subst h6; rfl
 by_cases h7 : k = 30
 ·subst h7; rfl
 by_cases h8 : k = 20
 ·subst h8; rfl
 by_cases h9 : k = 21
 ·subst h9; rfl
 by_cases h10 : k = 26
 ·subst h10; rfl
 by_cases h11 : k = 27
 ·subst h11; rfl
 by_cases h12 : k = 46
 ·subst h12; rfl
 by_cases h13 : k = 52
 ·subst h13; rfl
 by_cases h14 : k = 47
 ·subst h14; rfl
 by_cases h15 : k = 53
 ·subst h15; rfl
 by_cases h16 : k = 48
 ·subst h16; rfl
 by_cases h17 : k = 54
 ·subst h17; rfl
 by_cases h18 : k = 42
 ·subst h18; rfl
 by_cases h19 : k = 43
 ·subst h19; rfl
 simp [*, precF, qPrec.j0, qPrec.j1]
theorem qbehind_l0 (h : RelQ q a) (ho : a.ok) (lim : Nat) : ∀ (d n n0 : Nat) (o : Int), n + d = a.kinds.length → d < n0 → -(n : Int) ≤ o → o ≤ n →
  qbehind.l0 W lim n0 o n q = some (.int ((behindF (a.kinds.drop n) o).getD 0), q)
 | _, n, 0, o, hi, hn, _, _ => by omega
 | 0, n, n0 + 1, o, hi, hn, _, _ => by
  have hkl := kinds_len ho
  rw [qbehind.l0_succ, cX_i (W_qAhead' h ho n (by omega)), if_neg]
  ·rw [List.drop_of_length_le (by omega)]; rfl
  ·rw [List.getD_eq_getElem?_getD, List.getElem?_eq_none (by omega)]; simp
 | d + 1, n, n0 + 1, o, hi, hn, ho1, ho2 => by
  have hkl := kinds_len ho
  have hx : a.kinds.drop n = a.kinds.getD n 0 :: a.kinds.drop (n + 1) := by
   rw [List.drop_eq_getElem_cons (by omega), List.getD_eq_getElem?_getD, List.getElem?_eq_getElem (by omega)]; rfl
  have hpos : 10 ≤ a.kinds.getD n 0 := by
   rw [List.getD_eq_getElem?_getD, List.getElem?_eq_getElem (by omega)]
   exact kinds_pos (List.getElem_mem _)
  have ih := fun o' h1 h2 => qbehind_l0 h ho lim d (n + 1) n0 o' (by omega) (by omega) h1 h2
  simp only [Int.natCast_add, Int.natCast_one] at ih
  rw [hx, qbehind.l0_succ, cX_i (W_qAhead' h ho n (by omega)), if_pos (decide_eq_true (by omega)), cX_i (W_qAhead' h ho n (by omega))]
  unfold behindF
  by_cases h1 : a.kinds.getD n 0 = 58
  ·rw [if_pos (decide_eq_true h1), if_pos h1, wi _ (by omega) (by omega), wi _ (by omega) (by omega)]
   exact ih _ (by omega) (by omega)
  ·rw [if_neg (by simp only [decide_eq_true_eq]; exact h1), if_neg h1]
   by_cases h2 : a.kinds.getD n 0 = 63
   ·rw [if_pos (decide_eq_true h2), if_pos h2, wi (o - 1) (by omega) (by omega)]
    by_cases h3 : o - 1 = 0
    ·rw [if_pos (decide_eq_true h3), if_pos h3, wi _ (by omega) (by omega)]
     have e : (n : Int) + 1 = ((n + 1 : Nat) : Int) := by omega
     rw [e, cX_i (W_qAhead' h ho (n + 1) (by omega))]
     simp only [Option.getD_some]
     rw [List.getD_eq_getElem?_getD, List.getD_eq_getElem?_getD, List.getElem?_drop, Nat.add_zero]
    ·rw [if_neg (by simp only [decide_eq_true_eq]; exact h3), if_neg h3, wi _ (by omega) (by omega)]
     exact ih _ (by omega) (by omega)
   ·rw [if_neg (by simp only [decide_eq_true_eq]; exact h2), if_neg h2, wi _ (by omega) (by omega)]
    exact ih _ (by omega) (by omega)
theorem W_qisNamed (h : RelQ q a) (ho : a.ok) : W .ref qisNamed.n [.rdr 0] q = some (.bool (hasNameF a.kinds), q) := by
 refine fx qisNamed.fd 0 ?_
 have hkl := kinds_len ho
 rw [qisNamed_eq, cX_b (W_qcomes h ho [10] (by decide))]
 have hcm : comesF [10] a.kinds = decide (a.kinds.getD 0 0 = 10) := by
  unfold comesF
  by_cases hx : a.kinds.getD 0 0 = 10
  ·rw [hx]; rfl
  ·rw [decide_eq_false hx]; simp only [List.contains_cons, List.contains_nil, Bool.or_false]
   have : (a.kinds.getD 0 0 == 10) = false := by simp only [beq_eq_false_iff_ne]; exact hx
   rw [this]; simp
 rw [hcm]
 unfold hasNameF
 by_cases h0 : a.kinds.getD 0 0 = 10
 rotate_left
 ·rw [if_pos (by rw [decide_eq_false h0]; rfl), if_pos h0]
 rw [if_neg (by rw [decide_eq_true h0]; decide), if_neg (c := a.kinds.getD 0 0 ≠ 10) (fun hc => hc h0)]
 have hA1 := W_qAhead' h ho 1 (by decide)
 have hA1' : W .ref qAhead.n [.rdr 0, .int 1] q = _ := hA1
 rw [cX_i hA1']
 unfold qisNamed.j0
 simp only [cX_i hA1', cX_i (show W .ref qAhead.n [.rdr 0, .int 2] q = _ from W_qAhead' h ho 2 (by decide))]
 by_cases h1 : a.kinds.getD 1 0 = 0
 ·simp only [h1]; rfl
 by_cases h2 : a.kinds.getD 1 0 = 60
 ·simp only [h2]; rfl
 by_cases h3 : a.kinds.getD 1 0 = 62
 ·simp only [h3]; rfl
 by_cases h4 : a.kinds.getD 1 0 = 61
 ·simp only [h4]; rfl
 by_cases h5 : a.kinds.getD 1 0 = 58
 rotate_left
 ·simp only [h1, h2, h3, h4, h5, decide_false, Bool.false_eq_true, if_false, or_self]
 have hl : 1 < a.kinds.length := by
  refine Nat.lt_of_not_le fun hc => ?_
  rw [List.getD_eq_getElem?_getD, List.getElem?_eq_none (by omega)] at h5; simp at h5
 have hb : W .ref qbehind.n [.rdr 0] q = some (.int ((behindF (a.kinds.drop 1) 0).getD 0), q) := by
  refine fx qbehind.fd (a.kinds.length + 1) ?_
  rw [qbehind_eq]
  exact qbehind_l0 h ho _ (a.kinds.length - 1) 1 _ 0 (by omega) (by omega) (by omega) (by omega)
 simp only [h5, cX_i hb, cX_i (show W .ref qAhead.n [.rdr 0, .int 2] q = _ from W_qAhead' h ho 2 (by decide))]
 generalize a.kinds.getD 2 0 = z
 by_cases h6 : z = 63
 ·simp [h6]
 cases hbf : behindF (a.kinds.drop 1) 0 with
 | none => simp [h6]
 | some x =>
  by_cases h7 : x = 0
  ·simp [h6, h7]
  ·by_cases h8 : x = 60
   ·simp [h6, h8]
   ·simp [h6, h7, h8]
end
end Go.AI.Rd
namespace Go.AI.Rd
def Cs (h : Int) (l : List Made) : List Made := l.takeWhile triv ++ [nodeOf 233 h (l.dropWhile triv)]
def seg (R : List Made) (f t : Int) : List Made := (R.take t.toNat).drop f.toNat
def hiOf (h : Int) (l : List Made) : Bool := decide (100 < (nodeOf 233 h (l.dropWhile triv)).h)
def frontR (R : List Made) (h : Int) (any : Bool) : List Ent → Int → Int → List Made
 | [], f, t => R.take f.toNat ++ Cs h (seg R f t)
 | x :: r, f, t => if any && !x.named then frontR R h any r x.from_ t else frontR R h any r x.from_ x.to_ ++ (seg R x.to_ f ++ Cs h (seg R f t))
def hiR (R : List Made) (h : Int) (any : Bool) : List Ent → Int → Int → Bool
 | [], f, t => hiOf h (seg R f t)
 | x :: r, f, t => if any && !x.named then hiR R h any r x.from_ t else hiR R h any r x.from_ x.to_ || hiOf h (seg R f t)
theorem group1_dead {b : A} (hd : b.dead = true) (g : Int × Int) : A.group1 g b = b := by
 unfold A.group1
 rw [close_dead (show A.dead { b with row := b.row.take g.2.toNat } = true from hd)]
 simp
theorem foldl_dead {b : A} (hd : b.dead = true) : ∀ l : List (Int × Int), l.foldl (fun b g => A.group1 g b) b = b
 | [] => rfl
 | g :: l => by rw [List.foldl_cons, group1_dead hd]; exact foldl_dead hd l
theorem group1_live {b : A} (hb : b.dg = none) {f t : Nat} (hft : f ≤ t) (ht : t ≤ b.row.length) :
  A.group1 ((f : Int), (t : Int)) b = if hiOf b.here (seg b.row f t) = true then
   { b with row := b.row.take f ++ (Cs b.here (seg b.row f t) ++ b.row.drop t), dg := (b.fail 202).dg }
   else { b with row := b.row.take f ++ (Cs b.here (seg b.row f t) ++ b.row.drop t) } := by
 obtain ⟨pre, rest, row, opn, dg⟩ := b
 simp only at hb ht
 subst hb
 have hcl : A.clamp ⟨pre, rest, row.take t, opn, none⟩ (f : Int) = f := by unfold A.clamp; simp; omega
 have hx : A.closed ⟨pre, rest, row.take t, opn, none⟩ f 233 = nodeOf 233 (A.here ⟨pre, rest, row, opn, none⟩) ((seg row f t).dropWhile triv) := by
  unfold A.closed seg; simp only [Int.toNat_natCast]; rfl
 have e1 : (row.take t).take f = row.take f := by rw [List.take_take]; congr 1; omega
 have hc0 : A.close (f : Int) 233 ⟨pre, rest, row.take t, opn, none⟩ = if 100 < (nodeOf 233 (A.here ⟨pre, rest, row, opn, none⟩) ((seg row f t).dropWhile triv)).h then A.fail 202 ⟨pre, rest, row.take f ++ Cs (A.here ⟨pre, rest, row, opn, none⟩) (seg row f t), opn, none⟩ else ⟨pre, rest, row.take f ++ Cs (A.here ⟨pre, rest, row, opn, none⟩) (seg row f t), opn, none⟩ := by
  unfold A.close
  simp only [hcl, hx, e1]
  unfold Cs seg
  simp only [Int.toNat_natCast]
 unfold A.group1
 simp only [Int.toNat_natCast, hc0]
 by_cases hc : 100 < (nodeOf 233 (A.here ⟨pre, rest, row, opn, none⟩) ((seg row f t).dropWhile triv)).h
 ·rw [if_pos hc, if_pos (show hiOf _ (seg row f t) = true from decide_eq_true hc)]
  unfold A.fail
  simp [A.here]
 ·rw [if_neg hc, if_neg (show ¬ hiOf _ (seg row f t) = true from by unfold hiOf; simpa using hc)]
  simp
section
variable {a : A}
theorem fail_here (b : A) : (b.fail 202).dg = (match b.dg with | some d => some d | none => some (match (sigs b.rest).head? with | some t => ⟨202, t.f, t.t⟩ | none => ⟨202, b.here, b.here⟩)) := by
 unfold A.fail
 cases hb : b.dg with
 | some d => exact hb
 | none => rfl
theorem Cs_len (h : Int) {l : List Made} (hl : l.any (fun x => !triv x) = true) : (Cs h l).length ≤ l.length := by
 unfold Cs
 have := dropWhile_pos hl
 have h2 : (l.takeWhile triv).length + (l.dropWhile triv).length = l.length := by rw [← List.length_append, List.takeWhile_append_dropWhile]
 simp; omega
theorem fold_front (l : List Ent) (any : Bool) (R : List Made) (hE : EntsAt R l) (a : A) : ∀ (k i : Nat) (b : A), k ≤ i → i < l.length → b.dg = none → b.pre = a.pre → b.rest = a.rest → b.opn = a.opn →
  b.row.take (l.getD i (El.dflt .ent)).to_.toNat = R.take (l.getD i (El.dflt .ent)).to_.toNat → (l.getD i (El.dflt .ent)).to_ ≤ (b.row.length : Int) → (l.getD k (El.dflt .ent)).from_ ≤ (l.getD i (El.dflt .ent)).to_ → 
  (backG any (l.getD i (El.dflt .ent)).to_ (l.getD k (El.dflt .ent)).from_ (l.take k).reverse).foldl (fun b g => A.group1 g b) b =
   if hiR R a.here any (l.take k).reverse (l.getD k (El.dflt .ent)).from_ (l.getD i (El.dflt .ent)).to_ = true
   then { (backG any (l.getD i (El.dflt .ent)).to_ (l.getD k (El.dflt .ent)).from_ (l.take k).reverse).foldl (fun b g => A.group1 g b) b with pre := a.pre, rest := a.rest, opn := a.opn, dg := ({ a with dg := none } : A).fail 202 |>.dg }
   else { a with row := frontR R a.here any (l.take k).reverse (l.getD k (El.dflt .ent)).from_ (l.getD i (El.dflt .ent)).to_ ++ b.row.drop (l.getD i (El.dflt .ent)).to_.toNat, dg := none } := by
 intro k
 induction k using Nat.strongRecOn with
 | _ k ih =>
 intro i b hki hi hbd hbp hbr hbo htk hto hfr
 have hsk := hE.seg k (by omega)
 have hsi := hE.seg i hi
 obtain ⟨f, hf⟩ : ∃ f : Nat, (l.getD k (El.dflt .ent)).from_ = f := ⟨(l.getD k (El.dflt .ent)).from_.toNat, by omega⟩
 obtain ⟨t, ht⟩ : ∃ t : Nat, (l.getD i (El.dflt .ent)).to_ = t := ⟨(l.getD i (El.dflt .ent)).to_.toNat, by omega⟩
 rw [hf, ht] at hfr
 rw [ht] at hto htk
 rw [Int.toNat_natCast] at htk
 have hfr' : f ≤ t := by omega
 have hto' : t ≤ b.row.length := by omega
 have hh : b.here = a.here := by unfold A.here; rw [hbp, hbr]
 have hseg : seg b.row f t = seg R f t := by unfold seg; rw [Int.toNat_natCast, Int.toNat_natCast, htk]
 have hg := group1_live hbd hfr' hto'
 rw [hh, hseg] at hg
 have hdg : (b.fail 202).dg = (({ a with dg := none } : A).fail 202).dg := by
  rw [fail_here, fail_here, hbd, hbr, hh]; rfl
 have htf : b.row.take f = R.take f := by
  have e2 : ∀ r : List Made, (r.take t).take f = r.take f := fun r => by rw [List.take_take]; congr 1; omega
  rw [← e2, htk, e2]
 -- one group, and what follows
 have hone : ∀ rest : List (Int × Int), hiOf a.here (seg R f t) = true → (((f : Int), (t : Int)) :: rest).foldl (fun b g => A.group1 g b) b = { (((f : Int), (t : Int)) :: rest).foldl (fun b g => A.group1 g b) b with pre := a.pre, rest := a.rest, opn := a.opn, dg := ({ a with dg := none } : A).fail 202 |>.dg } := by
  intro rest hc
  rw [List.foldl_cons, hg, if_pos hc, hdg]
  have hdd : A.dead { b with row := b.row.take f ++ (Cs a.here (seg R f t) ++ b.row.drop t), dg := (({ a with dg := none } : A).fail 202).dg } = true := by
   unfold A.dead; simp only; rw [fail_here]; rfl
  rw [foldl_dead hdd]
  simp only [hbp, hbr, hbo]
 have hlive : hiOf a.here (seg R f t) = false → A.group1 ((f : Int), (t : Int)) b = { a with row := R.take f ++ (Cs a.here (seg R f t) ++ b.row.drop t), dg := none } := by
  intro hc
  rw [hg, if_neg (by rw [hc]; decide), htf]
  cases b; cases a
  simp only at hbp hbr hbo hbd
  simp only [hbp, hbr, hbo, hbd]
 rw [hf, ht]
 cases k with
 | zero =>
  simp only [List.take_zero, List.reverse_nil, backG, hiR, frontR]
  cases hc : hiOf a.here (seg R f t) with
  | true => rw [if_pos rfl]; exact hone [] hc
  | false =>
   rw [if_neg (by decide), List.foldl_cons, List.foldl_nil, hlive hc]
   simp
 | succ j =>
  have hsj := hE.seg j (by omega)
  have hnx := hE.nxt j (by omega)
  have hrev : (l.take (j + 1)).reverse = l.getD j (El.dflt .ent) :: (l.take j).reverse := by
   rw [List.take_add_one, List.getElem?_eq_getElem (by omega)]
   simp [List.getD_eq_getElem?_getD, List.getElem?_eq_getElem (show j < l.length by omega)]
  rw [hrev, backG_cons]
  by_cases hab : (any && !(l.getD j (El.dflt .ent)).named) = true
  ·have e1 : hiR R a.here any (l.getD j (El.dflt .ent) :: (l.take j).reverse) f t = hiR R a.here any (l.take j).reverse (l.getD j (El.dflt .ent)).from_ t := by simp only [hiR, if_pos hab]
   have e2 : frontR R a.here any (l.getD j (El.dflt .ent) :: (l.take j).reverse) f t = frontR R a.here any (l.take j).reverse (l.getD j (El.dflt .ent)).from_ t := by simp only [frontR, if_pos hab]
   simp only [e1, e2, if_pos hab]
   rw [← ht]
   exact ih j (by omega) i b (by omega) hi hbd hbp hbr hbo (by rw [ht, Int.toNat_natCast]; exact htk) (by rw [ht]; exact hto) (by omega)
  ·have e1 : hiR R a.here any (l.getD j (El.dflt .ent) :: (l.take j).reverse) f t = (hiR R a.here any (l.take j).reverse (l.getD j (El.dflt .ent)).from_ (l.getD j (El.dflt .ent)).to_ || hiOf a.here (seg R f t)) := by simp only [hiR, if_neg hab]
   have e2 : frontR R a.here any (l.getD j (El.dflt .ent) :: (l.take j).reverse) f t = frontR R a.here any (l.take j).reverse (l.getD j (El.dflt .ent)).from_ (l.getD j (El.dflt .ent)).to_ ++ (seg R (l.getD j (El.dflt .ent)).to_ f ++ Cs a.here (seg R f t)) := by simp only [frontR, if_neg hab]
   simp only [e1, e2, if_neg hab]
   have hjt : (l.getD j (El.dflt .ent)).to_ ≤ (f : Int) := by rw [← hf]; exact hnx
   cases hc : hiOf a.here (seg R f t) with
   | true =>
    simp only [Bool.or_true, if_true]; exact hone _ hc
   | false =>
    simp only [Bool.or_false]
    rw [List.foldl_cons, hlive hc]
    have hrl : f ≤ R.length := by omega
    have htl : (R.take f).length = f := by simp only [List.length_take]; omega
    have := ih j (by omega) j { a with row := R.take f ++ (Cs a.here (seg R f t) ++ b.row.drop t), dg := none } (Nat.le_refl _) (by omega) rfl rfl rfl rfl (by
     show (R.take f ++ (Cs a.here (seg R f t) ++ b.row.drop t)).take _ = _
     rw [List.take_append_of_le_length (by omega), List.take_take]; congr 1; omega) (by
     show _ ≤ ((R.take f ++ (Cs a.here (seg R f t) ++ b.row.drop t)).length : Int)
     rw [List.length_append]; omega) hsj.2.1
    rw [this]
    have e : (R.take f ++ (Cs a.here (seg R f t) ++ b.row.drop t)).drop (l.getD j (El.dflt .ent)).to_.toNat = seg R (l.getD j (El.dflt .ent)).to_ f ++ (Cs a.here (seg R f t) ++ b.row.drop t) := by
     rw [List.drop_append_of_le_length (by omega)]
     unfold seg; rw [Int.toNat_natCast]
    simp only [e, List.append_assoc, Int.toNat_natCast]
    cases hiR R a.here any (l.take j).reverse (l.getD j (El.dflt .ent)).from_ (l.getD j (El.dflt .ent)).to_ with
    | true => simp only [if_true]
    | false => simp only [Bool.false_eq_true, if_false]
end
def pushQ (q : QS) (l : List Made) : QS := { q with row := q.row ++ l.map (·.n), high := q.high ++ l.map (·.h) }
theorem pushQ_nil (q : QS) : pushQ q [] = q := by cases q; simp [pushQ]
theorem pushQ_app (q : QS) (l m : List Made) : pushQ (pushQ q l) m = pushQ q (l ++ m) := by simp [pushQ]
theorem pushQ_toQ (b : A) (l : List Made) : pushQ (toQ b) l = toQ { b with row := b.row ++ l } := by simp [pushQ, toQ, A.dead]
theorem seg_cons {R : List Made} {i e : Nat} (h : i < e) (he : e ≤ R.length) : seg R i e = R.getD i (El.dflt .made) :: seg R ((i : Int) + 1) e := by
 unfold seg
 have e1 : ((i : Int) + 1).toNat = i + 1 := by omega
 rw [e1, Int.toNat_natCast, Int.toNat_natCast, List.drop_eq_getElem_cons (by simp; omega), List.getElem_take, List.getD_eq_getElem?_getD, List.getElem?_eq_getElem (by omega)]; rfl
theorem seg_nil {R : List Made} {i e : Nat} (h : e ≤ i) : seg R i e = [] := by
 unfold seg; rw [Int.toNat_natCast, Int.toNat_natCast]; exact List.drop_of_length_le (by simp; omega)
theorem seg_len {R : List Made} {i e : Nat} (he : e ≤ R.length) : (seg R i e).length = e - i := by
 unfold seg; rw [Int.toNat_natCast, Int.toNat_natCast]; simp; omega
section
variable {q : QS} {R : List Made} {l : List Ent} {any : Bool}
theorem W_qpushM (q : QS) (x : Made) (h1 : q.row.length < 4294967290) (h2 : q.high.length < 4294967290) : W .ref qpush.n [.rdr 0, .agg [.int (Node.k x.n), .int (Node.f x.n), .int (Node.t x.n), .sl .node (Node.kids x.n)], .int x.h] q = some (.undef, pushQ q [x]) := W_qpush q x.n x.h h1 h2
theorem qg_l6 (lim n2 : Nat) (hR : R.length < 4294967280) (e idx : Nat) (he : e ≤ R.length) (hidx : idx < 4294967280) : ∀ (d i n6 : Nat) (q : QS), i + d = e → d < n6 → q.row.length + d < 4294967290 → q.high.length + d < 4294967290 →
  qgroup.l6 W lim n2 n6 (l.map (·.from_)) (l.map (·.to_)) (l.map (·.named)) any (R.map (·.n)) (R.map (·.h)) i idx e q =
  qgroup.l2 W lim n2 (l.map (·.from_)) (l.map (·.to_)) (l.map (·.named)) any (R.map (·.n)) (R.map (·.h)) (pushQ q (seg R i e)).row.length e ((idx + 1 : Nat) : Int) (pushQ q (seg R i e))
 | _, i, 0, q, h1, h2, _, _ => by omega
 | 0, i, n6 + 1, q, h1, h2, _, _ => by
  have : i = e := by omega
  subst this
  rw [qgroup.l6_succ, if_neg (by simp), cX_i (W_qMark q), wi _ (by omega) (by omega), seg_nil (Nat.le_refl _), pushQ_nil]; rfl
 | d + 1, i, n6 + 1, q, h1, h2, h3, h4 => by
  rw [qgroup.l6_succ, if_pos (by simp; omega), if_pos (by omega), if_pos (by simp; omega), if_pos (by omega), if_pos (by simp; omega), Int.toNat_natCast, getD_map_n, getD_map_h]
  rw [cX_u (W_qpushM q _ (by omega) (by omega)), wi _ (by omega) (by omega)]
  have ih := qg_l6 lim n2 hR e idx he hidx d (i + 1) n6 (pushQ q [R.getD i (El.dflt .made)]) (by omega) (by omega) (by simp [pushQ]; omega) (by simp [pushQ]; omega)
  rw [Int.natCast_add i 1, Int.natCast_one] at ih
  rw [ih, pushQ_app, seg_cons (by omega) he]; rfl
noncomputable def qgEnd (lim n2 : Nat) (l21 : List Int) (l22 : List Int) (l23 : List Bool) (a24 : Bool) (l25 : List Node) (l26 : List Int) (a27 : Int) (a28 : Int) (a29 : Int) (p : QS) : Option (AV × QS) :=
 if (!a24) then
 cX W .u .ref qClose.n [.rdr 0, .int a27, .int 233] p fun _ (p33 : QS) =>
 if (decide ((IntKind.i64.wrap (a29 + 1)) < ((l21).length : Int))) then
 if 0 ≤ (IntKind.i64.wrap (a29 + 1)) then
 if (IntKind.i64.wrap (a29 + 1)) < ((l21).length : Int) then
 qgroup.j0 W lim n2 l21 l22 l23 a24 l25 l26 a28 a29 (List.getD l21 (Int.toNat (IntKind.i64.wrap (a29 + 1))) (0 : Int)) p33
 else none
 else none
 else
 qgroup.j0 W lim n2 l21 l22 l23 a24 l25 l26 a28 a29 ((l25).length : Int) p33
 else
 if 0 ≤ a29 then
 if a29 < ((l23).length : Int) then
 if (List.getD l23 (Int.toNat a29) false) then
 cX W .u .ref qClose.n [.rdr 0, .int a27, .int 233] p fun _ (p57 : QS) =>
 if (decide ((IntKind.i64.wrap (a29 + 1)) < ((l21).length : Int))) then
 if 0 ≤ (IntKind.i64.wrap (a29 + 1)) then
 if (IntKind.i64.wrap (a29 + 1)) < ((l21).length : Int) then
 qgroup.j0 W lim n2 l21 l22 l23 a24 l25 l26 a28 a29 (List.getD l21 (Int.toNat (IntKind.i64.wrap (a29 + 1))) (0 : Int)) p57
 else none
 else none
 else
 qgroup.j0 W lim n2 l21 l22 l23 a24 l25 l26 a28 a29 ((l25).length : Int) p57
 else
 qgroup.l2 W lim n2 l21 l22 l23 a24 l25 l26 a27 a28 (IntKind.i64.wrap (a29 + 1)) p
 else none
 else none
theorem getD_from (l : List Ent) (i : Nat) : (l.map (·.from_)).getD i 0 = (l.getD i (El.dflt .ent)).from_ := by
 rw [List.getD_eq_getElem?_getD, List.getD_eq_getElem?_getD, List.getElem?_map]; cases l[i]? <;> rfl
theorem getD_to (l : List Ent) (i : Nat) : (l.map (·.to_)).getD i 0 = (l.getD i (El.dflt .ent)).to_ := by
 rw [List.getD_eq_getElem?_getD, List.getD_eq_getElem?_getD, List.getElem?_map]; cases l[i]? <;> rfl
theorem getD_named (l : List Ent) (i : Nat) : (l.map (·.named)).getD i false = (l.getD i (El.dflt .ent)).named := by
 rw [List.getD_eq_getElem?_getD, List.getD_eq_getElem?_getD, List.getElem?_map]; cases l[i]? <;> rfl
theorem qg_l4 (lim n2 : Nat) (hR : R.length < 4294967280) (m : Int) (e idx : Nat) (he : e ≤ R.length) (hidx : idx < l.length) (het : (l.getD idx (El.dflt .ent)).to_ = e) : ∀ (d i n4 : Nat) (q : QS), i + d = e → d < n4 → q.row.length + d < 4294967290 → q.high.length + d < 4294967290 →
  qgroup.l4 W lim n2 n4 (l.map (·.from_)) (l.map (·.to_)) (l.map (·.named)) any (R.map (·.n)) (R.map (·.h)) m i idx q =
  qgEnd lim n2 (l.map (·.from_)) (l.map (·.to_)) (l.map (·.named)) any (R.map (·.n)) (R.map (·.h)) m e idx (pushQ q (seg R i e))
 | _, i, 0, q, h1, h2, _, _ => by omega
 | 0, i, n4 + 1, q, h1, h2, _, _ => by
  have : i = e := by omega
  subst this
  rw [qgroup.l4_succ, if_pos (by omega), if_pos (by simp; omega), Int.toNat_natCast, getD_to, het, if_neg (by simp), seg_nil (Nat.le_refl _), pushQ_nil]
  unfold qgEnd; rw [Int.toNat_natCast]
 | d + 1, i, n4 + 1, q, h1, h2, h3, h4 => by
  rw [qgroup.l4_succ, if_pos (by omega), if_pos (by simp; omega), Int.toNat_natCast, getD_to, het, if_pos (by simp; omega), if_pos (by omega), if_pos (by simp; omega), if_pos (by omega), if_pos (by simp; omega), Int.toNat_natCast, getD_map_n, getD_map_h]
  rw [cX_u (W_qpushM q _ (by omega) (by omega)), wi _ (by omega) (by omega)]
  have ih := qg_l4 lim n2 hR m e idx he hidx het d (i + 1) n4 (pushQ q [R.getD i (El.dflt .made)]) (by omega) (by omega) (by simp [pushQ]; omega) (by simp [pushQ]; omega)
  rw [Int.natCast_add i 1, Int.natCast_one] at ih
  rw [ih, pushQ_app, seg_cons (by omega) he]; rfl
theorem qg_l0 (lim : Nat) (hR : R.length < 4294967280) (e : Nat) (he : e ≤ R.length) (hl : 0 < l.length) (hef : (l.getD 0 (El.dflt .ent)).from_ = e) : ∀ (d i n0 : Nat) (q : QS), i + d = e → d < n0 → q.row.length + d < 4294967290 → q.high.length + d < 4294967290 →
  qgroup.l0 W lim n0 (l.map (·.from_)) (l.map (·.to_)) (l.map (·.named)) any (R.map (·.n)) (R.map (·.h)) i q =
  qgroup.l2 W lim lim (l.map (·.from_)) (l.map (·.to_)) (l.map (·.named)) any (R.map (·.n)) (R.map (·.h)) (pushQ q (seg R i e)).row.length e 0 (pushQ q (seg R i e))
 | _, i, 0, q, h1, h2, _, _ => by omega
 | 0, i, n0 + 1, q, h1, h2, _, _ => by
  have : i = e := by omega
  subst this
  rw [qgroup.l0_succ, if_pos (by omega), if_pos (by simp; omega), Int.toNat_zero, getD_from, hef, if_neg (by simp), cX_i (W_qMark q), if_pos (by omega), if_pos (by simp; omega), seg_nil (Nat.le_refl _), pushQ_nil]
 | d + 1, i, n0 + 1, q, h1, h2, h3, h4 => by
  rw [qgroup.l0_succ, if_pos (by omega), if_pos (by simp; omega), Int.toNat_zero, getD_from, hef, if_pos (by simp; omega), if_pos (by omega), if_pos (by simp; omega), if_pos (by omega), if_pos (by simp; omega), Int.toNat_natCast, getD_map_n, getD_map_h]
  rw [cX_u (W_qpushM q _ (by omega) (by omega)), wi _ (by omega) (by omega)]
  have ih := qg_l0 lim hR e he hl hef d (i + 1) n0 (pushQ q [R.getD i (El.dflt .made)]) (by omega) (by omega) (by simp [pushQ]; omega) (by simp [pushQ]; omega)
  rw [Int.natCast_add i 1, Int.natCast_one] at ih
  rw [ih, pushQ_app, seg_cons (by omega) he]; rfl
def nextOf (R : List Made) (l : List Ent) (i : Nat) : Int := if i + 1 < l.length then (l.getD (i + 1) (El.dflt .ent)).from_ else R.length
theorem qg_step (lim n2 : Nat) (hR : R.length < 4294967280) (hl : l.length < 4294967280) (hlim : R.length + 2 < lim) (hE : EntsAt R l) (m : Int) (p idx : Nat) (hidx : idx < l.length) (hp : (p : Int) ≤ (l.getD idx (El.dflt .ent)).to_) (q : QS) (h1 : q.row.length + R.length < 4294967290 + p) (h2 : q.high.length + R.length < 4294967290 + p) :
  qgroup.l2 W lim (n2 + 1) (l.map (·.from_)) (l.map (·.to_)) (l.map (·.named)) any (R.map (·.n)) (R.map (·.h)) m p idx q =
  (if (!any || (l.getD idx (El.dflt .ent)).named) = true then
   (cX W .u .ref qClose.n [.rdr 0, .int m, .int 233] (pushQ q (seg R p (l.getD idx (El.dflt .ent)).to_)) fun _ (p33 : QS) =>
    qgroup.l6 W lim n2 lim (l.map (·.from_)) (l.map (·.to_)) (l.map (·.named)) any (R.map (·.n)) (R.map (·.h)) (l.getD idx (El.dflt .ent)).to_ idx (nextOf R l idx) p33)
  else qgroup.l2 W lim n2 (l.map (·.from_)) (l.map (·.to_)) (l.map (·.named)) any (R.map (·.n)) (R.map (·.h)) m (l.getD idx (El.dflt .ent)).to_ ((idx + 1 : Nat) : Int) (pushQ q (seg R p (l.getD idx (El.dflt .ent)).to_))) := by
 have hs := hE.seg idx hidx
 obtain ⟨e, he⟩ : ∃ e : Nat, (l.getD idx (El.dflt .ent)).to_ = e := ⟨(l.getD idx (El.dflt .ent)).to_.toNat, by omega⟩
 rw [qgroup.l2_succ, if_pos (by simp; omega), qg_l4 lim n2 hR m e idx (by omega) hidx he (e - p) p lim q (by omega) (by omega) (by omega) (by omega), he]
 unfold qgEnd qgroup.j0
 rw [wi _ (by omega) (by omega), Int.toNat_natCast, getD_named]
 have hcont : ∀ p33 : QS, (if (decide (((idx : Int) + 1) < (((l.map (·.from_))).length : Int))) then
   if 0 ≤ ((idx : Int) + 1) then
   if ((idx : Int) + 1) < (((l.map (·.from_))).length : Int) then
   qgroup.l6 W lim n2 lim (l.map (·.from_)) (l.map (·.to_)) (l.map (·.named)) any (R.map (·.n)) (R.map (·.h)) e idx (List.getD (l.map (·.from_)) (Int.toNat ((idx : Int) + 1)) (0 : Int)) p33
   else none
   else none
   else
   qgroup.l6 W lim n2 lim (l.map (·.from_)) (l.map (·.to_)) (l.map (·.named)) any (R.map (·.n)) (R.map (·.h)) e idx (((R.map (·.n))).length : Int) p33) =
   qgroup.l6 W lim n2 lim (l.map (·.from_)) (l.map (·.to_)) (l.map (·.named)) any (R.map (·.n)) (R.map (·.h)) e idx (nextOf R l idx) p33 := by
  intro p33
  unfold nextOf
  by_cases hn : idx + 1 < l.length
  ·have e1 : ((idx : Int) + 1).toNat = idx + 1 := by omega
   rw [if_pos (by simp; omega), if_pos (by omega), if_pos (by simp; omega), e1, getD_from, if_pos hn]
  ·rw [if_neg (by simp; omega), if_neg hn]; simp
 simp only [hcont]
 cases any with
 | false => rfl
 | true =>
  rw [if_neg (by decide), if_pos (by omega), if_pos (by simp; omega)]
  cases hnm : (l.getD idx (El.dflt .ent)).named with
  | true => rfl
  | false => rfl
structure QD (q : QS) (b : A) (n : Nat) : Prop where
 l : q.l = b.pre ++ b.rest
 f : q.failed = true
 d : ∀ d, b.dg = some d → q.dc = d.c ∧ q.df = d.f ∧ q.dt = d.t
 h1 : q.row.length ≤ n
 h2 : q.high.length ≤ n
theorem QD.push {q : QS} {b : A} {n : Nat} (h : QD q b n) (s : List Made) : QD (pushQ q s) b (n + s.length) :=
 ⟨h.l, h.f, h.d, by simp [pushQ]; exact h.h1, by simp [pushQ]; exact h.h2⟩
theorem W_qCloseD {q : QS} (hf : q.failed = true) (m kd : Int) : W .ref qClose.n [.rdr 0, .int m, .int kd] q = some (.undef, q) := by
 refine fx qClose.fd 0 ?_
 rw [qClose_eq, if_pos hf]
theorem nextOf_ok (hE : EntsAt R l) {i : Nat} (hi : i < l.length) : (l.getD i (El.dflt .ent)).to_ ≤ nextOf R l i ∧ nextOf R l i ≤ (R.length : Int) := by
 unfold nextOf
 have hs := hE.seg i hi
 split
 ·rename_i h
  have := hE.nxt i h
  have := hE.seg (i + 1) h
  omega
 ·omega
theorem qg_dead (lim : Nat) (hR : R.length < 4294967280) (hl : l.length < 4294967280) (hlim : R.length + 2 < lim) (hE : EntsAt R l) (b : A) : ∀ (d idx n2 p : Nat) (m : Int) (q : QS), idx + d = l.length → d < n2 → (idx < l.length → (p : Int) ≤ (l.getD idx (El.dflt .ent)).to_) → p ≤ R.length → QD q b p →
  ∃ q', qgroup.l2 W lim n2 (l.map (·.from_)) (l.map (·.to_)) (l.map (·.named)) any (R.map (·.n)) (R.map (·.h)) m p idx q = some (.undef, q') ∧ ∃ n, QD q' b n
 | _, _, 0, _, _, _, _, hn, _, _, _ => by omega
 | 0, idx, n2 + 1, p, m, q, hi, hn, _, _, hq => by
  refine ⟨q, ?_, _, hq⟩
  rw [qgroup.l2_succ, if_neg (by simp; omega)]
 | d + 1, idx, n2 + 1, p, m, q, hi, hn, hp, hpl, hq => by
  have hidx : idx < l.length := by omega
  have hp' := hp hidx
  have hs := hE.seg idx hidx
  have hnx := nextOf_ok hE hidx
  obtain ⟨e, he⟩ : ∃ e : Nat, (l.getD idx (El.dflt .ent)).to_ = e := ⟨(l.getD idx (El.dflt .ent)).to_.toNat, by omega⟩
  obtain ⟨x, hx⟩ : ∃ x : Nat, nextOf R l idx = x := ⟨(nextOf R l idx).toNat, by omega⟩
  rw [qg_step lim n2 (by omega) hl hlim hE m p idx hidx hp' q (by have := hq.h1; omega) (by have := hq.h2; omega), he, hx]
  have hq1 := hq.push (seg R p e)
  rw [seg_len (by omega)] at hq1
  have hfn : ∀ y : Nat, (y : Int) ≤ nextOf R l idx → (idx + 1 < l.length → (y : Int) ≤ (l.getD (idx + 1) (El.dflt .ent)).to_) := by
   intro y hy hlt
   have := hE.seg (idx + 1) hlt
   unfold nextOf at hy; rw [if_pos hlt] at hy; omega
  split
  ·rw [cX_u (W_qCloseD hq1.f m 233), qg_l6 lim n2 (by omega) x idx (by omega) (by omega) (x - e) e lim (pushQ q (seg R p e)) (by omega) (by omega) (by have := hq1.h1; omega) (by have := hq1.h2; omega)]
   have hq2 := hq1.push (seg R e x)
   rw [seg_len (by omega)] at hq2
   exact qg_dead lim hR hl hlim hE b d (idx + 1) n2 x _ _ (by omega) (by omega) (hfn x (by omega)) (by omega) ⟨hq2.l, hq2.f, hq2.d, by have := hq2.h1; omega, by have := hq2.h2; omega⟩
  ·exact qg_dead lim hR hl hlim hE b d (idx + 1) n2 e _ _ (by omega) (by omega) (hfn e (by omega)) (by omega) ⟨hq1.l, hq1.f, hq1.d, by have := hq1.h1; omega, by have := hq1.h2; omega⟩
theorem seg_app {f p t : Nat} (h1 : f ≤ p) (h2 : p ≤ t) : seg R f p ++ seg R p t = seg R f t := by
 unfold seg
 simp only [Int.toNat_natCast]
 have e1 : (R.take p).drop f = ((R.take t).drop f).take (p - f) := by
  rw [List.take_drop, List.take_take]; congr 2; omega
 have e2 : (R.take t).drop p = ((R.take t).drop f).drop (p - f) := by
  rw [List.drop_drop]; congr 1; omega
 rw [e1, e2, List.take_append_drop]
theorem seg_any {f t : Nat} {i : Nat} (hE : EntsAt R l) (hi : i < l.length) (hf : (f : Int) ≤ (l.getD i (El.dflt .ent)).from_) (ht : (l.getD i (El.dflt .ent)).to_ = t) : (seg R f t).any (fun x => !triv x) = true := by
 have hs := hE.seg i hi
 have h4 := hs.2.2.2
 rw [List.any_eq_true] at h4 ⊢
 obtain ⟨x, x1, x2⟩ := h4
 refine ⟨x, ?_, x2⟩
 unfold seg
 rw [ht] at x1
 have : (R.take (t : Int).toNat).drop (l.getD i (El.dflt .ent)).from_.toNat = ((R.take (t : Int).toNat).drop (f : Int).toNat).drop ((l.getD i (El.dflt .ent)).from_.toNat - f) := by
  rw [List.drop_drop]; congr 1; omega
 rw [this] at x1
 exact List.mem_of_mem_drop x1
theorem hiR_mono (h : Int) (i : Nat) (hi : i < l.length) (hcl : (any && !(l.getD i (El.dflt .ent)).named) = false) (hh : hiR R h any (l.take i).reverse (l.getD i (El.dflt .ent)).from_ (l.getD i (El.dflt .ent)).to_ = true) : ∀ (k : Nat) (f t : Int), i < k → k ≤ l.length → hiR R h any (l.take k).reverse f t = true
 | 0, f, t, h1, h2 => by omega
 | k + 1, f, t, h1, h2 => by
  have hrev : (l.take (k + 1)).reverse = l.getD k (El.dflt .ent) :: (l.take k).reverse := by
   rw [List.take_add_one, List.getElem?_eq_getElem (by omega)]
   simp [List.getD_eq_getElem?_getD, List.getElem?_eq_getElem (show k < l.length by omega)]
  rw [hrev]
  unfold hiR
  by_cases hk : k = i
  ·subst hk
   rw [if_neg (by rw [hcl]; decide), hh]; rfl
  ·split
   ·exact hiR_mono h i hi hcl hh k _ _ (by omega) (by omega)
   ·rw [hiR_mono h i hi hcl hh k _ _ (by omega) (by omega)]; rfl
theorem close_live (b : A) (hb : b.dg = none) (m kind : Int) : A.close m kind b = if 100 < (b.closed (b.clamp m) kind).h then A.fail 202 { b with row := b.row.take (b.clamp m) ++ ((b.row.drop (b.clamp m)).takeWhile triv ++ [b.closed (b.clamp m) kind]) } else { b with row := b.row.take (b.clamp m) ++ ((b.row.drop (b.clamp m)).takeWhile triv ++ [b.closed (b.clamp m) kind]) } := by
 obtain ⟨pre, rest, row, opn, dg⟩ := b
 simp only at hb
 subst hb; rfl
theorem bool1 : ∀ a b : Bool, ¬ ((!a || b) = true) → (a && !b) = true := by decide
theorem bool2 : ∀ a b : Bool, (!a || b) = true → (a && !b) = false := by decide
theorem qg_live (a : A) (hg : a.good) (hlv : a.dg = none) (hR : a.row = R) (hroom : R.length + a.rest.length + 8 < 4294967264) (hl : l.length < 4294967280) (lim : Nat) (hlim : R.length + 2 < lim) (hE : EntsAt R l) (hlast : any = true → (l.getD (l.length - 1) (El.dflt .ent)).named = true) : ∀ (d idx n2 p m f0 : Nat) (out : List Made), idx + (d + 1) = l.length → d + 1 < n2 → (p : Int) ≤ (l.getD idx (El.dflt .ent)).to_ → p ≤ R.length → f0 ≤ p → (f0 : Int) ≤ (l.getD idx (El.dflt .ent)).from_ →
  m ≤ out.length → out.drop m = seg R f0 p → out.length ≤ p → (∀ x ∈ out, 0 ≤ x.h ∧ x.h ≤ 100) →
  (∀ t : Nat, p ≤ t → frontR R a.here any (l.take idx).reverse (l.getD idx (El.dflt .ent)).from_ t = out.take m ++ Cs a.here (seg R f0 t)) →
  (∀ t : Nat, p ≤ t → hiR R a.here any (l.take idx).reverse (l.getD idx (El.dflt .ent)).from_ t = hiOf a.here (seg R f0 t)) →
  ∃ q', qgroup.l2 W lim n2 (l.map (·.from_)) (l.map (·.to_)) (l.map (·.named)) any (R.map (·.n)) (R.map (·.h)) m p idx (toQ { a with row := out }) = some (.undef, q') ∧ RelQ q' (a.group any l)
 | _, _, 0, _, _, _, _, _, hn, _, _, _, _, _, _, _, _, _, _ => by omega
 | d, idx, n2 + 1, p, m, f0, out, hi, hn, hp, hpl, hf0, hff, hm, hdr, hol, hhi, hfr, hhr => by
  have hidx : idx < l.length := by omega
  have hs := hE.seg idx hidx
  have hnx := nextOf_ok hE hidx
  obtain ⟨e, he⟩ : ∃ e : Nat, (l.getD idx (El.dflt .ent)).to_ = e := ⟨(l.getD idx (El.dflt .ent)).to_.toNat, by omega⟩
  obtain ⟨x, hx⟩ : ∃ x : Nat, nextOf R l idx = x := ⟨(nextOf R l idx).toNat, by omega⟩
  have hpe : p ≤ e := by omega
  have hRe : e ≤ R.length := by omega
  rw [qg_step lim n2 (by omega) hl hlim hE m p idx hidx hp _ (by simp [toQ]; omega) (by simp [toQ]; omega), he, hx, pushQ_toQ]
  have hseg : seg R f0 p ++ seg R p e = seg R f0 e := seg_app hf0 hpe
  have hsl := seg_len (R := R) (i := p) (e := e) hRe
  have hout : (out ++ seg R p e).drop m = seg R f0 e := by
   rw [List.drop_append_of_le_length hm, hdr, hseg]
  have hotk : (out ++ seg R p e).take m = out.take m := by rw [List.take_append_of_le_length hm]
  have hsegmem : ∀ (i j : Int) (y : Made), y ∈ seg R i j → 0 ≤ y.h ∧ y.h ≤ 100 := by
   intro i j y hy
   have hy' : y ∈ a.row := by rw [hR]; unfold seg at hy; exact List.mem_of_mem_take (List.mem_of_mem_drop hy)
   exact ⟨(hg.high y hy').1, hg.low (live_of hlv) y hy'⟩
  have hany := seg_any (f := f0) hE hidx hff he
  have hG := fold_front l any R hE a (l.length - 1) (l.length - 1) a (Nat.le_refl _) (by omega) hlv rfl rfl rfl (by rw [hR]) (by rw [hR]; exact (hE.seg _ (by omega)).2.2.1) (hE.seg _ (by omega)).2.1
  have hGrp : a.group any l = (backG any (l.getD (l.length - 1) (El.dflt .ent)).to_ (l.getD (l.length - 1) (El.dflt .ent)).from_ (l.take (l.length - 1)).reverse).foldl (fun b g => A.group1 g b) a := by
   unfold A.group
   rw [hlv]
   simp only
   have hrev : l.reverse = l.getD (l.length - 1) (El.dflt .ent) :: (l.take (l.length - 1)).reverse := by
    conv => lhs; rw [show l = l.take ((l.length - 1) + 1) by rw [List.take_of_length_le (by omega)]]
    rw [List.take_add_one, List.getElem?_eq_getElem (by omega)]
    simp [List.getD_eq_getElem?_getD, List.getElem?_eq_getElem (show l.length - 1 < l.length by omega)]
   rw [hrev]; rfl
  rw [← hGrp] at hG
  by_cases hc : (!any || (l.getD idx (El.dflt .ent)).named) = true
  rotate_left
  ·-- it stays open
   rw [if_neg hc]
   have hab : (any && !(l.getD idx (El.dflt .ent)).named) = true := bool1 _ _ hc
   have hd0 : d ≠ 0 := by
    intro h0
    have : idx = l.length - 1 := by omega
    rw [this] at hc hab
    simp only [Bool.and_eq_true] at hab
    rw [hlast hab.1] at hc
    simp at hc
   obtain ⟨d', rfl⟩ : ∃ d', d = d' + 1 := ⟨d - 1, by omega⟩
   have hs1 := hE.seg (idx + 1) (by omega)
   have hn1 := hE.nxt idx (by omega)
   have hrev : (l.take (idx + 1)).reverse = l.getD idx (El.dflt .ent) :: (l.take idx).reverse := by
    rw [List.take_add_one, List.getElem?_eq_getElem (by omega)]
    simp [List.getD_eq_getElem?_getD, List.getElem?_eq_getElem hidx]
   refine qg_live a hg hlv hR hroom hl lim hlim hE hlast d' (idx + 1) n2 e m f0 (out ++ seg R p e) (by omega) (by omega) (by omega) hRe (by omega) (by omega) (by simp; omega) hout (by simp; omega) ?_ ?_ ?_
   ·intro y hy
    simp only [List.mem_append] at hy
    rcases hy with hy | hy
    ·exact hhi y hy
    ·exact hsegmem _ _ y hy
   ·intro t ht
    rw [hrev, hotk]
    simp only [frontR, if_pos hab]
    exact hfr t (by omega)
   ·intro t ht
    rw [hrev]
    simp only [hiR, if_pos hab]
    exact hhr t (by omega)
  -- it is closed
  rw [if_pos hc]
  have hab : (any && !(l.getD idx (El.dflt .ent)).named) = false := bool2 _ _ hc
  have hol2 : (out ++ seg R p e).length ≤ e := by rw [List.length_append, hsl]; omega
  have hgood : A.good { a with row := out ++ seg R p e } := by
   refine ⟨⟨hg.pre, hg.len, hg.opn, fun y hy => ?_, by simp only; omega⟩, fun _ y hy => ?_⟩
   ·simp only [List.mem_append] at hy
    rcases hy with hy | hy
    ·have := hhi y hy; omega
    ·have := hsegmem _ _ y hy; omega
   ·simp only [List.mem_append] at hy
    rcases hy with hy | hy
    ·exact (hhi y hy).2
    ·exact (hsegmem _ _ y hy).2
  have hro : A.room { a with row := out ++ seg R p e } = true := by rw [room_iff]; simp only; omega
  obtain ⟨q', g1, _, g3⟩ := W_qClose3 (RelQ.toQ _) hgood hro (m : Int) m 233 (fun _ => rfl)
  replace g3 := g3 (live_of hlv)
  rw [cX_u g1]
  have hclamp : A.clamp { a with row := out ++ seg R p e } (m : Int) = m := by unfold A.clamp; simp; omega
  have hclosed : A.closed { a with row := out ++ seg R p e } m 233 = nodeOf 233 a.here ((seg R f0 e).dropWhile triv) := by
   unfold A.closed
   simp only [hout]; rfl
  have hclose : A.close (m : Int) 233 { a with row := out ++ seg R p e } = if hiOf a.here (seg R f0 e) = true then A.fail 202 { a with row := out.take m ++ Cs a.here (seg R f0 e) } else { a with row := out.take m ++ Cs a.here (seg R f0 e) } := by
   rw [close_live _ (by exact hlv), hclamp, hclosed]
   simp only [hout, hotk]
   unfold Cs hiOf
   by_cases hq : 100 < (nodeOf 233 a.here ((seg R f0 e).dropWhile triv)).h
   ·rw [if_pos hq, if_pos (decide_eq_true hq)]
   ·rw [if_neg hq, if_neg (by simpa using hq)]
  have hcl := Cs_len a.here hany
  rw [seg_len hRe] at hcl
  have hdl : out.length - m = p - f0 := by
   have := congrArg List.length hdr
   rw [List.length_drop, seg_len hpl] at this; exact this
  have hlen1 : (out.take m ++ Cs a.here (seg R f0 e)).length ≤ e := by
   rw [List.length_append, List.length_take]; omega
  have hsl2 := seg_len (R := R) (i := e) (e := x) (by omega)
  have hqb : ∀ b : A, b.row = out.take m ++ Cs a.here (seg R f0 e) → (toQ b).row.length + (x - e) < 4294967290 ∧ (toQ b).high.length + (x - e) < 4294967290 := by
   intro b hb
   simp only [toQ, List.length_map, hb]
   omega
  rw [g3, hclose]
  have hhe := hhr e hpe
  cases hh : hiOf a.here (seg R f0 e) with
  | true =>
   -- too high
   rw [if_pos rfl]
   obtain ⟨_, _, hrow, _⟩ := fail_dg (a := ({ a with row := out.take m ++ Cs a.here (seg R f0 e) } : A)) 202
   obtain ⟨b1, b2⟩ := hqb _ hrow
   rw [qg_l6 lim n2 (by omega) x idx (by omega) (by omega) (x - e) e lim _ (by omega) (by omega) b1 b2]
   have hfail : hiR R a.here any (l.take (l.length - 1)).reverse (l.getD (l.length - 1) (El.dflt .ent)).from_ (l.getD (l.length - 1) (El.dflt .ent)).to_ = true := by
    by_cases hi2 : idx = l.length - 1
    ·rw [← hi2, he, hhe, hh]
    ·exact hiR_mono a.here idx hidx hab (by rw [he, hhe, hh]) (l.length - 1) _ _ (by omega) (by omega)
   rw [if_pos hfail] at hG
   have hdg1 : (A.fail 202 { a with row := out.take m ++ Cs a.here (seg R f0 e) }).dg = (A.fail 202 ({ a with dg := none } : A)).dg := by
    rw [fail_here, fail_here]; simp only [hlv]; rfl
   have hqd : QD (pushQ (toQ (A.fail 202 { a with row := out.take m ++ Cs a.here (seg R f0 e) })) (seg R e x)) (a.group any l) x := by
    refine ⟨?_, ?_, fun dd hdd => ?_, ?_, ?_⟩
    ·obtain ⟨h1, h2, _, _⟩ := fail_dg (a := ({ a with row := out.take m ++ Cs a.here (seg R f0 e) } : A)) 202
     rw [hG]; simp only [pushQ, toQ]; rw [h1, h2]
    ·show A.dead _ = true
     unfold A.dead; rw [hdg1, fail_here]; rfl
    ·rw [hG] at hdd
     simp only at hdd
     simp only [pushQ, toQ]
     rw [hdg1, hdd]; exact ⟨rfl, rfl, rfl⟩
    ·simp only [pushQ, toQ, List.length_append, List.length_map, hrow]
     rw [List.length_append] at hlen1; omega
    ·simp only [pushQ, toQ, List.length_append, List.length_map, hrow]
     rw [List.length_append] at hlen1; omega
   have hfn : idx + 1 < l.length → (x : Int) ≤ (l.getD (idx + 1) (El.dflt .ent)).to_ := by
    intro hlt
    have := hE.seg (idx + 1) hlt
    unfold nextOf at hx; rw [if_pos hlt] at hx; omega
   obtain ⟨q2, r1, nn, r2⟩ := qg_dead (any := any) lim (by omega) hl hlim hE (a.group any l) d (idx + 1) n2 x ((pushQ (toQ (A.fail 202 { a with row := out.take m ++ Cs a.here (seg R f0 e) })) (seg R e x)).row.length : Int) _ (by omega) (by omega) hfn (by omega) hqd
   refine ⟨q2, r1, r2.l, ?_, fun hc => ?_, r2.d⟩
   ·rw [r2.f, hG]
    unfold A.dead; simp only; rw [fail_here]; rfl
   ·exfalso
    rw [hG] at hc
    unfold A.dead at hc; simp only at hc; rw [fail_here] at hc; cases hc
  | false =>
   rw [if_neg (by decide)]
   obtain ⟨b1, b2⟩ := hqb { a with row := out.take m ++ Cs a.here (seg R f0 e) } rfl
   rw [qg_l6 lim n2 (by omega) x idx (by omega) (by omega) (x - e) e lim _ (by omega) (by omega) b1 b2, pushQ_toQ]
   by_cases hd0 : d = 0
   ·-- the last one
    have hil : idx = l.length - 1 := by omega
    have hxr : x = R.length := by
     unfold nextOf at hx; rw [if_neg (by omega)] at hx; omega
    obtain ⟨n3, rfl⟩ : ∃ n3, n2 = n3 + 1 := ⟨n2 - 1, by omega⟩
    rw [qgroup.l2_succ, if_neg (by simp; omega)]
    rw [← hil, he] at hG
    have hfre := hfr e hpe
    rw [if_neg (by rw [hhe, hh]; decide), hfre] at hG
    refine ⟨_, rfl, ?_⟩
    have : (({ a with row := out.take m ++ Cs a.here (seg R f0 e) ++ seg R e x } : A)) = a.group any l := by
     rw [hG, hR, Int.toNat_natCast, ← hlv]
     have : seg R e x = R.drop e := by
      unfold seg; rw [hxr]; simp
     rw [this]
    rw [← this]; exact RelQ.toQ _
   ·obtain ⟨d', rfl⟩ : ∃ d', d = d' + 1 := ⟨d - 1, by omega⟩
    have hs1 := hE.seg (idx + 1) (by omega)
    have hn1 := hE.nxt idx (by omega)
    have hxe : (l.getD (idx + 1) (El.dflt .ent)).from_ = x := by
     unfold nextOf at hx; rw [if_pos (by omega)] at hx; exact hx
    have hrev : (l.take (idx + 1)).reverse = l.getD idx (El.dflt .ent) :: (l.take idx).reverse := by
     rw [List.take_add_one, List.getElem?_eq_getElem (by omega)]
     simp [List.getD_eq_getElem?_getD, List.getElem?_eq_getElem hidx]
    have hml : ((toQ { a with row := out.take m ++ Cs a.here (seg R f0 e) ++ seg R e x }).row.length : Int) = ((out.take m ++ Cs a.here (seg R f0 e) ++ seg R e x).length : Int) := by simp [toQ]
    rw [hml]
    refine qg_live a hg hlv hR hroom hl lim hlim hE hlast d' (idx + 1) n2 x _ x (out.take m ++ Cs a.here (seg R f0 e) ++ seg R e x) (by omega) (by omega) (by omega) (by omega) (Nat.le_refl _) (by omega) (Nat.le_refl _) ?_ ?_ ?_ ?_ ?_
    ·rw [List.drop_length, seg_nil (Nat.le_refl _)]
    ·rw [List.length_append]; omega
    ·intro y hy
     simp only [List.mem_append] at hy
     rcases hy with (hy | hy) | hy
     ·exact hhi y (List.mem_of_mem_take hy)
     ·unfold Cs at hy
      simp only [List.mem_append, List.mem_singleton] at hy
      rcases hy with hy | hy
      ·exact hsegmem _ _ y (List.IsPrefix.subset (List.takeWhile_prefix _) hy)
      ·subst hy
       refine ⟨Int.le_trans (by decide) (high_ge _ _), ?_⟩
       unfold hiOf at hh
       simpa using hh
     ·exact hsegmem _ _ y hy
    ·intro t ht
     rw [hrev, hxe]
     simp only [frontR, if_neg (show ¬ (any && !(l.getD idx (El.dflt .ent)).named) = true by rw [hab]; decide)]
     rw [he, hfr e hpe, List.take_length]
     simp only [List.append_assoc]
    ·intro t ht
     rw [hrev, hxe]
     simp only [hiR, if_neg (show ¬ (any && !(l.getD idx (El.dflt .ent)).named) = true by rw [hab]; decide)]
     rw [he, hhe, hh, Bool.false_or]
theorem W_qgroup (a : A) (q : QS) (h : RelQ q a) (hg : a.good) (hlv : a.dead = false) (hroom : a.room = true) (hl : l.length < 4294967280) (hok : entsOK a.row 0 l = true) (hr2 : a.row.length + a.rest.length + 8 < 4294967264) (hlast : any = true → (l.getD (l.length - 1) (El.dflt .ent)).named = true) :
  ∃ q', W .ref qgroup.n [.rdr 0, .sl .int (l.map (·.from_)), .sl .int (l.map (·.to_)), .sl .bool (l.map (·.named)), .bool any] q = some (.undef, q') ∧ RelQ q' (a.group any l) := by
 have hq := h.live hlv
 have hd := dg_live hlv
 obtain ⟨hE, _⟩ := entsAt_of (Int.le_refl 0) hok
 by_cases hz : l = []
 ·subst hz
  refine ⟨q, ?_, ?_⟩
  ·refine fx qgroup.fd 0 ?_
   rw [qgroup_eq, if_pos (by simp)]
  ·have : a.group any [] = a := by unfold A.group; rw [hd]; rfl
   rw [this]; exact h
 ·have hpos : 0 < l.length := List.length_pos_iff.2 hz
  have hs := hE.seg 0 hpos
  obtain ⟨f, hf⟩ : ∃ f : Nat, (l.getD 0 (El.dflt .ent)).from_ = f := ⟨(l.getD 0 (El.dflt .ent)).from_.toNat, by omega⟩
  have hE' : EntsAt a.row l := hE
  have e0 : seg a.row (0 : Nat) f = a.row.take f := by unfold seg; simp
  have key := qg_live (R := a.row) (any := any) a hg hd rfl hr2 hl (a.row.length + l.length + 4) (by omega) hE hlast (l.length - 1) 0 (a.row.length + l.length + 4) f (a.row.take f).length f (a.row.take f) (by omega) (by omega) (by omega) (by omega) (Nat.le_refl _) (by omega) (Nat.le_refl _) (by rw [List.drop_length, seg_nil (Nat.le_refl _)]) (by simp; omega) (fun y hy => ⟨(hg.high y (List.mem_of_mem_take hy)).1, hg.low hlv y (List.mem_of_mem_take hy)⟩) (fun t ht => by rw [List.take_length, hf]; simp only [List.take_zero, List.reverse_nil, frontR, Int.toNat_natCast]) (fun t ht => by rw [hf]; simp only [List.take_zero, List.reverse_nil, hiR])
  obtain ⟨q', k1, k2⟩ := key
  refine ⟨q', ?_, k2⟩
  refine fx qgroup.fd (a.row.length + l.length + 4) ?_
  rw [qgroup_eq, if_neg (by simp; omega)]
  have hqr : q.row = a.row.map (·.n) := by rw [hq]; rfl
  have hqh : q.high = a.row.map (·.h) := by rw [hq]; rfl
  rw [hqr, hqh]
  have := qg_l0 (any := any) (R := a.row) (l := l) (a.row.length + l.length + 4) (by omega) f (by omega) hpos hf f 0 (a.row.length + l.length + 4) { q with row := [], high := [] } (by omega) (by omega) (by simp; omega) (by simp; omega)
  rw [Int.natCast_zero] at this
  refine this.trans ?_
  have e2 : pushQ { q with row := [], high := [] } (seg a.row (0 : Int) f) = toQ { a with row := a.row.take f } := by
   rw [show seg a.row (0 : Int) f = a.row.take f from e0, hq]
   simp [pushQ, toQ, A.dead]
  rw [e2]
  have e3 : ((toQ { a with row := a.row.take f }).row.length : Int) = ((a.row.take f).length : Int) := by simp [toQ]
  rw [e3]; exact k1
end
end Go.AI.Rd
namespace Go.AI.Rd
theorem runM_mono {cf cg : Proc → A → List Int → Option (Int × A)} (h : ∀ pr a ms r, cf pr a ms = some r → cg pr a ms = some r) : ∀ (m : M) (a : A) (ms : List Int) (r : Int × A), runM cf m a ms = some r → runM cg m a ms = some r := by
 intro m
 induction m with
 | ret v => intro a ms r hr; exact hr
 | look f k ih => intro a ms r hr; exact ih _ a ms r hr
 | lookB f k ih => intro a ms r hr; exact ih _ a ms r hr
 | dead k ih => intro a ms r hr; exact ih _ a ms r hr
 | take k ih => intro a ms r hr; simp only [runM] at hr ⊢; split at hr; exact (by rename_i hc; rw [if_pos hc]; exact ih _ ms r hr); cases hr
 | none_ k ih => intro a ms r hr; simp only [runM] at hr ⊢; split at hr; exact (by rename_i hc; rw [if_pos hc]; exact ih _ ms r hr); cases hr
 | mark k ih => intro a ms r hr; simp only [runM] at hr ⊢; split at hr; exact (by rename_i hc; rw [if_pos hc]; exact ih a _ r hr); cases hr
 | close hh kd k ih => intro a ms r hr; simp only [runM] at hr ⊢; split at hr; exact (by rename_i hc; rw [if_pos hc]; exact ih _ ms r hr); cases hr
 | gap hh k ih => intro a ms r hr; simp only [runM] at hr ⊢; split at hr; exact (by rename_i hc; rw [if_pos hc]; exact ih _ ms r hr); cases hr
 | last k ih => intro a ms r hr; exact ih _ a ms r hr
 | down k ih => intro a ms r hr; exact ih _ _ ms r hr
 | up k ih => intro a ms r hr; exact ih _ ms r hr
 | fail c k ih => intro a ms r hr; exact ih _ ms r hr
 | lit hh head k ih => intro a ms r hr; simp only [runM] at hr ⊢; split at hr; exact (by rename_i hc; rw [if_pos hc]; exact ih _ a ms r hr); cases hr
 | names ns k ih => intro a ms r hr; simp only [runM] at hr ⊢; split at hr; exact (by rename_i hc; rw [if_pos hc]; exact ih _ ms r hr); cases hr
 | group ns any k ih => intro a ms r hr; simp only [runM] at hr ⊢; split at hr; exact (by rename_i hc; rw [if_pos hc]; exact ih _ ms r hr); cases hr
 | call pr hs k ih =>
  intro a ms r hr
  simp only [runM] at hr ⊢
  split at hr
  ·rename_i r1 b1 hc
   rw [h _ _ _ _ hc]; exact ih _ _ ms r hr
  ·cases hr
theorem callN_mono1 : ∀ (n : Nat) (pr : Proc) (a : A) (ms : List Int) (r : Int × A), callN n pr a ms = some r → callN (n + 1) pr a ms = some r
 | 0, pr, a, ms, r, h => by simp [callN] at h
 | n + 1, pr, a, ms, r, h => runM_mono (callN_mono1 n) (body pr) a ms r h
theorem callN_mono {n m : Nat} (hnm : n ≤ m) {pr : Proc} {a : A} {ms : List Int} {r : Int × A} (h : callN n pr a ms = some r) : callN m pr a ms = some r := by
 induction hnm with
 | refl => exact h
 | step _ ih => exact callN_mono1 _ _ _ _ _ ih
theorem callN_body {n : Nat} {pr : Proc} {a : A} {ms : List Int} {r : Int × A} (h : callN n pr a ms = some r) : runM (callN n) (body pr) a ms = some r := by
 cases n with
 | zero => simp [callN] at h
 | succ n => exact runM_mono (callN_mono1 n) (body pr) a ms r h
def Stuck (a b : A) : Prop := b.dg = a.dg ∧ b.pre = a.pre ∧ b.rest = a.rest
theorem Stuck.trans {a b c : A} (h : Stuck a b) (k : Stuck b c) : Stuck a c := ⟨k.1.trans h.1, k.2.1.trans h.2.1, k.2.2.trans h.2.2⟩
theorem Stuck.dead {a b : A} (h : Stuck a b) (hd : a.dead = true) : b.dead = true := by unfold A.dead at hd ⊢; rw [h.1]; exact hd
theorem take_dead {a : A} (hd : a.dead = true) : a.take = a := by obtain ⟨d, hg⟩ := dead_cases hd; unfold A.take; rw [hg]
theorem none_dead {a : A} (hd : a.dead = true) : a.none_ = a := by obtain ⟨d, hg⟩ := dead_cases hd; unfold A.none_; rw [hg]
theorem gap_dead {a : A} (hd : a.dead = true) (m : Int) : a.gap m = a := by obtain ⟨d, hg⟩ := dead_cases hd; unfold A.gap; rw [hg]
theorem down_dead {a : A} (hd : a.dead = true) : a.down = (false, a) := by obtain ⟨d, hg⟩ := dead_cases hd; unfold A.down; rw [hg]
theorem names_dead {a : A} (hd : a.dead = true) (l : List Ent) : a.names l = a := by unfold A.names; rw [fail_dead hd]; simp
theorem runM_dead {cf : Proc → A → List Int → Option (Int × A)} (hcf : ∀ pr a ms r b, a.dead = true → cf pr a ms = some (r, b) → Stuck a b) : ∀ (m : M) (a : A) (ms : List Int) (r : Int) (b : A), a.dead = true → runM cf m a ms = some (r, b) → Stuck a b := by
 have rf : ∀ a : A, Stuck a a := fun a => ⟨rfl, rfl, rfl⟩
 intro m
 induction m with
 | ret v => intro a ms r b hd hr; simp only [runM, Option.some.injEq, Prod.mk.injEq] at hr; obtain ⟨_, rfl⟩ := hr; exact rf a
 | look f k ih => intro a ms r b hd hr; exact ih _ a ms r b hd hr
 | lookB f k ih => intro a ms r b hd hr; exact ih _ a ms r b hd hr
 | dead k ih => intro a ms r b hd hr; exact ih _ a ms r b hd hr
 | take k ih =>
  intro a ms r b hd hr
  simp only [runM] at hr
  split at hr
  ·rw [take_dead hd] at hr; exact ih a ms r b hd hr
  ·cases hr
 | none_ k ih =>
  intro a ms r b hd hr
  simp only [runM] at hr
  split at hr
  ·rw [none_dead hd] at hr; exact ih a ms r b hd hr
  ·cases hr
 | mark k ih =>
  intro a ms r b hd hr
  simp only [runM] at hr
  split at hr
  ·exact ih a _ r b hd hr
  ·cases hr
 | close hh kd k ih =>
  intro a ms r b hd hr
  simp only [runM] at hr
  split at hr
  ·rw [close_dead hd] at hr; exact ih a ms r b hd hr
  ·cases hr
 | gap hh k ih =>
  intro a ms r b hd hr
  simp only [runM] at hr
  split at hr
  ·rw [gap_dead hd] at hr; exact ih a ms r b hd hr
  ·cases hr
 | last k ih => intro a ms r b hd hr; exact ih _ a ms r b hd hr
 | down k ih => intro a ms r b hd hr; simp only [runM, down_dead hd] at hr; exact ih _ a ms r b hd hr
 | up k ih => intro a ms r b hd hr; exact Stuck.trans (b := a.up) ⟨rfl, rfl, rfl⟩ (ih a.up ms r b hd hr)
 | fail c k ih => intro a ms r b hd hr; simp only [runM, fail_dead hd] at hr; exact ih a ms r b hd hr
 | lit hh head k ih =>
  intro a ms r b hd hr
  simp only [runM] at hr
  split at hr
  ·exact ih _ a ms r b hd hr
  ·cases hr
 | names ns k ih =>
  intro a ms r b hd hr
  simp only [runM] at hr
  split at hr
  ·rw [names_dead hd] at hr; exact ih a ms r b hd hr
  ·cases hr
 | group ns any k ih =>
  intro a ms r b hd hr
  simp only [runM] at hr
  split at hr
  ·rw [group_dead hd] at hr; exact ih a ms r b hd hr
  ·cases hr
 | call pr hs k ih =>
  intro a ms r b hd hr
  simp only [runM] at hr
  split at hr
  ·rename_i r1 b1 hc
   have := hcf _ _ _ _ _ hd hc
   exact this.trans (ih _ b1 ms r b (this.dead hd) hr)
  ·cases hr
theorem callN_dead : ∀ (n : Nat) (pr : Proc) (a : A) (ms : List Int) (r : Int) (b : A), a.dead = true → callN n pr a ms = some (r, b) → Stuck a b
 | 0, pr, a, ms, r, b, _, h => by simp [callN] at h
 | n + 1, pr, a, ms, r, b, hd, h => runM_dead (fun pr a ms r b => callN_dead n pr a ms r b) (body pr) a ms r b hd h
theorem RelQ.stuck {q : QS} {a b : A} (h : RelQ q a) (hd : a.dead = true) (hs : Stuck a b) : RelQ q b := by
 have hbd := hs.dead hd
 exact ⟨by rw [hs.2.1, hs.2.2]; exact h.l, by rw [hbd, ← hd]; exact h.f, fun hc => absurd hc (by rw [hbd]; decide), fun d hdg => h.dd d (by rw [← hs.1]; exact hdg)⟩
def Rq (x : Option (Int × A)) (y : Option (AV × QS)) (e : Int → AV → Prop) : Prop := ∀ r b, x = some (r, b) → ∃ u q', y = some (u, q') ∧ e r u ∧ RelQ q' b
abbrev P0 : Int → AV → Prop := fun _ _ => True
abbrev PB : Int → AV → Prop := fun r u => u = .bool (decide (r ≠ 0))
section
variable {n : Nat} {a : A} {q : QS} {ms : List Int} {e : Int → AV → Prop} {F : Int × A → Option (Int × A)}
theorem Rq.fix {x : Option (Int × A)} {f : Nat} {fi : FnI} (hf : findN fnsT f = some fi) {args : List AV} (lim : Nat) (h : Rq x (evalBody T0 W .ref lim fi args q) e) : Rq x (W .ref f args q) e := by
 intro r b hx
 obtain ⟨u, q', h1, h2⟩ := h r b hx
 exact ⟨u, q', fx hf lim h1, h2⟩
theorem Rq.fin {v : Int} {u : AV} (hq : RelQ q a) (h : e v u) : Rq (some (v, a)) (some (u, q)) e := by
 intro r b hx
 simp only [Option.some.injEq, Prod.mk.injEq] at hx
 obtain ⟨rfl, rfl⟩ := hx
 exact ⟨u, q, rfl, h, hq⟩
theorem Rq.ret {v : Int} {y : Option (AV × QS)} (h : Rq (F (v, a)) y e) : Rq ((runM (callN n) (.ret v) a ms).bind F) y e := h
theorem Rq.start {x : Option (Int × A)} {y : Option (AV × QS)} (h : Rq (x.bind some) y e) : Rq x y e := by
 cases x <;> exact h
theorem Rq.inl {pr : Proc} {hs : List Nat} {k : Int → M} {y : Option (AV × QS)} (h : Rq ((runM (callN n) (body pr) a (hs.map fun h => ms.getD h 0)).bind fun rb => (runM (callN n) (k rb.1) rb.2 ms).bind F) y e) : Rq ((runM (callN n) (.call pr hs k) a ms).bind F) y e := by
 intro r b hx
 simp only [runM] at hx
 split at hx
 ·rename_i r1 b1 hc
  refine h r b ?_
  rw [callN_body hc]; exact hx
 ·cases hx
theorem Rq.ite {c : Prop} [Decidable c] {x : Option (Int × A)} {y1 y2 : Option (AV × QS)} (h1 : c → Rq x y1 e) (h2 : ¬ c → Rq x y2 e) : Rq x (if c then y1 else y2) e := by
 split
 ·exact h1 ‹_›
 ·exact h2 ‹_›
theorem Rq.tkind {x : Option (Int × A)} {K : Int → QS → Option (AV × QS)} (hq : RelQ q a) (hg : a.good) (h : Rq x (K (a.kinds.getD 0 0) q) e) : Rq x (cX W .i .ref qKind.n [.rdr 0] q K) e := by
 rw [cX_i (W_qKind hq hg.took)]; exact h
theorem Rq.tcomes {x : Option (Int × A)} {ks : List Int} {K : Bool → QS → Option (AV × QS)} (hk : ks.length < 1099511627776) (hq : RelQ q a) (hg : a.good) (h1 : comesF ks a.kinds = true → Rq x (K true q) e) (h2 : comesF ks a.kinds = false → Rq x (K false q) e) : Rq x (cX W .b .ref qcomes.n [.rdr 0, .sl .int ks] q K) e := by
 rw [cX_b (W_qcomes hq hg.took ks hk)]
 cases hc : comesF ks a.kinds with
 | true => exact h1 hc
 | false => exact h2 hc
theorem Rq.tprec {x : Option (Int × A)} {k : Int} {K : Int → Unit → Option (AV × QS)} (h : Rq x (K (precF k) ()) e) : Rq x (cX W .i .unit qPrec.n [.int k] () K) e := by
 rw [cX_i (W_qPrec k)]; exact h
theorem Rq.tmark {x : Option (Int × A)} {K : Int → QS → Option (AV × QS)} (h : Rq x (K q.row.length q) e) : Rq x (cX W .i .ref qMark.n [.rdr 0] q K) e := by
 rw [cX_i (W_qMark q)]; exact h
theorem Rq.xkind {k : Int → M} {y : Option (AV × QS)} (h : Rq ((runM (callN n) (k (a.kinds.getD 0 0)) a ms).bind F) y e) : Rq ((runM (callN n) (kind k) a ms).bind F) y e := h
theorem Rq.xcomes {ks : List Int} {k : Bool → M} {y : Option (AV × QS)} (h : Rq ((runM (callN n) (k (comesF ks a.kinds)) a ms).bind F) y e) : Rq ((runM (callN n) (comes ks k) a ms).bind F) y e := h
theorem Rq.xlookB {f : List Int → Bool} {k : Bool → M} {y : Option (AV × QS)} (h : Rq ((runM (callN n) (k (f a.kinds)) a ms).bind F) y e) : Rq ((runM (callN n) (.lookB f k) a ms).bind F) y e := h
theorem Rq.xlook {f : List Int → Int} {k : Int → M} {y : Option (AV × QS)} (h : Rq ((runM (callN n) (k (f a.kinds)) a ms).bind F) y e) : Rq ((runM (callN n) (.look f k) a ms).bind F) y e := h
theorem Rq.xdead {k : Bool → M} {y : Option (AV × QS)} (h : Rq ((runM (callN n) (k a.dead) a ms).bind F) y e) : Rq ((runM (callN n) (.dead k) a ms).bind F) y e := h
theorem Rq.xmark {k : M} {y : Option (AV × QS)} (h : (a.dead = false → ms.length < 4294967264) → Rq ((runM (callN n) k a (ms ++ [(a.row.length : Int)])).bind F) y e) : Rq ((runM (callN n) (.mark k) a ms).bind F) y e := by
 intro r b hx
 simp only [runM] at hx
 split at hx
 ·rename_i hc; exact h (fun hd => by simpa [hd] using hc) r b hx
 ·cases hx
theorem Rq.comes {ks : List Int} {k : Bool → M} {K : Bool → QS → Option (AV × QS)} (hk : ks.length < 1099511627776) (hq : RelQ q a) (hg : a.good) (h1 : comesF ks a.kinds = true → Rq ((runM (callN n) (k true) a ms).bind F) (K true q) e) (h2 : comesF ks a.kinds = false → Rq ((runM (callN n) (k false) a ms).bind F) (K false q) e) :
  Rq ((runM (callN n) (comes ks k) a ms).bind F) (cX W .b .ref qcomes.n [.rdr 0, .sl .int ks] q K) e := by
 refine Rq.xcomes ?_
 refine Rq.tcomes hk hq hg (fun hc => ?_) (fun hc => ?_)
 ·rw [hc]; exact h1 hc
 ·rw [hc]; exact h2 hc
theorem len_of (hq : RelQ q a) : a.dead = false → (q.row.length : Int) = (a.row.length : Int) := by
 intro h; rw [hq.live h]; simp [toQ]
theorem Rq.mark {k : M} {K : Int → QS → Option (AV × QS)} (hq : RelQ q a) (h : ∀ m : Int, (a.dead = false → m = (a.row.length : Int)) → 0 ≤ m → (a.dead = false → ms.length < 4294967264) → Rq ((runM (callN n) k a (ms ++ [(a.row.length : Int)])).bind F) (K m q) e) : Rq ((runM (callN n) (.mark k) a ms).bind F) (cX W .i .ref qMark.n [.rdr 0] q K) e := by
 refine Rq.xmark fun hc => Rq.tmark ?_
 exact h _ (len_of hq) (by omega) hc
theorem Rq.take {k : M} {K : Unit → QS → Option (AV × QS)} (hq : RelQ q a) (hg : a.good) (h : ∀ b q', b = a.take → b.good → RelQ q' b → (b.dead = false → a.dead = false) → Rq ((runM (callN n) k b ms).bind F) (K () q') e) : Rq ((runM (callN n) (.take k) a ms).bind F) (cX W .u .ref qTake.n [.rdr 0] q K) e := by
 intro r b hx
 simp only [runM] at hx
 split at hx
 ·rename_i hr
  obtain ⟨q', h1, h2⟩ := W_qTake hq hg.took hr
  rw [cX_u h1]
  exact h _ q' rfl (good_take hg hr) h2 (fun hc => by
   cases hd : a.dead with
   | false => rfl
   | true => rw [take_dead hd, hd] at hc; exact hc) r b hx
 ·cases hx
theorem fail_dead' (c : Int) : (a.fail c).dead = true := by
 unfold A.fail A.dead
 cases hd : a.dg with
 | none => rfl
 | some d => simp [hd]
theorem Rq.fail {c : Int} {k : M} {K : Unit → QS → Option (AV × QS)} (hq : RelQ q a) (hg : a.good) (h : ∀ b q', b.good → RelQ q' b → b.dead = true → Rq ((runM (callN n) k b ms).bind F) (K () q') e) : Rq ((runM (callN n) (.fail c k) a ms).bind F) (cX W .u .ref qFail.n [.rdr 0, .int c] q K) e := by
 obtain ⟨q', h1, h2⟩ := W_qFail hq hg.took c
 rw [cX_u h1]
 exact h _ q' (good_fail hg c) h2 (fail_dead' c)
theorem Rq.expY {c : Int} {k : M} {K : Bool → QS → Option (AV × QS)} (hc : c ≠ 0) (hk : a.kinds.getD 0 0 = c) (hq : RelQ q a) (hg : a.good) (h : ∀ b q', b = a.take → b.good → RelQ q' b → (b.dead = false → a.dead = false) → Rq ((runM (callN n) k b ms).bind F) (K true q') e) : Rq ((runM (callN n) (.take k) a ms).bind F) (cX W .b .ref qExpect.n [.rdr 0, .int c] q K) e := by
 intro r b hx
 simp only [runM] at hx
 split at hx
 ·rename_i hr
  obtain ⟨q', h1, h2⟩ := W_qExpect hq hg.took (fun _ => hr) hc
  rw [decide_eq_true hk] at h1
  rw [if_pos hk] at h2
  rw [cX_b h1]
  exact h _ q' rfl (good_take hg hr) h2 (fun hc => by
   cases hd : a.dead with
   | false => rfl
   | true => rw [take_dead hd, hd] at hc; exact hc) r b hx
 ·cases hx
theorem Rq.expN {c : Int} {k : M} {K : Bool → QS → Option (AV × QS)} (hc : c ≠ 0) (hk : a.kinds.getD 0 0 ≠ c) (hq : RelQ q a) (hg : a.good) (h : ∀ b q', b.good → RelQ q' b → b.dead = true → Rq ((runM (callN n) k b ms).bind F) (K false q') e) : Rq ((runM (callN n) (.fail 201 k) a ms).bind F) (cX W .b .ref qExpect.n [.rdr 0, .int c] q K) e := by
 obtain ⟨q', h1, h2⟩ := W_qExpect hq hg.took (fun hk' => absurd hk' hk) hc
 rw [decide_eq_false hk] at h1
 rw [if_neg hk] at h2
 rw [cX_b h1]
 exact h _ q' (good_fail hg 201) h2 (fail_dead' 201)
theorem Rq.expect {c : Int} {k : M} {K : Bool → QS → Option (AV × QS)} (hc : c ≠ 0) (hq : RelQ q a) (hg : a.good) (h1 : ∀ b q', b.good → RelQ q' b → (b.dead = false → a.dead = false) → Rq ((runM (callN n) k b ms).bind F) (K true q') e) (h2 : ∀ b q', b.good → RelQ q' b → (b.dead = false → a.dead = false) → Rq ((runM (callN n) k b ms).bind F) (K false q') e) :
  Rq ((runM (callN n) (expect c k) a ms).bind F) (cX W .b .ref qExpect.n [.rdr 0, .int c] q K) e := by
 refine Rq.xkind ?_
 by_cases hk : a.kinds.getD 0 0 = c
 ·rw [if_pos hk]
  exact Rq.expY hc hk hq hg fun b q' _ hb hq' hl => h1 b q' hb hq' hl
 ·rw [if_neg hk]
  exact Rq.expN hc hk hq hg fun b q' hb hq' hd => h2 b q' hb hq' (fun hc => by rw [hd] at hc; cases hc)
theorem Rq.none_ {k : M} {K : Unit → QS → Option (AV × QS)} (hq : RelQ q a) (hg : a.good) (h : ∀ b q', b.good → RelQ q' b → (b.dead = false → a.dead = false) → Rq ((runM (callN n) k b ms).bind F) (K () q') e) : Rq ((runM (callN n) (.none_ k) a ms).bind F) (cX W .u .ref qNone.n [.rdr 0] q K) e := by
 intro r b hx
 simp only [runM] at hx
 split at hx
 ·rename_i hr
  obtain ⟨q', h1, h2⟩ := W_qNone hq hg.took hr
  rw [cX_u h1]
  exact h _ q' (good_none hg hr) h2 (fun hc => by
   cases hd : a.dead with
   | false => rfl
   | true => rw [none_dead hd, hd] at hc; exact hc) r b hx
 ·cases hx
theorem Rq.close {hh : Nat} {kd m : Int} {k : M} {K : Unit → QS → Option (AV × QS)} (hm : a.dead = false → m = ms.getD hh 0) (hq : RelQ q a) (hg : a.good) (h : ∀ b q', b.good → RelQ q' b → (b.dead = false → a.dead = false) → Rq ((runM (callN n) k b ms).bind F) (K () q') e) : Rq ((runM (callN n) (.close hh kd k) a ms).bind F) (cX W .u .ref qClose.n [.rdr 0, .int m, .int kd] q K) e := by
 intro r b hx
 simp only [runM] at hx
 split at hx
 ·rename_i hr
  obtain ⟨q', h1, h2⟩ := W_qClose hq hg hr (ms.getD hh 0) m kd hm
  rw [cX_u h1]
  exact h _ q' (good_close hg hr _ kd) h2 (fun hc => by
   cases hd : a.dead with
   | false => rfl
   | true => rw [close_dead hd, hd] at hc; exact hc) r b hx
 ·cases hx
theorem Rq.down {k : Bool → M} {K : Bool → QS → Option (AV × QS)} (hq : RelQ q a) (hg : a.good) (h1 : ∀ b q', b.good → RelQ q' b → (b.dead = false → a.dead = false) → Rq ((runM (callN n) (k true) b ms).bind F) (K true q') e) (h2 : ∀ b q', b.good → RelQ q' b → b.dead = true → Rq ((runM (callN n) (k false) b ms).bind F) (K false q') e) : Rq ((runM (callN n) (.down k) a ms).bind F) (cX W .b .ref qDown.n [.rdr 0] q K) e := by
 obtain ⟨q', g1, g2⟩ := W_qDown hq hg.took
 rw [cX_b g1]
 show Rq ((runM (callN n) (k a.down.1) a.down.2 ms).bind F) _ e
 have hgd := good_down hg
 have hx : (a.down.1 = true ∧ a.dead = false) ∨ (a.down.1 = false ∧ a.down.2.dead = true) := by
  unfold A.down A.dead
  cases hd : a.dg with
  | some d => exact .inr ⟨rfl, by simp [hd]⟩
  | none =>
   simp only
   split
   ·exact .inr ⟨rfl, by unfold A.fail; simp [hd]⟩
   ·exact .inl ⟨rfl, rfl⟩
 rcases hx with ⟨hx1, hx2⟩ | ⟨hx1, hx2⟩
 ·rw [hx1]; exact h1 _ q' hgd g2 (fun _ => hx2)
 ·rw [hx1]; exact h2 _ q' hgd g2 hx2
theorem Rq.up {k : M} {K : Unit → QS → Option (AV × QS)} (hq : RelQ q a) (hg : a.good) (h : ∀ b q', b.good → RelQ q' b → (b.dead = false → a.dead = false) → Rq ((runM (callN n) k b ms).bind F) (K () q') e) : Rq ((runM (callN n) (.up k) a ms).bind F) (cX W .u .ref qUp.n [.rdr 0] q K) e := by
 obtain ⟨q', g1, g2⟩ := W_qUp hq hg.took
 rw [cX_u g1]
 exact h _ q' (good_up hg) g2 id
theorem live_of_call {pr : Proc} {r : Int} {b : A} (hc : callN n pr a ms = some (r, b)) : b.dead = false → a.dead = false := by
 intro hb
 cases hd : a.dead with
 | false => rfl
 | true => rw [(callN_dead n pr a ms r b hd hc).dead hd] at hb; cases hb
theorem Rq.callU {pr : Proc} {hs : List Nat} {k : Int → M} {f : Nat} {args : List AV} {K : Unit → QS → Option (AV × QS)} {u : Int → AV → Prop} (hg : a.good) (H : Rq (callN n pr a (hs.map fun h => ms.getD h 0)) (W .ref f args q) u)
  (h : ∀ r b q', b.good → RelQ q' b → (b.dead = false → a.dead = false) → Rq ((runM (callN n) (k r) b ms).bind F) (K () q') e) : Rq ((runM (callN n) (.call pr hs k) a ms).bind F) (cX W .u .ref f args q K) e := by
 intro r b hx
 simp only [runM] at hx
 split at hx
 ·rename_i r1 b1 hc
  obtain ⟨w, q', h1, _, h2⟩ := H _ _ hc
  rw [cX_u h1]
  exact h _ _ q' (callN_good n pr a _ _ _ hg hc).1 h2 (live_of_call hc) r b hx
 ·cases hx
theorem Rq.callU0 {pr : Proc} {k : Int → M} {f : Nat} {args : List AV} {K : Unit → QS → Option (AV × QS)} {u : Int → AV → Prop} (hg : a.good) (H : Rq (callN n pr a []) (W .ref f args q) u)
  (h : ∀ r b q', b.good → RelQ q' b → (b.dead = false → a.dead = false) → Rq ((runM (callN n) (k r) b ms).bind F) (K () q') e) : Rq ((runM (callN n) (.call pr [] k) a ms).bind F) (cX W .u .ref f args q K) e := Rq.callU hg H h
theorem Rq.callB {pr : Proc} {hs : List Nat} {k : Int → M} {f : Nat} {args : List AV} {K : Bool → QS → Option (AV × QS)} (hg : a.good) (H : Rq (callN n pr a (hs.map fun h => ms.getD h 0)) (W .ref f args q) PB)
  (h : ∀ r b q', b.good → RelQ q' b → (b.dead = false → a.dead = false) → Rq ((runM (callN n) (k r) b ms).bind F) (K (decide (r ≠ 0)) q') e) : Rq ((runM (callN n) (.call pr hs k) a ms).bind F) (cX W .b .ref f args q K) e := by
 intro r b hx
 simp only [runM] at hx
 split at hx
 ·rename_i r1 b1 hc
  obtain ⟨w, q', h1, h3, h2⟩ := H _ _ hc
  rw [h3] at h1
  rw [cX_b h1]
  exact h _ _ q' (callN_good n pr a _ _ _ hg hc).1 h2 (live_of_call hc) r b hx
 ·cases hx
theorem Rq.tail {pr : Proc} {hs : List Nat} {y : Option (AV × QS)} (H : Rq (callN n pr a (hs.map fun h => ms.getD h 0)) y e) : Rq ((runM (callN n) (.call pr hs .ret) a ms).bind some) y e := by
 intro r b hx
 simp only [runM] at hx
 split at hx
 ·rename_i r1 b1 hc
  simp only [Option.bind_some, Option.some.injEq, Prod.mk.injEq] at hx
  obtain ⟨rfl, rfl⟩ := hx
  exact H _ _ hc
 ·cases hx
theorem Rq.piece {t t' : M} {k : M} {f : Nat} {args : List AV} {K : Unit → QS → Option (AV × QS)} {u : Int → AV → Prop} (hg : a.good) (hs : ∀ cf : Proc → A → List Int → Option (Int × A), runM cf t a ms = (runM cf t' a ms).bind fun rb => runM cf k rb.2 ms) (H : Rq (runM (callN n) t' a ms) (W .ref f args q) u)
  (h : ∀ b q', b.good → RelQ q' b → (b.dead = false → a.dead = false) → Rq ((runM (callN n) k b ms).bind F) (K () q') e) : Rq ((runM (callN n) t a ms).bind F) (cX W .u .ref f args q K) e := by
 intro r b hx
 rw [hs] at hx
 cases hc : runM (callN n) t' a ms with
 | none => rw [hc] at hx; cases hx
 | some rb =>
  obtain ⟨r1, b1⟩ := rb
  rw [hc] at hx
  obtain ⟨w, q', h1, _, h2⟩ := H _ _ hc
  rw [cX_u h1]
  refine h b1 q' (runM_good (fun pr a ms r b => callN_good n pr a ms r b) t' a ms r1 b1 hg hc).1 h2 (fun hb => ?_) r b hx
  cases hd : a.dead with
  | false => rfl
  | true => rw [(runM_dead (fun pr a ms r b => callN_dead n pr a ms r b) t' a ms r1 b1 hd hc).dead hd] at hb; cases hb
def SF (F : Int × A → Option (Int × A)) : Prop := ∀ rb r b, rb.2.dead = true → F rb = some (r, b) → Stuck rb.2 b
theorem SF.some : SF Option.some := by
 intro rb r b _ h
 simp only [Option.some.injEq] at h
 subst h; exact ⟨rfl, rfl, rfl⟩
theorem SF.bind {N : Nat} {t : Int × A → M} {s : Int × A → List Int} (h : SF F) : SF (fun rb => (runM (callN N) (t rb) rb.2 (s rb)).bind F) := by
 intro rb r b hd hx
 cases hc : runM (callN N) (t rb) rb.2 (s rb) with
 | none => simp only [hc] at hx; cases hx
 | some rc =>
  simp only [hc, Option.bind_some] at hx
  have := runM_dead (fun pr a ms r b => callN_dead N pr a ms r b) (t rb) rb.2 (s rb) rc.1 rc.2 hd hc
  exact this.trans (h rc r b (this.dead hd) hx)
def Fc (N : Nat) (kd : Int) (ms : List Int) : Int × A → Option (Int × A) := fun rb => (runM (callN N) (.close 0 kd done) rb.2 ms).bind some
def Fk (N : Nat) (ms : List Int) : Int × A → Option (Int × A) := fun rb => (runM (callN N) (.close 0 rb.1 done) rb.2 ms).bind some
theorem SF.Fc {N : Nat} {kd : Int} {ms : List Int} : SF (Fc N kd ms) := SF.bind SF.some
theorem SF.Fk {N : Nat} {ms : List Int} : SF (Fk N ms) := SF.bind SF.some
theorem Rq.fk {v : Int} {y : Option (AV × QS)} {N : Nat} (h : Rq ((runM (callN N) (.close 0 v done) a ms).bind some) y e) : Rq (Fk N ms (v, a)) y e := h
theorem Rq.fc {v kd : Int} {y : Option (AV × QS)} {N : Nat} (h : Rq ((runM (callN N) (.close 0 kd done) a ms).bind some) y e) : Rq (Fc N kd ms (v, a)) y e := h
theorem Rq.stop {t : M} {u : AV} (hd : a.dead = true) (hF : SF F) (hq : RelQ q a) (he : ∀ r, e r u) : Rq ((runM (callN n) t a ms).bind F) (some (u, q)) e := by
 intro r b hx
 cases hc : runM (callN n) t a ms with
 | none => rw [hc] at hx; cases hx
 | some rc =>
  rw [hc] at hx
  simp only [Option.bind_some] at hx
  have := runM_dead (fun pr a ms r b => callN_dead n pr a ms r b) t a ms rc.1 rc.2 hd hc
  exact ⟨u, q, rfl, he r, hq.stuck hd (this.trans (hF rc r b (this.dead hd) hx))⟩
theorem Rq.tailF {pr : Proc} {hs : List Nat} {y : Option (AV × QS)} (H : Rq ((callN n pr a (hs.map fun h => ms.getD h 0)).bind F) y e) : Rq ((runM (callN n) (.call pr hs .ret) a ms).bind F) y e := by
 have : runM (callN n) (.call pr hs .ret) a ms = callN n pr a (hs.map fun h => ms.getD h 0) := by
  simp only [runM]
  cases callN n pr a (hs.map fun h => ms.getD h 0) with
  | none => rfl
  | some x => rfl
 rw [this]; exact H
theorem Rq.tcY {x : Option (Int × A)} {ks : List Int} {K : Bool → QS → Option (AV × QS)} (hk : ks.length < 1099511627776) (hc : comesF ks a.kinds = true) (hq : RelQ q a) (hg : a.good) (h1 : Rq x (K true q) e) : Rq x (cX W .b .ref qcomes.n [.rdr 0, .sl .int ks] q K) e := by
 rw [cX_b (W_qcomes hq hg.took ks hk), hc]; exact h1
theorem Rq.tcN {x : Option (Int × A)} {ks : List Int} {K : Bool → QS → Option (AV × QS)} (hk : ks.length < 1099511627776) (hc : comesF ks a.kinds = false) (hq : RelQ q a) (hg : a.good) (h1 : Rq x (K false q) e) : Rq x (cX W .b .ref qcomes.n [.rdr 0, .sl .int ks] q K) e := by
 rw [cX_b (W_qcomes hq hg.took ks hk), hc]; exact h1
theorem Rq.tend {x : Option (Int × A)} {f : Nat} {args : List AV} (H : Rq x (W .ref f args q) e) : Rq x (cX W .u .ref f args q fun _ p => some (.undef, p)) P0 := by
 intro r b hx
 obtain ⟨u, q', h1, _, h2⟩ := H r b hx
 rw [cX_u h1]
 exact ⟨_, q', rfl, trivial, h2⟩
theorem Rq.tcallU {x : Option (Int × A)} {f : Nat} {args : List AV} {K : Unit → QS → Option (AV × QS)} {G : Int × A → Option (Int × A)} {u : Int → AV → Prop} (H : Rq x (W .ref f args q) u) (hgx : ∀ r b, x = some (r, b) → b.good) (h : ∀ r b q', x = some (r, b) → b.good → RelQ q' b → Rq (G (r, b)) (K () q') e) : Rq (x.bind G) (cX W .u .ref f args q K) e := by
 intro r b hx
 cases hc : x with
 | none => rw [hc] at hx; cases hx
 | some rc =>
  obtain ⟨r1, b1⟩ := rc
  obtain ⟨w, q', h1, _, h2⟩ := H r1 b1 hc
  rw [cX_u h1]
  rw [hc] at hx
  exact h r1 b1 q' hc (hgx r1 b1 hc) h2 r b hx
theorem Rq.stopB {x : Option (Int × A)} {u : AV} (hd : a.dead = true) (hq : RelQ q a) (he : ∀ r, e r u) (hx : ∀ r b, x = some (r, b) → Stuck a b) : Rq x (some (u, q)) e := by
 intro r b hc
 exact ⟨u, q, rfl, he r, hq.stuck hd (hx r b hc)⟩
theorem Rq.tdead {x : Option (Int × A)} {y1 y2 : Option (AV × QS)} (hq : RelQ q a) (h1 : a.dead = false → Rq x y1 e) (h2 : a.dead = true → Rq x y2 e) : Rq x (if (!q.failed) = true then y1 else y2) e := by
 rw [hq.f]
 cases hd : a.dead with
 | true => simpa using h2 hd
 | false => simpa using h1 hd
theorem Rq.tdead' {x : Option (Int × A)} {y1 y2 : Option (AV × QS)} (hq : RelQ q a) (h1 : a.dead = true → Rq x y1 e) (h2 : a.dead = false → Rq x y2 e) : Rq x (if q.failed = true then y1 else y2) e := by
 rw [hq.f]
 cases hd : a.dead with
 | true => simpa using h1 hd
 | false => simpa using h2 hd
theorem Rq.dead {k : Bool → M} {y1 y2 : Option (AV × QS)} (hq : RelQ q a) (h1 : a.dead = false → Rq ((runM (callN n) (k false) a ms).bind F) y1 e) (h2 : a.dead = true → Rq ((runM (callN n) (k true) a ms).bind F) y2 e) : Rq ((runM (callN n) (.dead k) a ms).bind F) (if (!q.failed) = true then y1 else y2) e := by
 refine Rq.xdead (Rq.tdead hq (fun hd => ?_) (fun hd => ?_))
 ·rw [hd]; exact h1 hd
 ·rw [hd]; exact h2 hd
theorem Rq.mono {k : Nat} {pr : Proc} {ms : List Int} {y : Option (AV × QS)} (hk : k ≤ n) (h : Rq (callN n pr a ms) y e) : Rq (callN k pr a ms) y e := fun r b hx => h r b (callN_mono hk hx)
theorem Rq.weak {x : Option (Int × A)} {y : Option (AV × QS)} {e' : Int → AV → Prop} (h : Rq x y e) (he : ∀ r u, e r u → e' r u) : Rq x y e' := by
 intro r b hx
 obtain ⟨u, q', h1, h2, h3⟩ := h r b hx
 exact ⟨u, q', h1, he r u h2, h3⟩
theorem comes1 {k : Int} (hk : k ≠ 0) (l : List Int) : comesF [k] l = decide (l.getD 0 0 = k) := by
 unfold comesF
 by_cases hx : l.getD 0 0 = k
 ·rw [hx, decide_eq_true hk, decide_eq_true rfl]; simp
 ·rw [decide_eq_false hx]
  have : ([k] : List Int).contains (l.getD 0 0) = false := by
   simp only [List.contains_cons, List.contains_nil, Bool.or_false, beq_eq_false_iff_ne]; exact hx
  rw [this, Bool.and_false]
end
end Go.AI.Rd
namespace Go.AI.Rd
def Wp (m : M) (a : A) (ms : List Int) (Q : Int → A → Prop) : Prop := ∃ n r b, runM (callN n) m a ms = some (r, b) ∧ Q r b
theorem Wp.mono {m : M} {a : A} {ms : List Int} {Q Q' : Int → A → Prop} (h : Wp m a ms Q) (hq : ∀ r b, Q r b → Q' r b) : Wp m a ms Q' := by
 obtain ⟨n, r, b, h1, h2⟩ := h
 exact ⟨n, r, b, h1, hq r b h2⟩
theorem runM_le {n k : Nat} (h : n ≤ k) {m : M} {a : A} {ms : List Int} {r : Int × A} (hr : runM (callN n) m a ms = some r) : runM (callN k) m a ms = some r :=
 runM_mono (fun pr a ms r hc => callN_mono h hc) m a ms r hr
section
variable {a : A} {ms : List Int} {Q : Int → A → Prop}
theorem Wp.ret {v : Int} (h : Q v a) : Wp (.ret v) a ms Q := ⟨0, v, a, rfl, h⟩
theorem Wp.look {f : List Int → Int} {k : Int → M} (h : Wp (k (f a.kinds)) a ms Q) : Wp (.look f k) a ms Q := h
theorem Wp.lookB {f : List Int → Bool} {k : Bool → M} (h : Wp (k (f a.kinds)) a ms Q) : Wp (.lookB f k) a ms Q := h
theorem Wp.deadq {k : Bool → M} (h : Wp (k a.dead) a ms Q) : Wp (.dead k) a ms Q := h
theorem Wp.last {k : Int → M} (h : Wp (k a.last) a ms Q) : Wp (.last k) a ms Q := h
theorem Wp.take {k : M} (hr : a.room = true) (h : Wp k a.take ms Q) : Wp (.take k) a ms Q := by
 obtain ⟨n, r, b, h1, h2⟩ := h
 exact ⟨n, r, b, by simp only [runM, hr, if_true]; exact h1, h2⟩
theorem Wp.none_ {k : M} (hr : a.room = true) (h : Wp k a.none_ ms Q) : Wp (.none_ k) a ms Q := by
 obtain ⟨n, r, b, h1, h2⟩ := h
 exact ⟨n, r, b, by simp only [runM, hr, if_true]; exact h1, h2⟩
theorem Wp.mark {k : M} (hr : a.dead = true ∨ ms.length < 4294967264) (h : Wp k a (ms ++ [(a.row.length : Int)]) Q) : Wp (.mark k) a ms Q := by
 obtain ⟨n, r, b, h1, h2⟩ := h
 refine ⟨n, r, b, ?_, h2⟩
 simp only [runM]
 rw [if_pos (by rcases hr with hr | hr <;> simp [hr])]
 exact h1
theorem Wp.close {hh : Nat} {kd : Int} {k : M} (hr : a.room = true) (h : Wp k (a.close (ms.getD hh 0) kd) ms Q) : Wp (.close hh kd k) a ms Q := by
 obtain ⟨n, r, b, h1, h2⟩ := h
 exact ⟨n, r, b, by simp only [runM, hr, if_true]; exact h1, h2⟩
theorem Wp.gap {hh : Nat} {k : M} (hr : a.room = true) (h : Wp k (a.gap (ms.getD hh 0)) ms Q) : Wp (.gap hh k) a ms Q := by
 obtain ⟨n, r, b, h1, h2⟩ := h
 exact ⟨n, r, b, by simp only [runM, hr, if_true]; exact h1, h2⟩
theorem Wp.down {k : Bool → M} (h : Wp (k a.down.1) a.down.2 ms Q) : Wp (.down k) a ms Q := h
theorem Wp.up {k : M} (h : Wp k a.up ms Q) : Wp (.up k) a ms Q := h
theorem Wp.fail {c : Int} {k : M} (h : Wp k (a.fail c) ms Q) : Wp (.fail c k) a ms Q := h
theorem Wp.lit {hh : Nat} {head : Bool} {k : Bool → M} (hr : a.dead = true ∨ a.litOK (ms.getD hh 0) = true) (h : Wp (k (a.lit (ms.getD hh 0) head)) a ms Q) : Wp (.lit hh head k) a ms Q := by
 obtain ⟨n, r, b, h1, h2⟩ := h
 refine ⟨n, r, b, ?_, h2⟩
 simp only [runM]
 rw [if_pos (by rcases hr with hr | hr <;> rw [hr] <;> simp)]
 exact h1
theorem Wp.names {ns : List Bool} {k : M} (hr : a.dead = true ∨ (ns.length < 4294967264 ∧ entsOK a.row 0 (entsOf ms ns) = true)) (h : Wp k (a.names (entsOf ms ns)) ms Q) : Wp (.names ns k) a ms Q := by
 obtain ⟨n, r, b, h1, h2⟩ := h
 refine ⟨n, r, b, ?_, h2⟩
 simp only [runM]
 rw [if_pos (by rcases hr with hr | hr <;> simp [hr])]
 exact h1
theorem Wp.group {ns : List Bool} {any : Bool} {k : M} (hr : a.dead = true ∨ (ns.length < 4294967264 ∧ a.room = true ∧ entsOK a.row 0 (entsOf ms ns) = true)) (h : Wp k (a.group any (entsOf ms ns)) ms Q) : Wp (.group ns any k) a ms Q := by
 obtain ⟨n, r, b, h1, h2⟩ := h
 refine ⟨n, r, b, ?_, h2⟩
 simp only [runM]
 rw [if_pos (by rcases hr with hr | hr <;> simp [hr])]
 exact h1
theorem Wp.call {pr : Proc} {hs : List Nat} {k : Int → M} (h : Wp (body pr) a (hs.map fun h => ms.getD h 0) fun r b => Wp (k r) b ms Q) : Wp (.call pr hs k) a ms Q := by
 obtain ⟨n, r, b, h1, n2, r2, b2, h3, h4⟩ := h
 refine ⟨max (n + 1) n2, r2, b2, ?_, h4⟩
 simp only [runM]
 have h5 : callN (n + 1) pr a (hs.map fun h => ms.getD h 0) = some (r, b) := h1
 rw [callN_mono (Nat.le_max_left (n + 1) n2) h5]
 exact runM_le (Nat.le_max_right (n + 1) n2) h3
end
def SR (a b : A) : Prop := b.dg = a.dg ∧ b.pre = a.pre ∧ b.rest = a.rest ∧ b.row = a.row
theorem SR.refl (a : A) : SR a a := ⟨rfl, rfl, rfl, rfl⟩
theorem SR.trans {a b c : A} (h : SR a b) (k : SR b c) : SR a c := ⟨k.1.trans h.1, k.2.1.trans h.2.1, k.2.2.1.trans h.2.2.1, k.2.2.2.trans h.2.2.2⟩
theorem SR.dead {a b : A} (h : SR a b) (hd : a.dead = true) : b.dead = true := by unfold A.dead at hd ⊢; rw [h.1]; exact hd
theorem SR.room {a b : A} (h : SR a b) (hr : a.room = true) : b.room = true := by rw [room_iff] at hr ⊢; rw [h.2.2.1, h.2.2.2]; exact hr
def DW (m : M) : Prop := ∀ a ms, a.dead = true → a.room = true → Wp m a ms fun _ b => SR a b
theorem comesF_nil (ks : List Int) : comesF ks [] = false := by unfold comesF; simp
theorem DW.ret {v : Int} : DW (.ret v) := fun a ms _ _ => Wp.ret (SR.refl a)
theorem DW.look {f : List Int → Int} {k : Int → M} (h : DW (k (f []))) : DW (.look f k) := fun a ms hd hr => Wp.look (by rw [kinds_dead hd]; exact h a ms hd hr)
theorem DW.lookB {f : List Int → Bool} {k : Bool → M} (h : DW (k (f []))) : DW (.lookB f k) := fun a ms hd hr => Wp.lookB (by rw [kinds_dead hd]; exact h a ms hd hr)
theorem DW.kind {k : Int → M} (h : DW (k 0)) : DW (kind k) := DW.look h
theorem DW.comes {ks : List Int} {k : Bool → M} (h : DW (k false)) : DW (comes ks k) := DW.lookB (by rw [comesF_nil]; exact h)
theorem DW.deadq {k : Bool → M} (h : DW (k true)) : DW (.dead k) := fun a ms hd hr => Wp.deadq (by rw [hd]; exact h a ms hd hr)
theorem DW.take {k : M} (h : DW k) : DW (.take k) := fun a ms hd hr => Wp.take hr (by rw [take_dead hd]; exact h a ms hd hr)
theorem DW.none_ {k : M} (h : DW k) : DW (.none_ k) := fun a ms hd hr => Wp.none_ hr (by rw [none_dead hd]; exact h a ms hd hr)
theorem DW.mark {k : M} (h : DW k) : DW (.mark k) := fun a ms hd hr => Wp.mark (.inl hd) (h a _ hd hr)
theorem DW.close {hh : Nat} {kd : Int} {k : M} (h : DW k) : DW (.close hh kd k) := fun a ms hd hr => Wp.close hr (by rw [close_dead hd]; exact h a ms hd hr)
theorem DW.down {k : Bool → M} (h : DW (k false)) : DW (.down k) := fun a ms hd hr => Wp.down (by rw [down_dead hd]; exact h a ms hd hr)
theorem DW.up {k : M} (h : DW k) : DW (.up k) := fun a ms hd hr => Wp.up ((h a.up ms hd hr).mono fun r b hb => SR.trans (b := a.up) ⟨rfl, rfl, rfl, rfl⟩ hb)
theorem DW.fail {c : Int} {k : M} (h : DW k) : DW (.fail c k) := fun a ms hd hr => Wp.fail (by rw [fail_dead hd]; exact h a ms hd hr)
theorem DW.lit {hh : Nat} {head : Bool} {k : Bool → M} (h : ∀ c, DW (k c)) : DW (.lit hh head k) := fun a ms hd hr => Wp.lit (.inl hd) (h _ a ms hd hr)
theorem DW.names {ns : List Bool} {k : M} (h : DW k) : DW (.names ns k) := fun a ms hd hr => Wp.names (.inl hd) (by rw [names_dead hd]; exact h a ms hd hr)
theorem DW.group {ns : List Bool} {any : Bool} {k : M} (h : DW k) : DW (.group ns any k) := fun a ms hd hr => Wp.group (.inl hd) (by rw [group_dead hd]; exact h a ms hd hr)
theorem DW.call {pr : Proc} {hs : List Nat} {k : Int → M} (hp : DW (body pr)) (h : ∀ r, DW (k r)) : DW (.call pr hs k) := fun a ms hd hr =>
 Wp.call ((hp a _ hd hr).mono fun r b hb => (h r b ms (hb.dead hd) (hb.room hr)).mono fun r' c hc => hb.trans hc)
theorem DW.expect {c : Int} {k : M} (hc : c ≠ 0) (h : DW k) : DW (expect c k) := DW.kind (by rw [if_neg (Ne.symm hc)]; exact DW.fail h)
theorem DW.taken {ks : List Int} {k : Bool → M} (h : DW (k false)) : DW (taken ks k) := DW.comes (by rw [if_neg (by decide)]; exact h)
theorem DW.go {pr : Proc} {k : M} (hp : DW (body pr)) (h : DW k) : DW (go pr k) := DW.call hp fun _ => h
theorem DW.done : DW done := DW.ret
theorem D_deeper (pr : Proc) : DW (body (.deeper pr)) := by
 simp only [body]; exact DW.down (by rw [if_neg (by decide)]; exact DW.done)
theorem D_X (h : Bool) : DW (body (.X h)) := by simp only [body]; exact DW.go (D_deeper _) DW.done
theorem D_Type : DW (body .Type) := by simp only [body]; exact DW.go (D_deeper _) DW.done
theorem D_takeP : DW (body .takeP) := by simp only [body]; exact DW.take DW.done
theorem D_node (k : Int) {pr : Proc} (h : DW (body pr)) : DW (body (.node k pr)) := by simp only [body]; exact DW.mark (DW.go h (DW.close DW.done))
theorem D_itemsL (pr : Proc) : DW (body (.itemsL pr)) := by simp only [body, itemsM]; exact DW.deadq (by rw [if_pos rfl]; exact DW.expect (by decide) DW.done)
theorem D_items (pr : Proc) : DW (body (.items pr)) := by simp only [body]; exact DW.expect (by decide) (DW.call (D_itemsL pr) fun _ => DW.ret)
theorem D_Name : DW (body .Name) := by simp only [body]; exact DW.kind (by rw [if_neg (by decide)]; exact DW.fail DW.done)
theorem D_operand : DW (body .operand) := by
 simp only [body]
 refine DW.mark (DW.kind ?_)
 rw [if_neg (by decide), if_neg (by decide), if_neg (by decide), if_neg (by decide), if_neg (by decide)]
 exact DW.fail DW.done
theorem D_primaryL (h : Bool) : DW (body (.primaryL h)) := by
 simp only [body]
 refine DW.kind ?_
 rw [if_neg (by decide), if_neg (by decide), if_neg (by decide), if_neg (by decide)]
 exact DW.done
theorem D_primary (h : Bool) : DW (body (.primary h)) := by simp only [body]; exact DW.mark (DW.go D_operand (DW.call (D_primaryL h) fun _ => DW.ret))
theorem D_unary (h : Bool) : DW (body (.unary h)) := by
 simp only [body]
 refine DW.kind ?_
 rw [if_neg (by decide), if_neg (by decide)]
 exact DW.go (D_primary h) DW.done
theorem D_binaryL (p : Int) (h : Bool) : DW (body (.binaryL p h)) := by
 simp only [body]
 refine DW.look ?_
 rw [if_neg (by decide)]
 exact DW.done
theorem D_binary (p : Int) (h : Bool) : DW (body (.binary p h)) := by simp only [body]; exact DW.mark (DW.go (D_unary h) (DW.call (D_binaryL p h) fun _ => DW.ret))
theorem D_X1 (h : Bool) : DW (body (.X1 h)) := by simp only [body]; exact DW.go (D_binary 1 h) DW.done
theorem D_unary1 (h : Bool) : DW (body (.unary1 h)) := by simp only [body]; exact DW.go (D_unary h) DW.done
theorem D_period : DW (body .period) := by
 simp only [body]
 refine DW.kind ?_
 rw [if_neg (by decide)]
 refine DW.expect (by decide) (DW.taken ?_)
 rw [if_neg (by decide)]
 exact DW.go D_Type (DW.expect (by decide) DW.ret)
theorem D_unless (ks : List Int) : DW (body (.unless ks)) := by
 simp only [body]
 refine DW.comes ?_
 rw [if_neg (by decide)]
 exact DW.go (D_X false) DW.done
theorem D_indexL : DW (body .indexL) := by
 simp only [body]
 refine DW.taken ?_
 rw [if_neg (by decide)]
 exact DW.expect (by decide) DW.ret
theorem D_index : DW (body .index) := by
 simp only [body]
 refine DW.go (D_unless _) (DW.taken ?_)
 rw [if_neg (by decide)]
 exact DW.call D_indexL fun _ => DW.ret
theorem D_argsL : DW (body .argsL) := by simp only [body]; exact DW.deadq (by rw [if_pos rfl]; exact DW.expect (by decide) DW.done)
theorem D_arguments : DW (body .arguments) := by simp only [body]; exact DW.call D_argsL fun _ => DW.ret
theorem D_value : DW (body .value) := by
 simp only [body]
 refine DW.kind ?_
 rw [if_neg (by decide)]
 exact DW.go (D_X false) DW.done
theorem D_valuesL : DW (body .valuesL) := by simp only [body]; exact DW.deadq (by rw [if_pos rfl]; exact DW.expect (by decide) DW.done)
theorem D_values : DW (body .values) := by simp only [body]; exact DW.expect (by decide) (DW.call D_valuesL fun _ => DW.ret)
theorem D_value1 : DW (body .value1) := by simp only [body]; exact DW.go (D_node 214 D_values) DW.done
theorem D_flatL (n : Int) : DW (body (.flatL n)) := by
 simp only [body]
 refine DW.kind ?_
 rw [if_pos rfl]
 exact DW.fail DW.done
theorem D_flat : DW (body .flat) := by simp only [body]; exact DW.call (D_flatL 0) fun _ => DW.ret
theorem D_ListL (h : Bool) : DW (body (.ListL h)) := by
 simp only [body]
 refine DW.taken ?_
 rw [if_neg (by decide)]
 exact DW.done
theorem D_List1 (h : Bool) : DW (body (.List1 h)) := by simp only [body]; exact DW.go (D_X h) (DW.call (D_ListL h) fun _ => DW.ret)
theorem D_List (h : Bool) : DW (body (.List h)) := by simp only [body]; exact DW.go (D_node _ (D_List1 h)) DW.done
theorem D_form : DW (body .form) := by
 simp only [body]
 refine DW.mark (DW.kind ?_)
 rw [if_neg (by decide), if_neg (by decide), if_neg (by decide), if_neg (by decide), if_neg (by decide), if_neg (by decide), if_neg (by decide), if_neg (by decide)]
 exact DW.fail DW.done
theorem D_formL : DW (body .formL) := by
 simp only [body]
 refine DW.taken ?_
 rw [if_neg (by decide)]
 exact DW.expect (by decide) (DW.close DW.done)
theorem D_elements : DW (body .elements) := by
 simp only [body, elemsM]
 refine DW.taken ?_
 rw [if_neg (by decide)]
 refine DW.comes ?_
 rw [if_neg (by decide)]
 exact DW.go (D_X false) (DW.expect (by decide) (DW.go D_Type DW.ret))
theorem D_qualified : DW (body .qualified) := by
 simp only [body]
 refine DW.mark (DW.go D_Name (DW.taken ?_))
 rw [if_neg (by decide)]
 exact DW.done
theorem D_fieldL : DW (body .fieldL) := by
 simp only [body]
 refine DW.taken ?_
 rw [if_neg (by decide)]
 exact DW.go D_Type (DW.close DW.done)
theorem D_field : DW (body .field) := by
 simp only [body]
 refine DW.mark (DW.comes ?_)
 rw [if_neg (by decide)]
 refine DW.lookB ?_
 rw [if_neg (by decide)]
 exact DW.go D_Name (DW.call D_fieldL fun _ => DW.ret)
theorem D_unionL (more : Bool) : DW (body (.unionL more)) := by
 simp only [body]
 refine DW.mark (DW.taken ?_)
 rw [if_neg (by decide)]
 refine DW.go D_Type (DW.taken ?_)
 rw [if_neg (by decide)]
 exact DW.ret
theorem D_union : DW (body .union) := by simp only [body]; exact DW.call (D_unionL false) fun _ => DW.ret
theorem D_groupM (ns : List Bool) : DW (groupM ns) := by
 unfold groupM
 split
 ·exact DW.names (DW.group (DW.expect (by decide) DW.done))
 ·exact DW.group (DW.expect (by decide) DW.done)
theorem D_ParamsL (ns : List Bool) : DW (body (.ParamsL ns)) := by simp only [body]; exact DW.deadq (by rw [if_pos rfl]; exact D_groupM ns)
theorem D_Params1 : DW (body .Params1) := by simp only [body]; exact DW.expect (by decide) (DW.call (D_ParamsL []) fun _ => DW.ret)
theorem D_Params : DW (body .Params) := by simp only [body]; exact DW.go (D_node _ D_Params1) DW.done
theorem D_Sig1 : DW (body .Sig1) := by
 simp only [body]
 refine DW.go D_Params (DW.kind ?_)
 rw [if_neg (by decide), if_neg (by decide)]
 exact DW.none_ DW.done
theorem D_Sig : DW (body .Sig) := by simp only [body]; exact DW.go (D_node _ D_Sig1) DW.done
theorem D_element : DW (body .element) := by
 simp only [body]
 refine DW.mark (DW.lookB ?_)
 rw [if_neg (by decide)]
 exact DW.go D_union (DW.close DW.done)
theorem D_entry1 : DW (body .entry1) := by simp only [body]; exact DW.take (DW.go D_Type DW.done)
theorem D_entry : DW (body .entry) := by
 simp only [body, entryM]
 refine DW.lookB ?_
 rw [if_neg (by decide)]
 refine DW.comes ?_
 rw [if_neg (by decide)]
 exact DW.go D_Type DW.ret
theorem D_TParamsL (more : Bool) : DW (body (.TParamsL more)) := by
 simp only [body]
 split
 ·exact DW.deadq (by rw [if_pos rfl]; exact DW.expect (by decide) DW.done)
 ·exact DW.expect (by decide) DW.done
theorem D_TParams1 : DW (body .TParams1) := by simp only [body]; exact DW.expect (by decide) (DW.call (D_TParamsL true) fun _ => DW.ret)
theorem D_TParams : DW (body .TParams) := by simp only [body]; exact DW.go (D_node _ D_TParams1) DW.done
theorem D_TParams11L : DW (body .TParams11L) := by
 simp only [body]
 refine DW.taken ?_
 rw [if_neg (by decide)]
 refine DW.mark (DW.call D_union fun r => ?_)
 split
 ·exact DW.close DW.done
 ·exact DW.done
theorem D_TParams11 : DW (body .TParams11) := by simp only [body]; exact DW.go D_Name (DW.call D_TParams11L fun _ => DW.ret)
theorem D_all : ∀ pr, DW (body pr)
 | .deeper pr => D_deeper pr
 | .node k pr => D_node k (D_all pr)
 | .takeP => D_takeP
 | .items pr => D_items pr
 | .itemsL pr => D_itemsL pr
 | .X h => D_X h
 | .X1 h => D_X1 h
 | .binary q h => D_binary q h
 | .binaryL q h => D_binaryL q h
 | .unary h => D_unary h
 | .unary1 h => D_unary1 h
 | .primary h => D_primary h
 | .primaryL h => D_primaryL h
 | .period => D_period
 | .index => D_index
 | .unless ks => D_unless ks
 | .indexL => D_indexL
 | .arguments => D_arguments
 | .argsL => D_argsL
 | .value => D_value
 | .value1 => D_value1
 | .values => D_values
 | .valuesL => D_valuesL
 | .operand => D_operand
 | .flat => D_flat
 | .flatL n => D_flatL n
 | .Name => D_Name
 | .List h => D_List h
 | .List1 h => D_List1 h
 | .ListL h => D_ListL h
 | .Type => D_Type
 | .form => D_form
 | .formL => D_formL
 | .elements => D_elements
 | .qualified => D_qualified
 | .field => D_field
 | .fieldL => D_fieldL
 | .element => D_element
 | .union => D_union
 | .unionL more => D_unionL more
 | .Sig => D_Sig
 | .Sig1 => D_Sig1
 | .Params => D_Params
 | .Params1 => D_Params1
 | .ParamsL ns => D_ParamsL ns
 | .entry => D_entry
 | .entry1 => D_entry1
 | .TParams => D_TParams
 | .TParams1 => D_TParams1
 | .TParamsL more => D_TParamsL more
 | .TParams11 => D_TParams11
 | .TParams11L => D_TParams11L
theorem dead_ends : ∀ m : M, DW m := by
 intro m
 induction m with
 | ret v => exact DW.ret
 | look f k ih => exact DW.look (ih _)
 | lookB f k ih => exact DW.lookB (ih _)
 | dead k ih => exact DW.deadq (ih _)
 | take k ih => exact DW.take ih
 | none_ k ih => exact DW.none_ ih
 | mark k ih => exact DW.mark ih
 | close hh kd k ih => exact DW.close ih
 | gap hh k ih => exact fun a ms hd hr => Wp.gap hr (by rw [gap_dead hd]; exact ih a ms hd hr)
 | last k ih => exact fun a ms hd hr => Wp.last (ih _ a ms hd hr)
 | down k ih => exact DW.down (ih _)
 | up k ih => exact DW.up ih
 | fail c k ih => exact DW.fail ih
 | lit hh head k ih => exact DW.lit fun c => ih c
 | names ns k ih => exact DW.names ih
 | group ns any k ih => exact DW.group ih
 | call pr hs k ih => exact DW.call (D_all pr) fun r => ih r
end Go.AI.Rd
