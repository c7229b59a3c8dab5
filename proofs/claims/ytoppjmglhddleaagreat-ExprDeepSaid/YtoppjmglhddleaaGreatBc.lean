/- DERIVED. THE EVALUATOR, THE READER, THE SCANNER: lemmas for Deep. -/
import Derived.Test.YtoppjmglhddleaaGreatBb
import Derived.Laws.BytesArg
import Derived.Laws.Slices
import Derived.Laws.Strings3
set_option linter.unusedVariables false
set_option linter.unusedSimpArgs false
namespace Go.AI
structure TabOK (P : Program) (tab : Tab) : Prop where
 ty : ∀ T ty, tab.ty T = some ty → TyOK P tab.tid T ty
 eqs : ∀ T a, findN tab.eqs T = some a → eqOKb P T a = true
 cvs : ∀ T a, findN tab.cvs T = some a → cvOKb P T a = true
def opFine (N : Nat) (o : Oper) : Bool :=
 (match o.dst with | some d => Nat.blt d N | none => true) && (match o.op with | .store .. => o.dst.isNone | _ => true)
section
variable {tab : Tab} {call : (τ : STy) → Nat → List AV → τ.T → Option (AV × τ.T)} {τ : STy} {c c' : Cx} {σ σ' : St} {B : Base} {N : Nat} {a : Act} {w w' : World} {P : Program}
theorem TabOK.el (hTab : TabOK P tab) {T : Nat} : ∀ e, tab.elOf T = some e → ElOK P tab.tid T e := by
 intro e he
 unfold Tab.elOf at he
 split at he
 ·rename_i ty hty
  exact ⟨((hTab.ty T ty hty).el e he).1, ((hTab.ty T ty hty).el e he).2⟩
 ·cases he
theorem run_callFunc {f : Nat} (h : Goes P f) (args : Array Value) (w : World) : (callFunc f args).run P w = .ok (.enter f args) w := by
 obtain ⟨fn, h1, h2, h3⟩ := h
 have h2' : ¬ fn.name = "runtime.NumGoroutine" := by simpa using h2
 cases hb : fn.body with
 | none => simp [hb] at h3
 | some b => simp [callFunc, h1, h2', hb]
theorem one_fz {x : AV} (h : x.one = true) : x.fz = true := by cases x <;> first | rfl | simp [AV.one] at h
theorem list_map_getD {α β : Type} (f : α → β) (l : List α) (d : β) (i : Nat) (hi : i < l.length) : (l.map f).getD i d = f (l[i]) := by
 rw [List.getD_eq_getElem?_getD, List.getElem?_map, List.getElem?_eq_getElem hi]; rfl
theorem args_ok (h : Rel tab.tid B N c σ a w) (args : Array Operand) : (args.toList.map (getO σ.t)).length = (args.toList.map a.eval).length ∧ ∀ i, i < (args.toList.map (getO σ.t)).length → AR tab.tid c σ ((args.toList.map (getO σ.t)).getD i .undef) ((args.toList.map a.eval).getD i Go.undef) := by
 refine ⟨by simp, fun i hi => ?_⟩
 have hi : i < args.toList.length := by simpa using hi
 rw [list_map_getD _ _ _ _ hi, list_map_getD _ _ _ _ hi]
 exact h.getO _
theorem bound_ok (h : Rel tab.tid B N c σ a w) (x : Option Operand) : (optO σ.t x = none ∧ x.map a.eval = none) ∨ (∃ n, optO σ.t x = some (.int n)) ∨ (∃ y, optO σ.t x = some y ∧ ∀ n, y ≠ .int n) := by
 cases x with
 | none => exact .inl ⟨rfl, rfl⟩
 | some x =>
  refine .inr ?_
  cases hx : getO σ.t x <;> first
   | exact .inl ⟨_, congrArg some hx⟩
   | exact .inr ⟨_, congrArg some hx, fun n h => by cases h⟩
theorem boundR (h : Rel tab.tid B N c σ a w) {x : Option Operand} (hx : ∀ y, optO σ.t x = some y → ∃ n, y = .int n) : BoundR c (optO σ.t x) (x.map a.eval) := by
 cases x with
 | none => trivial
 | some x =>
  obtain ⟨n, hn⟩ := hx _ rfl
  have hr := h.getO x
  show BoundR c (some (getO σ.t x)) (some (a.eval x))
  rw [hn] at hr ⊢
  generalize a.eval x = v at hr
  cases hr.to_F tab.tid rfl
  rfl
theorem sliceK_bounds {E : Option El} {x : AV} {lo hi : Option AV} {R : Type} {K : AV → Option R} {r : R} (h : sliceK E σ x lo hi K = some r) : (∀ y, lo = some y → ∃ n, y = .int n) ∧ (∀ y, hi = some y → ∃ n, y = .int n) := by
 unfold sliceK at h
 split at h <;> (try (cases h; done)) <;> split at h <;> (try (cases h; done)) <;> split at h <;> (try (cases h; done)) <;> exact ⟨fun y hy => (by first | (cases hy; done) | (cases hy; exact ⟨_, rfl⟩)), fun y hy => (by first | (cases hy; done) | (cases hy; exact ⟨_, rfl⟩))⟩
theorem eq_tail {P : Program} {w : World} {tid : El → Nat} {op : BinOp} {T : Nat} {X Y : Operand} {z : AV} {v u : Value} {b : Bool} (hg : (eqGuard op T X Y v u).run P w = .ok () w) (he : (Op.equal T v u).run P w = .ok b w) (h1 : ∀ k n, v ≠ .int k n) (h2 : binOp .eql T v u = (do pure (.bool (← Op.equal T v u)))) (h3 : binOp .neq T v u = (do pure (.bool (!(← Op.equal T v u)))))
  (hz : eqAV op b = some z) : ∃ r, (do eqGuard op T X Y v u; binOp op T v u : Sem Value).run P w = .ok r w ∧ AR tid c σ z r := by
 unfold eqAV at hz
 split at hz <;> simp only [Option.some.injEq, reduceCtorEq] at hz <;> subst hz <;> simp only [Sem.run_bind, hg, Result.andThen_ok]
 ·exact ⟨.bool b, by rw [h2]; simp [he], AR.of_F tid (.bool _)⟩
 ·exact ⟨.bool (!b), by rw [h3]; simp [he], AR.of_F tid (.bool _)⟩
theorem ik_ok {k : IntKind} {op : BinOp} {T : Nat} {X Y : Operand} {p q : Int} {z : AV} (hz : ikAV op k p q = some z) :
  ∃ r, (do eqGuard op T X Y (.int k p) (.int k q); binOp op T (.int k p) (.int k q) : Sem Value).run P w = .ok r w ∧ AR tab.tid c σ z r := by
 have hg : (eqGuard op T X Y (.int k p) (.int k q)).run P w = .ok () w := by unfold eqGuard; split <;> rfl
 unfold ikAV at hz
 split at hz
 ·rename_i y hy
  simp only [Option.some.injEq] at hz
  subst hz
  refine ⟨.int k y, ?_, AR.of_F tab.tid (.ik _ _)⟩
  unfold arI at hy
  split at hy <;> simp only [Option.some.injEq, reduceCtorEq] at hy <;> subst hy <;> simp only [Sem.run_bind, hg, Result.andThen_ok] <;> simp [binOp, Op.intArith, Op.intBits, andI, orI]
 ·unfold cmpAV at hz
  split at hz <;> simp only [Option.some.injEq, reduceCtorEq] at hz <;> subst hz <;> simp only [Sem.run_bind, hg, Result.andThen_ok] <;> refine ⟨.bool _, ?_, AR.of_F tab.tid (.bool _)⟩ <;> simp [binOp, Op.intCmp] <;> rfl
theorem i64_ok {op : BinOp} {T : Nat} {X Y : Operand} {p q : Int} {z : AV} {v u : Value} (hx : AR tab.tid c σ (.int p) v) (hy : AR tab.tid c σ (.int q) u) (hz : i64AV op p q = some z) :
  ∃ r, (do eqGuard op T X Y v u; binOp op T v u : Sem Value).run P w = .ok r w ∧ AR tab.tid c σ z r := by
 unfold i64AV at hz
 split at hz
 all_goals first
  | exact bin_ok hx hy hz
  | skip
 all_goals
  cases hx.to_F tab.tid rfl
  cases hy.to_F tab.tid rfl
  have hg : ∀ op, (eqGuard op T X Y (.int .i64 p) (.int .i64 q)).run P w = .ok () w := by intro op; unfold eqGuard; split <;> rfl
 ·simp only [Option.some.injEq] at hz; subst hz
  exact ⟨.int .i64 _, by simp only [Sem.run_bind, hg, Result.andThen_ok]; simp [binOp, Op.intArith], AR.of_F tab.tid (.int _)⟩
 ·simp only [Option.some.injEq] at hz; subst hz
  exact ⟨.int .i64 _, by simp only [Sem.run_bind, hg, Result.andThen_ok]; simp [binOp, Op.intBits]; rfl, AR.of_F tab.tid (.int _)⟩
 ·simp only [Option.some.injEq] at hz; subst hz
  exact ⟨.int .i64 _, by simp only [Sem.run_bind, hg, Result.andThen_ok]; simp [binOp, Op.intBits]; rfl, AR.of_F tab.tid (.int _)⟩
theorem binT_ok (hTab : TabOK P tab) {op : BinOp} {T : Nat} {X Y : Operand} {x y z : AV} {v u : Value} (hx : AR tab.tid c σ x v) (hy : AR tab.tid c σ y u) (hz : binT tab op T x y = some z) :
  ∃ r, (do eqGuard op T X Y v u; binOp op T v u : Sem Value).run P w = .ok r w ∧ AR tab.tid c σ z r := by
 unfold binT at hz
 split at hz
 ·exact i64_ok hx hy hz
 ·rename_i k p k' q
  split at hz
  rotate_left
  ·cases hz
  rename_i hk
  subst hk
  cases hx.to_F tab.tid rfl
  cases hy.to_F tab.tid rfl
  exact ik_ok hz
 ·rename_i p q
  cases hx.to_F tab.tid rfl
  cases hy.to_F tab.tid rfl
  have hg : ∀ op, (eqGuard op T X Y (.string p) (.string q)).run P w = .ok () w := by intro op; unfold eqGuard; split <;> rfl
  unfold strAV at hz
  split at hz
  ·simp only [Option.some.injEq] at hz; subst hz
   exact ⟨.bool _, by simp only [Sem.run_bind, hg, Result.andThen_ok, binOp, Op.stringOp]; rfl, AR.of_F tab.tid (.bool _)⟩
  ·simp only [Option.some.injEq] at hz; subst hz
   exact ⟨.bool _, by simp only [Sem.run_bind, hg, Result.andThen_ok, binOp, Op.stringOp]; rfl, AR.of_F tab.tid (.bool _)⟩
  ·cases hz
 ·rename_i p q
  split at hz
  rotate_left
  ·cases hz
  rename_i he
  cases hx.to_F tab.tid rfl
  cases hy.to_F tab.tid rfl
  have hg : (eqGuard op T X Y (.bool p) (.bool q)).run P w = .ok () w := by unfold eqGuard; split <;> rfl
  exact eq_tail hg (eqb_run (hTab.eqs T false he) p q) (by intro k n h; cases h) rfl rfl hz
 ·rename_i l m
  split at hz
  rotate_left
  ·cases hz
  rename_i he hl hm
  have d3 : ∀ {l : List AV} {a : Tok}, decTok l = some a → l = [.int a.k, .int a.f, .int a.t] := by
   intro l a h
   unfold decTok at h
   split at h <;> simp only [Option.some.injEq, reduceCtorEq] at h
   subst h; rfl
  rename_i a b
  rw [d3 hl] at hx
  rw [d3 hm] at hy
  have f3 : ∀ {a : Tok} {v : Value}, AR tab.tid c σ (.agg [.int a.k, .int a.f, .int a.t]) v → v = .agg #[.int .i64 a.k, .int .i64 a.f, .int .i64 a.t] := by
   intro a v h
   obtain ⟨vs, rfl, hlen, hA⟩ := h
   have hA0 := hA 0 (by simp)
   have hA1 := hA 1 (by simp)
   have hA2 := hA 2 (by simp)
   obtain ⟨x0, x1, x2, rfl⟩ : ∃ x0 x1 x2, vs = [x0, x1, x2] := by
    match vs, hlen with
    | [x0, x1, x2], _ => exact ⟨x0, x1, x2, rfl⟩
   simp only [List.getD_cons_zero, List.getD_cons_succ] at hA0 hA1 hA2
   cases A1.to_F tab.tid hA0 rfl
   cases A1.to_F tab.tid hA1 rfl
   cases A1.to_F tab.tid hA2 rfl
   rfl
  rw [f3 hx, f3 hy]
  exact eq_tail (eqg_run (hTab.eqs T true he) op X Y _ _) (eq3_run (hTab.eqs T true he) _ _ _ _ _ _) (by intro k n h; cases h) rfl rfl hz
 ·cases hz
theorem lenT_ok (hTab : TabOK P tab) {T ty : Nat} {R : Type} {K : AV → Option R} {r : R} (h : Rel tab.tid B N c σ a w) {x : AV} {v : Value} (hx : AR tab.tid c σ x v) (hK : lenT tab T σ x K = some r) :
  ∃ n : Int, K (.int n) = some r ∧ (Builtin.len_ #[T] ty #[v]).run P w = .ok (.int .i64 n) w := by
 unfold lenT at hK
 split at hK
 ·rename_i n hn
  unfold strLen at hn
  split at hn
  rotate_left
  ·cases hn
  rename_i s
  split at hn
  rotate_left
  ·cases hn
  rename_i hT
  simp only [Option.some.injEq] at hn
  subst hn
  have hu := cvOK_str (hTab.cvs T .str hT)
  cases hx.to_F tab.tid rfl
  exact ⟨_, hK, by simp [Builtin.len_, run_underlying hu, goInt]⟩
 ·exact len_ok hTab.el h hx hK
theorem binP_ok {op : BinOp} {T : Nat} {X Y : Operand} {x y z : AV} {v u : Value} (hx : AR tab.tid c σ x v) (hy : AR tab.tid c σ y u) (hz : binP op x y = .may true z) :
  ∃ r, (do eqGuard op T X Y v u; binOp op T v u : Sem Value).run P w = .ok r w ∧ AR tab.tid c σ z r := by
 have sh : ∀ {p : Int} {k : IntKind} {q : Int}, shG op p q = .may true z → ∃ r, (do eqGuard op T X Y (.int .i64 p) (.int k q); binOp op T (.int .i64 p) (.int k q) : Sem Value).run P w = .ok r w ∧ AR tab.tid c σ z r := by
  intro p k q hz
  have hg : ∀ op, (eqGuard op T X Y (.int .i64 p) (.int k q)).run P w = .ok () w := by intro op; unfold eqGuard; split <;> rfl
  unfold shG at hz
  split at hz <;> simp only [GV.may.injEq, decide_eq_true_eq, reduceCtorEq] at hz
  all_goals
   obtain ⟨hq, hz⟩ := hz
   subst hz
   exact ⟨.int .i64 _, by simp only [Sem.run_bind, hg, Result.andThen_ok, binOp, Op.shift]; rw [if_neg (by omega)]; rfl, AR.of_F tab.tid (.int _)⟩
 unfold binP at hz
 split at hz
 ·cases hx.to_F tab.tid rfl
  cases hy.to_F tab.tid rfl
  exact sh hz
 ·cases hx.to_F tab.tid rfl
  cases hy.to_F tab.tid rfl
  exact sh hz
 ·rename_i p q
  cases hx.to_F tab.tid rfl
  cases hy.to_F tab.tid rfl
  have hg : ∀ op, (eqGuard op T X Y (.string p) (.string q)).run P w = .ok () w := by intro op; unfold eqGuard; split <;> rfl
  split at hz <;> simp only [GV.may.injEq, decide_eq_true_eq, reduceCtorEq] at hz
  obtain ⟨hlen, hz⟩ := hz
  subst hz
  refine ⟨.string (p ++ q), ?_, AR.of_F tab.tid (.str _)⟩
  have hm : ¬ (((p.size + q.size : Nat) : Int) > IntKind.i64.max) := by
   have : IntKind.i64.max = 9223372036854775807 := by decide
   omega
  simp only [Sem.run_bind, hg, Result.andThen_ok, binOp, Op.stringOp]
  rw [if_neg hm]; rfl
 ·cases hz
theorem gK_some {R : Type} {o : GV} {K : AV → Option R} {r : R} (h : gK o K = some r) : ∃ a, (o = .may true a ∨ o = .sure a) ∧ K a = some r := by
 unfold gK at h
 split at h
 ·exact ⟨_, .inr rfl, h⟩
 ·rename_i g a
  cases g
  ·cases h
  ·exact ⟨a, .inl rfl, h⟩
 ·cases h
theorem binG_ok (hTab : TabOK P tab) {op : BinOp} {T : Nat} {X Y : Operand} {x y z : AV} {v u : Value} (hx : AR tab.tid c σ x v) (hy : AR tab.tid c σ y u) (hz : binG tab op T x y = .may true z ∨ binG tab op T x y = .sure z) :
  ∃ r, (do eqGuard op T X Y v u; binOp op T v u : Sem Value).run P w = .ok r w ∧ AR tab.tid c σ z r := by
 unfold binG at hz
 split at hz
 ·rename_i g a hr
  rcases hz with hz | hz
  ·cases hz; exact binP_ok hx hy hr
  ·cases hz
 ·split at hz
  ·rename_i a ha
   rcases hz with hz | hz
   ·cases hz
   ·cases hz; exact binT_ok hTab hx hy ha
  ·rcases hz with hz | hz <;> cases hz
theorem optO_int (h : Rel tab.tid B N c σ a w) {x : Option Operand} : (optO σ.t x = none → x.map a.eval = none) ∧ ∀ n, optO σ.t x = some (.int n) → x.map a.eval = some (.int .i64 n) := by
 cases x with
 | none => exact ⟨fun _ => rfl, fun n h => by cases h⟩
 | some x =>
  refine ⟨fun h => (by cases h), fun n hn => ?_⟩
  have hr := h.getO x
  rw [Option.some.inj hn] at hr
  show some (a.eval x) = _
  generalize a.eval x = v at hr
  cases hr.to_F tab.tid rfl
  rfl
theorem cut_ok (hTab : TabOK P tab) (h : Rel tab.tid B N c σ a w) {T : Nat} {x z : AV} {v : Value} {lo hi : Option Operand} (hx : AR tab.tid c σ x v) (hz : cutG tab T x (optO σ.t lo) (optO σ.t hi) = .may true z) :
  ∃ r, (Instr.sliceAt T v (lo.map a.eval) (hi.map a.eval) none).run P w = .ok r w ∧ AR tab.tid c σ z r := by
 unfold cutG at hz
 split at hz
 rotate_left
 ·cases hz
 rename_i s
 split at hz
 rotate_left
 ·cases hz
 rename_i hT
 have hu := cvOK_str (hTab.cvs T .str hT)
 cases hx.to_F tab.tid rfl
 have l1 := optO_int h (x := lo)
 have l2 := optO_int h (x := hi)
 split at hz <;> simp only [GV.may.injEq, Bool.and_eq_true, decide_eq_true_eq, reduceCtorEq] at hz
 ·rename_i e1 e2
  obtain ⟨⟨h1, h2⟩, rfl⟩ := hz
  rw [l1.1 e1, l2.2 _ e2]
  exact ⟨_, by rw [run_sliceAt_string _ _ _ _ _ _ hu, run_slice_string_to_if _ _ _ _ _ hu, if_pos ⟨h1, h2⟩], AR.of_F tab.tid (.str _)⟩
 ·rename_i e1 e2
  obtain ⟨⟨h1, h2⟩, rfl⟩ := hz
  rw [l1.2 _ e1, l2.1 e2]
  exact ⟨_, by rw [run_sliceAt_string _ _ _ _ _ _ hu, run_slice_string_from_if _ _ _ _ _ hu, if_pos ⟨h1, h2⟩], AR.of_F tab.tid (.str _)⟩
 ·rename_i e1 e2
  obtain ⟨⟨h1, h2, h3⟩, rfl⟩ := hz
  rw [l1.2 _ e1, l2.2 _ e2]
  exact ⟨_, by rw [run_sliceAt_string _ _ _ _ _ _ hu, run_slice_string _ _ _ _ _ _ _ hu h1 h2 h3], AR.of_F tab.tid (.str _)⟩
theorem bytes_ok {S D : Nat} {l : List Int} {v : Value} (hS : cvOKb P S .bytes = true) (hD : cvOKb P D .str = true) (hx : FRel w c.S c.g (.sl .u8 l) v) : (convert S D v).run P w = .ok (.string (strOfL l)) w := by
 have hd := cvOK_str hD
 obtain ⟨e, he, hb⟩ : ∃ e, P.underlying S = some (.slice e) ∧ P.underlying e = some (.int .u8) := by
  unfold cvOKb at hS
  cases hu : P.underlying S with
  | none => rw [hu] at hS; cases hS
  | some d =>
   rw [hu] at hS
   cases d <;> first | (cases hS; done) | skip
   rename_i e
   refine ⟨e, rfl, ?_⟩
   simp only at hS
   split at hS
   ·assumption
   ·cases hS
 generalize hl : AV.sl .u8 l = x at hx
 cases hx with
 | sl0 e1 b n =>
  injection hl with h1 h2
  subst h1
  have h2 := eq_of_heq h2
  subst h2
  cases b with
  | none => exact run_convert_bytes_nil w S e he hb _ _ D hd
  | some ad =>
   rw [run_convert_bytes_string w S D e _ _ _ he hb hd]
   simp [Conv.bytesToString, loadCells]
   rfl
 | sl e1 xs b off n V hc hn hV hm =>
  injection hl with h1 h2
  subst h1
  have h2 := eq_of_heq h2
  subst h2
  refine run_convert_bytes_arg w S e he hb b off _ _ l rfl (fun i hi => ?_) D hd
  have h3 := (hm i 0 hi (by decide)).2
  have h4 := hV i 0 hi (by decide)
  have e5 : (El.enc .u8 (l.getD i (El.dflt .u8))).getD 0 .undef = .ik .u8 (l.getD i 0) := rfl
  rw [e5] at h4
  generalize V i 0 = y at h3 h4
  cases h4
  have e6 : off + i * El.sz .u8 + 0 = off + i := by simp [El.sz]
  rw [e6] at h3
  exact h3
 | _ => cases hl
theorem op_ok (hTab : TabOK P tab) (hcall : CallsOK tab.tid P call) {o : Oper} (hfine : opFine N o = true) (h : Rel tab.tid B N c σ a w) (hs : stepOp tab call τ o σ some = some σ')
  {next : Act → World → Prop} {Q : Exit → Act → World → Prop} (hn : ∀ c' a' w', Rel tab.tid B N c' σ' a' w' → next a' w') : o.wp P a w next Q := by
 obtain ⟨dst, op, type, pos, after, guard⟩ := o
 simp only [opFine, Bool.and_eq_true] at hfine
 obtain ⟨hd0, hst⟩ := hfine
 have hd : ∀ x, dst = some x → x < N := by
  intro x hx; subst hx; exact Nat.le_of_ble_eq_true hd0
 clear hd0
 -- a value that is put, in the world as it is
 have val : ∀ {x : AV} {v : Value}, (execOp a.eval ⟨dst, op, type, pos, after, guard⟩).run P w = .ok (.value v) w → AR tab.tid c σ x v → some (σ.put dst x) = some σ' → Oper.wp P ⟨dst, op, type, pos, after, guard⟩ a w next Q := by
  intro x v hr hx he
  simp only [Option.some.injEq] at he
  subst he
  unfold Oper.wp
  rw [hr]
  exact hn _ _ _ (h.put hd hx)
 -- a value that is put, in another world
 have any : ∀ {v : Value} {w' : World} {c' : Cx}, (execOp a.eval ⟨dst, op, type, pos, after, guard⟩).run P w = .ok (.value v) w' → Rel tab.tid B N c' σ' (a.put dst v) w' → Oper.wp P ⟨dst, op, type, pos, after, guard⟩ a w next Q := by
  intro v w' c' hr hx
  unfold Oper.wp
  rw [hr]
  exact hn _ _ _ hx
 have skp : ∀ {w' : World} {c' : Cx}, (execOp a.eval ⟨dst, op, type, pos, after, guard⟩).run P w = .ok .skip w' → dst = none → Rel tab.tid B N c' σ' a w' → Oper.wp P ⟨dst, op, type, pos, after, guard⟩ a w next Q := by
  intro w' c' hr he hx
  unfold Oper.wp
  rw [hr]
  subst he
  exact hn _ _ _ hx
 cases op with
 | move x => exact val rfl (h.getO x) hs
 | assign x => exact val rfl (h.getO x) hs
 | pick x y z =>
  simp only [stepOp] at hs
  split at hs
  rotate_left
  ·cases hs
  rename_i b hb
  have hr := h.getO x
  rw [hb] at hr
  have hv : a.eval x = .bool b := by generalize a.eval x = v at hr; cases hr.to_F tab.tid rfl; rfl
  cases b
  ·exact val (v := a.eval z) (by simp [execOp, hv, asBool]) (h.getO z) hs
  ·exact val (v := a.eval y) (by simp [execOp, hv, asBool]) (h.getO y) hs
 | alloc T =>
  simp only [stepOp] at hs
  split at hs
  rotate_left
  ·cases hs
  rename_i d
  split at hs
  rotate_left
  ·cases hs
  rename_i ty hb hT
  simp only [Option.some.injEq] at hs
  subst hs
  obtain ⟨v, w', c', r1, r2⟩ := alloc_ok (hTab.ty T ty hT) h (hd d rfl) hb
  exact any (v := v) (w' := w') (by simp [execOp, r1]) r2
 | box T x =>
  simp only [stepOp] at hs
  split at hs
  rotate_left
  ·cases hs
  rename_i d ty hT
  split at hs
  ·split at hs
   rotate_left
   ·cases hs
   rename_i hb hl hc
   simp only [Option.some.injEq] at hs
   subst hs
   have hl := Nat.eq_of_beq_eq_true hl
   obtain ⟨v, w', c', r1, r2⟩ := box_ok (P := P) (T := T) h (hd d rfl) hb (h.getO x) hc (fun e => by rw [e] at hl; have := (hTab.ty T ty hT).pos; simp at hl; omega)
   exact any (v := v) (w' := w') (by simp [execOp, r1]) r2
  ·split at hs
   rotate_left
   ·cases hs
   rename_i ho
   simp only [Option.some.injEq] at hs
   subst hs
   obtain ⟨v, w', c', r1, r2⟩ := cbox_ok (P := P) (T := T) h (hd d rfl) (h.getO x) ho
   exact any (v := v) (w' := w') (by simp [execOp, r1]) r2
 | build T parts =>
  simp only [stepOp] at hs
  split at hs
  rotate_left
  ·cases hs
  rename_i ty hT
  split at hs
  rotate_left
  ·cases hs
  rename_i l hne hf
  obtain ⟨v, r1, r2⟩ := build_ok (hTab.ty T ty hT) h (fun e => by rw [e] at hne; simp at hne) hf
  exact val (v := v) (by simp [execOp, r1]) r2 hs
 | buildSlice T n parts =>
  simp only [stepOp] at hs
  split at hs
  ·split at hs
   rotate_left
   ·cases hs
   rename_i e he hp
   obtain ⟨ii, z, h5, h6, h7, h8, _, _⟩ := (hTab.el e he).info
   have hp0 : parts = #[] := by cases parts; simpa using hp
   subst hp0
   simp only [Option.some.injEq] at hs
   subst hs
   refine any (v := .slice (some ⟨w.heap.size, 0, none⟩) 0 0) (w' := w.alloc (.cells #[] (tab.tid e))) ?_ ((h.new (.cells #[] (tab.tid e)) false).put hd (AR.of_F tab.tid (.nil _)))
   have e0 : Array.range 0 = #[] := rfl
   simp [execOp, Instr.buildSlice, run_underlying (hTab.el e he).und, sizeOf, typeInfo, h5, Instr.fill, newRow, e0]
  ·split at hs
   rotate_left
   ·cases hs
   rename_i hn0 _ _ _ _ e l σ1 he hf hdn
   simp only [Bool.and_eq_true] at hdn
   split at hs
   rotate_left
   ·cases hs
   rename_i xs hx
   obtain ⟨v, w', c', r1, r2, r3⟩ := buildSlice_ok (T := T) (hTab.el e he) h hf hdn.1 (Nat.eq_of_beq_eq_true hdn.2.1) (by rcases Nat.eq_zero_or_pos n with e | e; exact absurd e ‹_›; exact e) (Nat.le_of_ble_eq_true hdn.2.2) hx
   simp only [Option.some.injEq] at hs
   subst hs
   exact any (v := v) (w' := w') (by simp [execOp, r1]) (r2.put hd r3)
 | load T x =>
  simp only [stepOp] at hs
  split at hs
  rotate_left
  ·cases hs
  rename_i ty hT
  split at hs
  rotate_left
  ·cases hs
  rename_i y hl
  obtain ⟨ad, v, r1, r2, r3⟩ := load_ok (hTab.ty T ty hT) h (h.getO x) hl
  exact val (v := v) (by simp [execOp, Instr.loadAt, Instr.sureAddr, r1, r2]) r3 hs
 | store T x y =>
  simp only [stepOp] at hs
  split at hs
  rotate_left
  ·cases hs
  rename_i ty hT
  split at hs
  rotate_left
  ·cases hs
  rename_i σ1 hl
  simp only [Option.some.injEq] at hs
  subst hs
  have hdn : dst = none := by simpa using hst
  have fin : ∀ {ad w' c'}, a.eval x = .pointer (some ad) → (storeVar T ad (a.eval y)).run P w = .ok () w' → Rel tab.tid B N c' σ1 a w' → Oper.wp P ⟨dst, .store T x y, type, pos, after, guard⟩ a w next Q := by
   intro ad w' c' r1 r2 r3
   exact skp (w' := w') (by simp [execOp, Instr.storeAt, Instr.sureAddr, r1, r2]) hdn r3
  by_cases ho : ∃ k w e z i o, getO σ.t x = .opt k w e z i o
  ·obtain ⟨k, ver, e, z, i, o, ho⟩ := ho
   have hp := h.getO x
   rw [ho] at hl hp
   obtain ⟨ad, w', c', r1, r2, r3⟩ := optStore_ok (hTab.ty T ty hT) h hp (h.getO y) hl
   exact fin r1 r2 r3
  ·obtain ⟨ad, w', c', r1, r2, r3⟩ := store_ok (hTab.ty T ty hT) h (h.getO x) (h.getO y) (fun k w e z i o e' => ho ⟨k, w, e, z, i, o, e'⟩) hl
   exact fin r1 r2 r3
 | nilCheck x =>
  simp only [stepOp] at hs
  split at hs
  rotate_left
  ·cases hs
  rename_i y hp
  obtain ⟨ad, r1, r2⟩ := addPt_ok (h.getO x) hp
  have e : ad.add 0 = ad := by unfold Addr.add; split <;> simp_all
  rw [e] at r2
  exact val (v := .pointer (some ad)) (by simp [execOp, r1]) r2 hs
 | binOp op T x y T' =>
  simp only [stepOp] at hs
  obtain ⟨z, hz, hs⟩ := gK_some hs
  obtain ⟨r, r1, r2⟩ := binG_ok hTab (w := w) (X := x) (Y := y) (h.getO x) (h.getO y) hz
  refine val (v := r) ?_ r2 hs
  simp only [execOp, Sem.run_bind] at r1 ⊢
  rw [r1]; rfl
 | unOp op T x =>
  cases op with
  | not =>
   simp only [stepOp] at hs
   split at hs
   rotate_left
   ·cases hs
   rename_i b hb
   have hr := h.getO x
   rw [hb] at hr
   have hv : a.eval x = .bool b := by generalize a.eval x = v at hr; cases hr.to_F tab.tid rfl; rfl
   exact val (v := .bool (!b)) (by simp [execOp, hv, Op.unary]) (AR.of_F tab.tid (.bool _)) hs
  | _ => simp [stepOp] at hs
 | makeFunc fn fst cap =>
  cases fn with
  | func f =>
   simp only [stepOp] at hs
   split at hs
   rotate_left
   ·cases hs
   rename_i o1 o2
   have h1 := args_ok h fst
   have h2 := args_ok h cap
   refine val (v := .func (.func f) (fst.map a.eval) (cap.map a.eval)) (by simp [execOp, Instr.makeFunc]) ?_ hs
   have e1 : (fst.map a.eval) = (fst.toList.map a.eval).toArray := by rw [← Array.toList_map, Array.toArray_toList]
   have e2 : (cap.map a.eval) = (cap.toList.map a.eval).toArray := by rw [← Array.toList_map, Array.toArray_toList]
   rw [e1, e2]
   refine AR.of_F tab.tid (.clos f _ _ _ _ h1.1 h2.1 o1 o2 (fun i hi => ?_) (fun i hi => ?_))
   ·exact (h1.2 i hi).to_F tab.tid (one_fz (one_of_all o1 i hi))
   ·exact (h2.2 i hi).to_F tab.tid (one_fz (one_of_all o2 i hi))
  | _ => simp [stepOp] at hs
 | slice T x lo hi mx =>
  cases mx with
  | some _ => simp [stepOp] at hs
  | none =>
   simp only [stepOp] at hs
   unfold sliceT at hs
   split at hs
   ·rename_i q qa hq
    obtain ⟨z, hz, hs⟩ := gK_some hs
    rcases hz with hz | hz
    rotate_left
    ·cases hz
    cases hz
    obtain ⟨r, r1, r2⟩ := cut_ok hTab h (h.getO x) hq
    exact val (v := r) (by simp [execOp, r1]) r2 hs
   have hb := sliceK_bounds hs
   obtain ⟨y, u, r1, r2, r3⟩ := slice_ok hTab.el h (h.getO x) (boundR h hb.1) (boundR h hb.2) hs
   exact val (v := u) (by simp [execOp, r2]) r3 r1
 | fieldAddr T x f =>
  simp only [stepOp] at hs
  split at hs
  rotate_left
  ·cases hs
  rename_i ty hT
  split at hs
  rotate_left
  ·cases hs
  rename_i n hf
  split at hs
  rotate_left
  ·cases hs
  rename_i y hp
  obtain ⟨ad, r1, r2⟩ := addPt_ok (h.getO x) hp
  exact val (v := .pointer (some (ad.add n))) (by simp [execOp, r1, run_fieldAt (hTab.ty T ty hT) hf]) r2 hs
 | indexAddr T x i =>
  simp only [stepOp] at hs
  split at hs
  rotate_left
  ·cases hs
  rename_i n hi
  have hr := h.getO i
  rw [hi] at hr
  have hv : a.eval i = .int .i64 n := by generalize a.eval i = v at hr; cases hr.to_F tab.tid rfl; rfl
  obtain ⟨y, ad, r1, r2, r3⟩ := idx_ok hTab.el h (h.getO x) hs
  exact val (v := .pointer (some ad)) (by simp [execOp, hv, r2]) r3 r1
 | field T x f =>
  simp only [stepOp] at hs
  split at hs
  rotate_left
  ·cases hs
  rename_i ty l ty' hT hx hT'
  split at hs
  rotate_left
  ·cases hs
  rename_i n q hf hq
  split at hs
  rotate_left
  ·cases hs
  rename_i y he hy
  have he := Nat.eq_of_beq_eq_true he
  subst he
  have hr := h.getO x
  rw [hx] at hr
  obtain ⟨u, r1, r2⟩ := field_ok (P := P) (w := w) (hTab.ty T ty hT) (hTab.ty _ ty' hT') hf hq hr hy
  exact val (v := u) (by simp [execOp, r1]) r2 hs
 | index T x i =>
  simp only [stepOp] at hs
  obtain ⟨z, hz, hs⟩ := gK_some hs
  unfold idxG at hz
  split at hz
  rotate_left
  ·rcases hz with hz | hz <;> cases hz
  rename_i s n hx hi
  split at hz
  rotate_left
  ·rcases hz with hz | hz <;> cases hz
  rename_i hT
  simp only [GV.may.injEq, Bool.and_eq_true, decide_eq_true_eq, reduceCtorEq, or_false] at hz
  obtain ⟨⟨h0, h1⟩, hz⟩ := hz
  subst hz
  have r1 := h.getO x
  have r2 := h.getO i
  rw [hx] at r1
  rw [hi] at r2
  have e1 : a.eval x = .string s := by generalize a.eval x = v at r1; cases r1.to_F tab.tid rfl; rfl
  have e2 : a.eval i = .int .i64 n := by generalize a.eval i = v at r2; cases r2.to_F tab.tid rfl; rfl
  have hu : P.underlying T = some .string := cvOK_str (hTab.cvs T .str hT)
  have hn : n.toNat < s.size := by omega
  refine val (v := .int .u8 (bt s n)) ?_ (AR.of_F tab.tid (.ik _ _)) hs
  simp [execOp, e1, e2, Instr.index, asIntOf, run_underlying hu, h0, bt, hn]
 | convert S D x =>
  simp only [stepOp] at hs
  split at hs
  rotate_left
  ·cases hs
  rename_i z hz
  have key : ∀ {k' k0 k : IntKind} {n : Int}, a.eval x = .int k' n → findN tab.cvs S = some (.ik k0) → findN tab.cvs D = some (.ik k) → z = mkI k (k.wrap n) → Oper.wp P ⟨dst, .convert S D x, type, pos, after, guard⟩ a w next Q := by
   intro k' k0 k n e1 hS hD hzz
   have hu1 := cvOK_ik (hTab.cvs S _ hS)
   have hu2 := cvOK_ik (hTab.cvs D _ hD)
   refine val (v := .int k (k.wrap n)) ?_ (x := z) ?_ hs
   ·simp [execOp, e1, convert, run_underlying hu1, run_underlying hu2, Conv.intToInt]
   ·rw [hzz]; unfold mkI; split
    ·exact AR.of_F tab.tid (.int _)
    ·exact AR.of_F tab.tid (.ik _ _)
  unfold cvAV at hz
  split at hz
  ·rename_i n hx
   split at hz
   rotate_left
   ·cases hz
   rename_i hS hD
   simp only [Option.some.injEq] at hz
   have r1 := h.getO x
   rw [hx] at r1
   exact key (k' := .i64) (by generalize a.eval x = v at r1; cases r1.to_F tab.tid rfl; rfl) hS hD hz.symm
  ·rename_i k' n hx
   split at hz
   rotate_left
   ·cases hz
   rename_i hS hD
   simp only [Option.some.injEq] at hz
   have r1 := h.getO x
   rw [hx] at r1
   exact key (k' := k') (by generalize a.eval x = v at r1; cases r1.to_F tab.tid rfl; rfl) hS hD hz.symm
  ·rename_i l hx
   split at hz
   rotate_left
   ·cases hz
   rename_i hS hD
   simp only [Option.some.injEq] at hz
   subst hz
   have r1 := h.getO x
   rw [hx] at r1
   have r2 := bytes_ok (P := P) (w := w) (c := c) (hTab.cvs S _ hS) (hTab.cvs D _ hD) (by have := r1.to_F tab.tid rfl; rw [h.hw] at this; exact this)
   exact val (v := .string (strOfL l)) (by simp [execOp, r2]) (AR.of_F tab.tid (.str _)) hs
  ·cases hz
 | extract x i =>
  simp only [stepOp] at hs
  split at hs
  rotate_left
  ·cases hs
  rename_i l hx
  have hr := h.getO x
  rw [hx] at hr
  have hF : FRel c.w c.S c.g (.tup l) (a.eval x) := hr
  split at hs
  rotate_left
  ·cases hs
  rename_i y hy
  have hlt := (List.getElem?_eq_some_iff.1 hy).1
  generalize hv : a.eval x = v at hF
  cases hF with
  | tup _ vs hl hA =>
   have h1 := hA i hlt
   rw [getD_of_get? hy] at h1
   refine val (v := vs.getD i Go.undef) ?_ (AR.of_F tab.tid h1) hs
   have h2 : i < vs.length := by omega
   simp [execOp, hv, Instr.extract, List.getElem?_eq_getElem h2]
 | call cl =>
  obtain ⟨callee, args, argTypes⟩ := cl
  have hlist : ∀ {x : List Operand}, args.toList = x → args = x.toArray := fun h => by rw [← h, Array.toArray_toList]
  have hts : ∀ {x : List Nat}, argTypes.toList = x → argTypes = x.toArray := fun h => by rw [← h, Array.toArray_toList]
  cases callee with
  | invoke r m => simp [stepOp] at hs
  | builtin b =>
   simp only [stepOp] at hs
   unfold stepBuiltin at hs
   split at hs
   ·split at hs
    rotate_left
    ·cases hs
    rename_i x T hA hT
    obtain ⟨n, r1, r2⟩ := lenT_ok (T := T) (ty := type) hTab h (h.getO x) hs
    have := hlist hA; subst this
    have := hts hT; subst this
    exact val (v := .int .i64 n) (by simp [execOp, resolve, invoke, builtin, r2]) (AR.of_F tab.tid (.int n)) r1
   ·split at hs
    rotate_left
    ·cases hs
    rename_i x y T T' d hA hT hdd
    simp only at hdd
    subst hdd
    split at hs
    rotate_left
    ·cases hs
    rename_i hb
    have hb := Nat.eq_of_beq_eq_true hb
    subst hb
    obtain ⟨σ1, v', w', c', r1, r2, r3⟩ := append_ok (P := P) (T := T) (ty := type) hTab.el h (hd d rfl) (h.getO x) (h.getO y) hs
    have := hlist hA; subst this
    have := hts hT; subst this
    simp only [Option.some.injEq] at r1
    subst r1
    exact any (v := v') (w' := w') (by simp [execOp, resolve, invoke, builtin, r2]) r3
   ·split at hs
    rotate_left
    ·cases hs
    rename_i x y hA
    split at hs
    rotate_left
    ·cases hs
    rename_i p q hp hq
    have := hlist hA; subst this
    have r1 := h.getO x
    have r2 := h.getO y
    rw [hp] at r1
    rw [hq] at r2
    have e1 : a.eval x = .int .i64 p := by generalize a.eval x = v at r1; cases r1.to_F tab.tid rfl; rfl
    have e2 : a.eval y = .int .i64 q := by generalize a.eval y = v at r2; cases r2.to_F tab.tid rfl; rfl
    exact val (v := .int .i64 (max p q)) (by simp [execOp, resolve, invoke, builtin, e1, e2, max_ok]) (AR.of_F tab.tid (.int _)) hs
   ·split at hs
    rotate_left
    ·cases hs
    rename_i x y hA
    split at hs
    rotate_left
    ·cases hs
    rename_i p q hp hq
    have := hlist hA; subst this
    have r1 := h.getO x
    have r2 := h.getO y
    rw [hp] at r1
    rw [hq] at r2
    have e1 : a.eval x = .int .i64 p := by generalize a.eval x = v at r1; cases r1.to_F tab.tid rfl; rfl
    have e2 : a.eval y = .int .i64 q := by generalize a.eval y = v at r2; cases r2.to_F tab.tid rfl; rfl
    exact val (v := .int .i64 (min p q)) (by simp [execOp, resolve, invoke, builtin, e1, e2, min_ok]) (AR.of_F tab.tid (.int _)) hs
   ·cases hs
  | value fo =>
   simp only [stepOp] at hs
   unfold stepCall at hs
   have hargs := args_ok h args
   split at hs
   ·rename_i f
    obtain ⟨r1, r2⟩ := callK_ok (va := args.toList.map a.eval) (vf := []) (vc := []) hcall h (o := ⟨dst, _, type, pos, after, guard⟩) hd (.nil _ _ _) hargs.1 hargs.2 (.nil _ _ _) (fun _ => ⟨rfl, rfl⟩) hs
     (R' := fun e w'' => match e with | .returned v => next (a.put dst v) w'' | .panicked ch => Q (.panic ch) a w'' | .outgrown => LetsOut Q) (fun u w' c' hR => hn _ _ _ hR)
    unfold Oper.wp
    have e1 : (execOp a.eval ⟨dst, .call ⟨.value (.func f), args, argTypes⟩, type, pos, after, guard⟩).run P w = .ok (.enter f (args.toList.map a.eval).toArray) w := by
     have e2 : args.map a.eval = (args.toList.map a.eval).toArray := by rw [← Array.toList_map, Array.toArray_toList]
     simp [execOp, resolve, Act.eval, Deferred.ofValue, invoke, run_callFunc r1, e2]
    rw [e1]
    simp only [List.nil_append, List.append_nil] at r2
    refine r2.mono fun e w'' he => ?_
    cases e <;> exact he
   ·split at hs
    rotate_left
    ·cases hs
    rename_i x hx _ f fst cap hcl
    have hr := h.getO fo
    rw [hcl] at hr
    have hF : FRel c.w c.S c.g (.clos f fst cap) (a.eval fo) := hr
    generalize hv : a.eval fo = v at hF
    cases hF with
    | clos _ _ _ vf vc g1 g2 o1 o2 g3 g4 =>
     obtain ⟨r1, r2⟩ := callK_ok (va := args.toList.map a.eval) (vf := vf) (vc := vc) hcall h (o := ⟨dst, _, type, pos, after, guard⟩) hd ⟨g1, g3⟩ hargs.1 hargs.2 ⟨g2, g4⟩ (fun h => by cases h) hs
      (R' := fun e w'' => match e with | .returned v => next (a.put dst v) w'' | .panicked ch => Q (.panic ch) a w'' | .outgrown => LetsOut Q) (fun u w' c' hR => hn _ _ _ hR)
     unfold Oper.wp
     have e1 : (execOp a.eval ⟨dst, .call ⟨.value fo, args, argTypes⟩, type, pos, after, guard⟩).run P w = .ok (.enter f (vf ++ (args.toList.map a.eval ++ vc)).toArray) w := by
      have e2 : args.map a.eval = (args.toList.map a.eval).toArray := by rw [← Array.toList_map, Array.toArray_toList]
      simp [execOp, resolve, hv, Deferred.ofValue, invoke, run_callFunc r1, e2]
     rw [e1]
     refine r2.mono fun e w'' he => ?_
     cases e <;> exact he
 | _ => simp [stepOp] at hs
end
end Go.AI
namespace Go.AI
section
variable {R : Type} {tab : Tab} {call : (τ : STy) → Nat → List AV → τ.T → Option (AV × τ.T)} {τ : STy}
theorem idxK_bind (E : Option El) (σ : St) (x : AV) (i : Int) (f : AV → St) (K : St → Option R) : idxK E σ x i (fun a => K (f a)) = (idxK E σ x i fun a => some (f a)).bind K := by
 unfold idxK; repeat' split
 all_goals rfl
theorem lenK_bind (E : Option El) (σ : St) (x : AV) (f : AV → St) (K : St → Option R) : lenK E σ x (fun a => K (f a)) = (lenK E σ x fun a => some (f a)).bind K := by
 unfold lenK; repeat' split
 all_goals rfl
theorem lenT_bind (T : Nat) (σ : St) (x : AV) (f : AV → St) (K : St → Option R) : lenT tab T σ x (fun a => K (f a)) = (lenT tab T σ x fun a => some (f a)).bind K := by
 unfold lenT
 cases strLen tab T x with
 | some n => rfl
 | none => exact lenK_bind _ _ _ _ _
theorem appendK_bind (E : Option El) (σ : St) (d : Nat) (x y : AV) (K : St → Option R) : appendK E σ d x y K = (appendK E σ d x y some).bind K := by
 unfold appendK; repeat' split
 all_goals rfl
theorem sliceK_bind (E : Option El) (σ : St) (x : AV) (lo hi : Option AV) (f : AV → St) (K : St → Option R) : sliceK E σ x lo hi (fun a => K (f a)) = (sliceK E σ x lo hi fun a => some (f a)).bind K := by
 unfold sliceK; repeat' split
 all_goals rfl
theorem gK_bind (o : GV) (f : AV → St) (K : St → Option R) : gK o (fun a => K (f a)) = (gK o fun a => some (f a)).bind K := by
 unfold gK; repeat' split
 all_goals rfl
theorem sliceT_bind (T : Nat) (σ : St) (x : AV) (lo hi : Option AV) (f : AV → St) (K : St → Option R) : sliceT tab T σ x lo hi (fun a => K (f a)) = (sliceT tab T σ x lo hi fun a => some (f a)).bind K := by
 unfold sliceT
 cases cutG tab T x lo hi with
 | may g a => exact gK_bind _ _ _
 | _ => exact sliceK_bind _ _ _ _ _ _ _
theorem gotK_bind (σ : St) (d : Option Nat) (h : Sh) (x : h.T) (K : St → Option R) : gotK σ d h x K = (gotK σ d h x some).bind K := by
 unfold gotK; split
 ·split <;> rfl
 ·rfl
theorem bind_gotK {Q : Type} (o : Option (Q)) (f : Q → St) (d : Option Nat) (h : Sh) (x : Q → h.T) (K : St → Option R) : (o.bind fun r => gotK (f r) d h (x r) K) = (o.bind fun r => gotK (f r) d h (x r) some).bind K := by
 cases o with
 | none => rfl
 | some q => exact gotK_bind _ _ _ _ _
theorem callK_bind (σ : St) (o : Oper) (f : Nat) (fst args cap : List AV) (static : Bool) (K : St → Option R) : callK tab call τ σ o f fst args cap static K = (callK tab call τ σ o f fst args cap static some).bind K := by
 unfold callK
 split
 ·split
  ·split
   ·split
    ·exact bind_gotK _ _ _ _ _ _
    ·rfl
   ·rfl
  ·rfl
 ·generalize (if static = true then tab.sty f else τ) = τ1
  split
  ·exact bind_gotK _ _ _ _ _ _
  ·split
   ·split
    ·exact bind_gotK _ _ _ _ _ _
    ·rfl
   ·rfl
theorem stepBuiltin_bind (o : Oper) (b : Builtin) (args : List Operand) (ts : List Nat) (σ : St) (K : St → Option R) : stepBuiltin tab o b args ts σ K = (stepBuiltin tab o b args ts σ some).bind K := by
 unfold stepBuiltin
 split
 ·split
  ·exact lenT_bind _ _ _ _ _
  ·rfl
 ·split
  ·split
   ·exact appendK_bind _ _ _ _ _ _
   ·rfl
  ·rfl
 ·repeat' split
  all_goals rfl
 ·repeat' split
  all_goals rfl
 ·rfl
theorem stepCall_bind (o : Oper) (f : Operand) (args : List Operand) (σ : St) (K : St → Option R) : stepCall tab call τ o f args σ K = (stepCall tab call τ o f args σ some).bind K := by
 unfold stepCall
 split
 ·exact callK_bind _ _ _ _ _ _ _ _
 ·split
  ·exact callK_bind _ _ _ _ _ _ _ _
  ·rfl
theorem stepOp_bind (o : Oper) (σ : St) (K : St → Option R) : stepOp tab call τ o σ K = (stepOp tab call τ o σ some).bind K := by
 obtain ⟨dst, op, type, pos, after, guard⟩ := o
 cases op with
 | slice T x lo hi mx =>
  cases mx with
  | none => exact sliceT_bind _ _ _ _ _ _ _
  | some _ => rfl
 | binOp op T x y _ => exact gK_bind _ _ _
 | index T x i => exact gK_bind _ _ _
 | indexAddr T x i =>
  simp only [stepOp]
  split
  ·exact idxK_bind _ _ _ _ _ _
  ·rfl
 | call cl =>
  simp only [stepOp]
  split
  ·exact stepBuiltin_bind _ _ _ _ _ _
  ·exact stepCall_bind _ _ _ _ _
  ·rfl
 | makeFunc fn fst cap =>
  cases fn <;> simp only [stepOp]
  ·repeat' split
   all_goals rfl
  all_goals rfl
 | unOp op T x =>
  cases op <;> simp only [stepOp]
  all_goals first | rfl | (repeat' split)
  all_goals rfl
 | _ => simp only [stepOp] <;> (repeat' split) <;> rfl
end
end Go.AI
namespace Go.AI
section
variable {tab : Tab} {call : (τ : STy) → Nat → List AV → τ.T → Option (AV × τ.T)} {τ : STy} {σ σ' σ1 σ2 : St}
structure HE (σ σ' : St) : Prop where
 b : ∀ k, getB σ'.b k = getB σ.b k
 s : σ'.s = σ.s
 v : σ'.v = σ.v
 c : σ'.c = σ.c
 fr : σ'.fr = σ.fr
structure Eqv (σ σ' : St) : Prop where
 t : ∀ i, getT σ'.t i = getT σ.t i
 h : HE σ σ'
theorem HE.refl (σ : St) : HE σ σ := ⟨fun _ => rfl, rfl, rfl, rfl, rfl⟩
theorem HE.symm (h : HE σ σ') : HE σ' σ := ⟨fun k => (h.b k).symm, h.s.symm, h.v.symm, h.c.symm, h.fr.symm⟩
theorem HE.trans (h : HE σ σ1) (k : HE σ1 σ2) : HE σ σ2 := ⟨fun i => (k.b i).trans (h.b i), k.s.trans h.s, k.v.trans h.v, k.c.trans h.c, k.fr.trans h.fr⟩
theorem Eqv.refl (σ : St) : Eqv σ σ := ⟨fun _ => rfl, .refl σ⟩
theorem Eqv.symm (h : Eqv σ σ') : Eqv σ' σ := ⟨fun k => (h.t k).symm, h.h.symm⟩
theorem Eqv.trans (h : Eqv σ σ1) (k : Eqv σ1 σ2) : Eqv σ σ2 := ⟨fun i => (k.t i).trans (h.t i), h.h.trans k.h⟩
theorem HE.put (h : HE σ σ') (d d' : Option Nat) (x y : AV) : HE (σ.put d x) (σ'.put d' y) := by
 refine ⟨fun k => ?_, ?_, ?_, ?_, ?_⟩
 ·rw [put_b, put_b]; exact h.b k
 ·rw [put_s, put_s]; exact h.s
 ·rw [put_v, put_v]; exact h.v
 ·rw [put_c, put_c]; exact h.c
 ·rw [put_fr, put_fr]; exact h.fr
theorem Rel.eqv {tid : El → Nat} {B : Base} {N : Nat} {c : Cx} {a : Act} {w : World} (e : Eqv σ σ') (h : Rel tid B N c σ a w) : Rel tid B N c σ' a w := by
 have st : Step c σ c σ' := ⟨rfl, fun _ _ _ _ h => h, fun _ _ h => h, by rw [e.h.c]; exact Nat.le_refl _, fun k hk => ⟨by rw [e.h.b]; exact hk, rfl⟩, fun k => .inl ⟨by rw [e.h.v], rfl, fun _ _ => rfl⟩⟩
 refine { hw := h.hw, ds := h.ds, n := h.n, t := fun i => by rw [e.t]; exact (h.t i).step st, b := fun k hk => ?_, s := fun hs => ?_, ver := fun k => by rw [e.h.v, e.h.c]; exact h.ver k, fz := by rw [e.h.fr]; exact h.fz, own := fun k b hk hb => ?_, inj := by rw [e.h.fr]; exact h.inj, box := fun k hk => ?_, gg := by rw [e.h.s]; exact h.gg, old := h.old, grow := h.grow, stsz := h.stsz, keep := h.keep }
 ·rw [e.h.b] at hk ⊢; exact (h.b k hk).step st rfl
 ·rw [e.h.s] at hs ⊢; exact (h.s hs).step st rfl
 ·rw [e.h.fr] at hk
  have r := h.own k b hk hb
  exact ⟨r.1, r.2.1, r.2.2.1, by rw [e.h.s]; exact r.2.2.2.1, fun j hj => r.2.2.2.2 j (by rw [← e.h.b]; exact hj)⟩
 ·rw [e.h.b] at hk
  have r := h.box k hk
  exact ⟨r.1, r.2.1, by rw [e.h.s]; exact r.2.2.1, fun j hj => r.2.2.2 j (by rw [← e.h.b]; exact hj)⟩
def valBuiltin (tab : Tab) (b : Builtin) (args : List Operand) (ts : List Nat) (σ : St) : Option AV :=
 match b with
 | .len => match args, ts with | [x], [T] => lenT tab T σ (getO σ.t x) some | _, _ => none
 | .max => match args with | [x, y] => (match getO σ.t x, getO σ.t y with | .int a, .int b => some (.int (max a b)) | _, _ => none) | _ => none
 | .min => match args with | [x, y] => (match getO σ.t x, getO σ.t y with | .int a, .int b => some (.int (min a b)) | _, _ => none) | _ => none
 | _ => none
def valOp (tab : Tab) (o : Oper) (σ : St) : Option AV :=
 match o.op with
 | .move x => some (getO σ.t x)
 | .assign x => some (getO σ.t x)
 | .pick c a b => match getO σ.t c with | .bool x => if x then some (getO σ.t a) else some (getO σ.t b) | _ => none
 | .build T parts =>
  match tab.ty T with
  | some ty => match ty.offs.isEmpty, fillAll ty.offs ty.szs (parts.toList.map fun p => (p.1, getO σ.t p.2)) ty.zero with | false, some c => some (.agg c) | _, _ => none
  | none => none
 | .buildSlice T n parts =>
  match n with
  | 0 => match tab.elOf T, parts.toList with | some _, [] => some .nil | _, _ => none
  | n =>
   match tab.elOf T, dense parts.toList 0 && (Nat.beq parts.toList.length n && Nat.ble n 4096) with
   | some e, true => match decAll e (parts.toList.map fun p => getO σ.t p.2) with | some xs => some (.sl e xs) | none => none
   | _, _ => none
 | .load T p => match tab.ty T with | some ty => loadAV σ ty (getO σ.t p) | none => none
 | .nilCheck x => addPt (getO σ.t x) 0
 | .binOp op T x y _ => gK (binG tab op T (getO σ.t x) (getO σ.t y)) some
 | .unOp .not _ x => match getO σ.t x with | .bool b => some (.bool (!b)) | _ => none
 | .makeFunc (.func f) fst cap =>
  match (fst.toList.map (getO σ.t)).all AV.one, (cap.toList.map (getO σ.t)).all AV.one with
  | true, true => some (.clos f (fst.toList.map (getO σ.t)) (cap.toList.map (getO σ.t)))
  | _, _ => none
 | .slice T x lo hi none => sliceT tab T σ (getO σ.t x) (optO σ.t lo) (optO σ.t hi) some
 | .fieldAddr T x f =>
  match tab.ty T with
  | some ty => match ty.offs[f]? with | some n => addPt (getO σ.t x) n | none => none
  | none => none
 | .indexAddr T x i => match getO σ.t i with | .int n => idxK (tab.elOf T) σ (getO σ.t x) n some | _ => none
 | .field T x f =>
  match tab.ty T, getO σ.t x, tab.ty o.type with
  | some ty, .agg l, some ty' =>
   match ty.offs[f]?, ty.ftys[f]? with
   | some n, some q => match Nat.beq q o.type, readAt ty' l n with | true, some a => some a | _, _ => none
   | _, _ => none
  | _, _, _ => none
 | .index T x i => gK (idxG tab T (getO σ.t x) (getO σ.t i)) some
 | .convert S D x => cvAV tab S D (getO σ.t x)
 | .extract x i => match getO σ.t x with | .tup l => l[i]? | _ => none
 | .call cl =>
  match cl.callee with
  | .builtin b => valBuiltin tab b cl.args.toList cl.argTypes.toList σ
  | _ => none
 | _ => none
def isVal (o : Oper) (σ : St) : Bool :=
 match o.op with
 | .alloc _ | .box .. | .store .. => false
 | .buildSlice _ _ parts => parts.toList.all fun p => (getO σ.t p.2).fz
 | .call cl => (match cl.callee with | .builtin b => (match b with | .append => false | _ => true) | _ => false)
 | _ => true
theorem idxK_map (E : Option El) (σ : St) (x : AV) (i : Int) (f : AV → St) : idxK E σ x i (fun a => some (f a)) = (idxK E σ x i some).map f := by
 unfold idxK; repeat' split
 all_goals rfl
theorem lenK_map (E : Option El) (σ : St) (x : AV) (f : AV → St) : lenK E σ x (fun a => some (f a)) = (lenK E σ x some).map f := by
 unfold lenK; repeat' split
 all_goals rfl
theorem lenT_map (T : Nat) (σ : St) (x : AV) (f : AV → St) : lenT tab T σ x (fun a => some (f a)) = (lenT tab T σ x some).map f := by
 unfold lenT
 cases strLen tab T x with
 | some n => rfl
 | none => exact lenK_map _ _ _ _
theorem sliceK_map (E : Option El) (σ : St) (x : AV) (lo hi : Option AV) (f : AV → St) : sliceK E σ x lo hi (fun a => some (f a)) = (sliceK E σ x lo hi some).map f := by
 unfold sliceK; repeat' split
 all_goals rfl
theorem gK_map (o : GV) (f : AV → St) : gK o (fun a => some (f a)) = (gK o some).map f := by
 unfold gK; repeat' split
 all_goals rfl
theorem sliceT_map (T : Nat) (σ : St) (x : AV) (lo hi : Option AV) (f : AV → St) : sliceT tab T σ x lo hi (fun a => some (f a)) = (sliceT tab T σ x lo hi some).map f := by
 unfold sliceT
 cases cutG tab T x lo hi with
 | may g a => exact gK_map _ _
 | _ => exact sliceK_map _ _ _ _ _ _
theorem freezeL_fz : ∀ {l : List AV}, l.all AV.one = true → freezeL l σ = some (l, σ)
 | [], _ => rfl
 | x :: l, h => by
  simp only [List.all_cons, Bool.and_eq_true] at h
  have h1 : freezeC σ x = some (x, σ) := by
   unfold freezeC
   rw [AV.cell_of_one h.1]
   cases x <;> first | rfl | (simp [AV.one] at h; done)
  simp only [freezeL, h1, freezeL_fz h.2]
theorem freeze_fz {x : AV} (h : x.fz = true) : freeze σ x = some (x, σ) := by
 cases x with
 | agg l => simp only [freeze, freezeL_fz h]
 | _ => first | rfl | (simp [AV.fz, AV.fz1, AV.one] at h; done)
theorem freezeAll_fz : ∀ {l : List AV}, l.all AV.fz = true → freezeAll l σ = some (l, σ)
 | [], _ => rfl
 | x :: l, h => by
  simp only [List.all_cons, Bool.and_eq_true] at h
  simp only [freezeAll, freeze_fz h.1, freezeAll_fz h.2]
theorem stepOp_val {o : Oper} (hv : isVal o σ = true) : stepOp tab call τ o σ some = (valOp tab o σ).map (σ.put o.dst) := by
 obtain ⟨dst, op, type, pos, after, guard⟩ := o
 cases op with
 | slice T x lo hi mx =>
  cases mx with
  | none => exact sliceT_map _ _ _ _ _ _
  | some _ => rfl
 | indexAddr T x i =>
  simp only [stepOp, valOp]
  cases getO σ.t i <;> first | exact idxK_map _ _ _ _ _ | rfl
 | alloc _ => simp [isVal] at hv
 | box _ _ => simp [isVal] at hv
 | store _ _ _ => simp [isVal] at hv
 | buildSlice T n parts =>
  have hf : freezeAll (parts.toList.map fun p => getO σ.t p.2) σ = some (parts.toList.map (fun p => getO σ.t p.2), σ) := freezeAll_fz (by simpa [isVal, List.all_map] using hv)
  simp only [stepOp, valOp, hf]
  cases n with
  | zero => cases tab.elOf T <;> cases parts.toList <;> rfl
  | succ n =>
   cases tab.elOf T with
   | none => rfl
   | some e =>
    cases hd : dense parts.toList 0 && (Nat.beq parts.toList.length (n + 1) && Nat.ble (n + 1) 4096) with
    | false => simp only [hd]; rfl
    | true =>
     simp only [hd]
     cases decAll e (parts.toList.map fun p => getO σ.t p.2) <;> rfl
 | call cl =>
  simp only [stepOp, valOp]
  cases hc : cl.callee with
  | builtin b =>
   cases b <;> simp only [stepBuiltin, valBuiltin] <;> (try rfl)
   ·simp [isVal, hc] at hv
   ·rcases cl.args.toList with _ | ⟨x, _ | ⟨y, l⟩⟩ <;> rcases cl.argTypes.toList with _ | ⟨T, _ | ⟨T', l'⟩⟩ <;> first | exact lenT_map _ _ _ _ | rfl
   ·rcases cl.args.toList with _ | ⟨x, _ | ⟨y, _ | ⟨z, l⟩⟩⟩ <;> first | rfl | skip
    dsimp only
    generalize getO σ.t x = u
    generalize getO σ.t y = v
    cases u <;> cases v <;> rfl
   ·rcases cl.args.toList with _ | ⟨x, _ | ⟨y, _ | ⟨z, l⟩⟩⟩ <;> first | rfl | skip
    dsimp only
    generalize getO σ.t x = u
    generalize getO σ.t y = v
    cases u <;> cases v <;> rfl
  | _ => simp [isVal, hc] at hv
 | makeFunc fn fst cap =>
  cases fn <;> simp only [stepOp, valOp]
  ·cases (fst.toList.map (getO σ.t)).all AV.one <;> cases (cap.toList.map (getO σ.t)).all AV.one <;> rfl
  all_goals rfl
 | unOp op T x =>
  cases op <;> simp only [stepOp, valOp]
  all_goals first | rfl | (cases getO σ.t x <;> rfl)
 | pick c a b =>
  simp only [stepOp, valOp]
  cases getO σ.t c <;> try rfl
  rename_i q
  cases q <;> rfl
 | build T parts =>
  simp only [stepOp, valOp]
  cases tab.ty T with
  | none => rfl
  | some ty =>
   dsimp only
   generalize ty.offs.isEmpty = u
   generalize fillAll ty.offs ty.szs (parts.toList.map fun p => (p.1, getO σ.t p.2)) ty.zero = v
   cases u <;> cases v <;> rfl
 | load T p =>
  simp only [stepOp, valOp]
  cases tab.ty T with
  | none => rfl
  | some ty =>
   dsimp only
   generalize loadAV σ ty (getO σ.t p) = v
   cases v <;> rfl
 | nilCheck x =>
  simp only [stepOp, valOp]
  cases addPt (getO σ.t x) 0 <;> rfl
 | binOp op T x y T' =>
  exact gK_map _ _
 | fieldAddr T x f =>
  simp only [stepOp, valOp]
  cases tab.ty T with
  | none => rfl
  | some ty =>
   dsimp only
   generalize ty.offs[f]? = u
   cases u with
   | none => rfl
   | some n =>
    dsimp only
    generalize addPt (getO σ.t x) n = v
    cases v <;> rfl
 | field T x f =>
  simp only [stepOp, valOp]
  cases tab.ty T with
  | none => rfl
  | some ty =>
   cases tab.ty type with
   | none => cases getO σ.t x <;> rfl
   | some ty' =>
    generalize getO σ.t x = z
    cases z <;> try rfl
    rename_i l
    dsimp only
    generalize ty.offs[f]? = u
    generalize ty.ftys[f]? = v
    cases u <;> cases v <;> try rfl
    rename_i n q
    dsimp only
    generalize Nat.beq q type = u
    generalize readAt ty' l n = v
    cases u <;> cases v <;> rfl
 | index T x i =>
  exact gK_map _ _
 | convert S D x =>
  simp only [stepOp, valOp]
  cases cvAV tab S D (getO σ.t x) <;> rfl
 | extract x i =>
  simp only [stepOp, valOp]
  generalize getO σ.t x = z
  cases z <;> try rfl
  rename_i l
  dsimp only
  generalize l[i]? = u
  cases u <;> rfl
 | move x => rfl
 | assign x => rfl
 | _ => rfl
end
end Go.AI
namespace Go.AI
section
variable {tab : Tab} {call : (τ : STy) → Nat → List AV → τ.T → Option (AV × τ.T)} {τ : STy} {σ σ' σ1 σ2 : St}
def Looks (o : Oper) (σ σ' : St) : Prop := ∀ x, x ∈ o.op.operands.toList → getO σ'.t x = getO σ.t x
def Agree (σ σ' : St) : Acc → Prop
 | .none_ => True
 | .plc => True
 | .rdB k => getB σ'.b k = getB σ.b k
 | .rdF i n => σ'.s.length = σ.s.length ∧ ∀ j, i ≤ j → j < i + n → σ'.s.getD j .undef = σ.s.getD j .undef
 | .rdK k => getV σ'.v k = getV σ.v k
 | _ => HE σ σ'
theorem HE.agree (h : HE σ σ') (A : Acc) : Agree σ σ' A := by
 cases A <;> first
  | trivial
  | exact h.b _
  | exact ⟨by rw [h.s], fun _ _ _ => by rw [h.s]⟩
  | exact congrArg (fun v => getV v _) h.v
  | exact h
theorem getD_ext {l m : List AV} (h1 : l.length = m.length) {i n : Nat} (h2 : ∀ j, i ≤ j → j < i + n → l.getD j .undef = m.getD j .undef) : (l.drop i).take n = (m.drop i).take n := by
 apply List.ext_getElem?
 intro j
 rw [get?_piece, get?_piece]
 split
 ·rename_i hj
  have h3 := h2 (i + j) (by omega) (by omega)
  by_cases hl : i + j < l.length
  ·rw [get?_of_lt .undef hl, get?_of_lt .undef (by omega), h3]
  ·rw [List.getElem?_eq_none (by omega), List.getElem?_eq_none (by omega)]
 ·rfl
theorem readAt_congr {ty : Ty} {l m : List AV} {i : Nat} (hp : 0 < ty.zero.length) (h1 : l.length = m.length) (h2 : ∀ j, i ≤ j → j < i + ty.zero.length → l.getD j .undef = m.getD j .undef) : readAt ty l i = readAt ty m i := by
 unfold readAt
 rw [h1, getD_ext h1 h2, h2 i (Nat.le_refl _) (by omega)]
theorem cur_congr {k w : Nat} (h : getV σ'.v k = getV σ.v k) : σ'.cur k w = σ.cur k w := by unfold St.cur; rw [h]
theorem loadAV_congr {ty : Ty} (hp : 0 < ty.zero.length) {p : AV} (h : Agree σ σ' (match p with
  | .lbox k _ => .rdB k
  | .rdr i => .rdF i ty.zero.length
  | .cbox _ => .none_
  | .spt .. => .none_
  | .vpt k .. => .rdK k
  | .opt k .. => .rdK k
  | _ => .big)) : loadAV σ' ty p = loadAV σ ty p := by
 cases p with
 | lbox k i => simp only [loadAV]; rw [show getB σ'.b k = getB σ.b k from h]
 | rdr i => exact readAt_congr hp h.1 h.2
 | vpt k w e x o => simp only [loadAV]; rw [cur_congr h]
 | opt k w e x i o => simp only [loadAV]; rw [cur_congr h]
 | _ => rfl
theorem lst_congr {x : AV} (h : Agree σ σ' (accLst x)) : (∀ k w e l, x = .own k w e l → σ'.cur k w = σ.cur k w) ∧ (∀ k w e l, x = .vw k w e l → σ'.cur k w = σ.cur k w) :=
 ⟨fun k w e l hx => by subst hx; exact cur_congr h, fun k w e l hx => by subst hx; exact cur_congr h⟩
theorem lenK_congr {R : Type} {E : Option El} {x : AV} {K : AV → Option R} (h : Agree σ σ' (accLst x)) : lenK E σ' x K = lenK E σ x K := by
 obtain ⟨h1, h2⟩ := lst_congr h
 unfold lenK
 cases E with
 | none => rfl
 | some e =>
  cases x with
  | own k w e l => simp only [h1 k w e l rfl]
  | vw k w e l => simp only [h2 k w e l rfl]
  | _ => rfl
theorem lenT_congr {R : Type} {T : Nat} {x : AV} {K : AV → Option R} (h : Agree σ σ' (accLst x)) : lenT tab T σ' x K = lenT tab T σ x K := by
 unfold lenT
 cases strLen tab T x with
 | some n => rfl
 | none => exact lenK_congr h
theorem idxK_congr {R : Type} {E : Option El} {x : AV} {i : Int} {K : AV → Option R} (h : Agree σ σ' (accLst x)) : idxK E σ' x i K = idxK E σ x i K := by
 obtain ⟨h1, h2⟩ := lst_congr h
 unfold idxK
 cases x with
 | own k w e l => simp only [h1 k w e l rfl]
 | vw k w e l => simp only [h2 k w e l rfl]
 | _ => rfl
theorem sliceK_congr {R : Type} {E : Option El} {x : AV} {lo hi : Option AV} {K : AV → Option R} (h : Agree σ σ' (accLst x)) : sliceK E σ' x lo hi K = sliceK E σ x lo hi K := by
 obtain ⟨h1, h2⟩ := lst_congr h
 unfold sliceK
 cases x with
 | own k w e l => simp only [h1 k w e l rfl]
 | _ => rfl
theorem sliceT_congr {R : Type} {T : Nat} {x : AV} {lo hi : Option AV} {K : AV → Option R} (h : Agree σ σ' (accLst x)) : sliceT tab T σ' x lo hi K = sliceT tab T σ x lo hi K := by
 unfold sliceT
 cases cutG tab T x lo hi with
 | may g a => rfl
 | _ => exact sliceK_congr h
theorem map_congr_looks {α : Type} {l : List α} {f : α → Operand} (h : ∀ x, x ∈ l → getO σ'.t (f x) = getO σ.t (f x)) {β : Type} (g : α → AV → β) : (l.map fun p => g p (getO σ'.t (f p))) = l.map fun p => g p (getO σ.t (f p)) :=
 List.map_congr_left fun x hx => by rw [h x hx]
theorem optO_congr {x : Option Operand} (h : ∀ y, x = some y → getO σ'.t y = getO σ.t y) : optO σ'.t x = optO σ.t x := by
 cases x with
 | none => rfl
 | some y => exact congrArg some (h y rfl)
theorem acc_congr {o : Oper} (hO : Looks o σ σ') : accOf tab σ' o = accOf tab σ o := by
 obtain ⟨dst, op, type, pos, after, guard⟩ := o
 unfold Looks at hO
 cases op <;> simp only [Op.operands] at hO <;> simp only [accOf]
 case nilCheck x => rw [hO x (by simp)]
 case fieldAddr T x f => rw [hO x (by simp)]
 case load T p => rw [hO p (by simp)]
 case store T p x => rw [hO p (by simp)]
 case buildSlice T n parts =>
  have : (parts.toList.all fun p => (getO σ'.t p.2).fz) = parts.toList.all fun p => (getO σ.t p.2).fz := by
   rw [Bool.eq_iff_iff, List.all_eq_true, List.all_eq_true]
   exact forall_congr' fun p => imp_congr_right fun hp => by rw [hO p.2 (by simp only [List.mem_map]; exact ⟨p, hp, rfl⟩)]
  rw [this]
 case slice T x lo hi mx => rw [hO x (by simp)]
 case indexAddr T x i => rw [hO x (by simp)]
 case call cl =>
  cases hc : cl.callee with
  | builtin b =>
   cases b <;> simp only [hc]
   rcases ha : cl.args.toList with _ | ⟨x, _ | ⟨y, l⟩⟩ <;> simp only [ha]
   rw [hO x (by simp [Call.operands, hc, ha])]
  | value f =>
   simp only [hc]
   have : (cl.args.toList.all fun x => (getO σ'.t x).fz) = cl.args.toList.all fun x => (getO σ.t x).fz := by
    rw [Bool.eq_iff_iff, List.all_eq_true, List.all_eq_true]
    exact forall_congr' fun p => imp_congr_right fun hp => by rw [hO p (by simp [Call.operands, hc]; exact .inr (by simpa using hp))]
   rw [this]
  | invoke r m => simp only [hc]
theorem isVal_congr {o : Oper} (hO : Looks o σ σ') : isVal o σ' = isVal o σ := by
 obtain ⟨dst, op, type, pos, after, guard⟩ := o
 unfold Looks at hO
 cases op <;> simp only [Op.operands] at hO <;> simp only [isVal]
 case buildSlice T n parts =>
  rw [Bool.eq_iff_iff, List.all_eq_true, List.all_eq_true]
  exact forall_congr' fun p => imp_congr_right fun hp => by rw [hO p.2 (by simp only [List.mem_map]; exact ⟨p, hp, rfl⟩)]
theorem valOp_congr {P : Program} (hTab : TabOK P tab) {o : Oper} (hO : Looks o σ σ') (hr : Agree σ σ' (accOf tab σ o)) : valOp tab o σ' = valOp tab o σ := by
 obtain ⟨dst, op, type, pos, after, guard⟩ := o
 unfold Looks at hO
 cases op <;> simp only [Op.operands] at hO <;> simp only [accOf] at hr <;> simp only [valOp]
 case move x => rw [hO x (by simp)]
 case assign x => rw [hO x (by simp)]
 case pick c a b => rw [hO c (by simp), hO a (by simp), hO b (by simp)]
 case build T parts =>
  have := map_congr_looks (σ := σ) (σ' := σ') (l := parts.toList) (f := (·.2)) (fun p hp => hO p.2 (by simp only [List.mem_map]; exact ⟨p, hp, rfl⟩)) (fun p a => (p.1, a))
  simp only [this]
 case buildSlice T n parts =>
  have := map_congr_looks (σ := σ) (σ' := σ') (l := parts.toList) (f := (·.2)) (fun p hp => hO p.2 (by simp only [List.mem_map]; exact ⟨p, hp, rfl⟩)) (fun p a => a)
  simp only [this]
 case load T p =>
  rw [hO p (by simp)]
  cases hT : tab.ty T with
  | none => rfl
  | some ty =>
   dsimp only
   refine loadAV_congr (hTab.ty T ty hT).pos ?_
   rw [hT] at hr
   exact hr
 case nilCheck x => rw [hO x (by simp)]
 case binOp op T x y T' => rw [hO x (by simp), hO y (by simp)]
 case unOp op T x => cases op <;> simp only [] ; rw [hO x (by simp)]
 case makeFunc fn fst cap =>
  cases fn <;> simp only []
  have h1 := map_congr_looks (σ := σ) (σ' := σ') (l := fst.toList) (f := id) (fun p hp => hO p (by simp at hp ⊢; exact .inl hp)) (fun p a => a)
  have h2 := map_congr_looks (σ := σ) (σ' := σ') (l := cap.toList) (f := id) (fun p hp => hO p (by simp at hp ⊢; exact .inr hp)) (fun p a => a)
  simp only [id] at h1 h2
  rw [show cap.toList.map (getO σ'.t) = cap.toList.map (getO σ.t) from h2, show fst.toList.map (getO σ'.t) = fst.toList.map (getO σ.t) from h1]
 case slice T x lo hi mx =>
  cases mx with
  | some _ => rfl
  | none =>
   simp only []
   have hx := hO x (by simp)
   have h1 := optO_congr (σ := σ) (σ' := σ') (x := lo) (fun y hy => hO y (by subst hy; simp))
   have h2 := optO_congr (σ := σ) (σ' := σ') (x := hi) (fun y hy => hO y (by subst hy; cases lo <;> simp))
   rw [hx, h1, h2]
   exact sliceT_congr hr
 case fieldAddr T x f => rw [hO x (by simp)]
 case indexAddr T x i =>
  rw [hO x (by simp), hO i (by simp)]
  cases getO σ.t i <;> first | rfl | exact idxK_congr hr
 case field T x f => rw [hO x (by simp)]
 case index T x i => rw [hO x (by simp), hO i (by simp)]
 case convert S D x => rw [hO x (by simp)]
 case extract x i => rw [hO x (by simp)]
 case call cl =>
  cases hc : cl.callee with
  | builtin b =>
   simp only [hc] at hr ⊢
   have hA : ∀ x, x ∈ cl.args.toList → getO σ'.t x = getO σ.t x := fun x hx => hO x (by simp [Call.operands, hc]; simpa using hx)
   cases b <;> simp only [valBuiltin] at hr ⊢
   ·rcases ha : cl.args.toList with _ | ⟨x, _ | ⟨y, l⟩⟩ <;> rw [ha] at hA hr <;> rcases cl.argTypes.toList with _ | ⟨T, _ | ⟨T', l'⟩⟩ <;> simp only []
    rw [hA x (by simp)]
    exact lenT_congr hr
   ·rcases ha : cl.args.toList with _ | ⟨x, _ | ⟨y, _ | ⟨z, l⟩⟩⟩ <;> rw [ha] at hA <;> simp only []
    rw [hA x (by simp), hA y (by simp)]
   ·rcases ha : cl.args.toList with _ | ⟨x, _ | ⟨y, _ | ⟨z, l⟩⟩⟩ <;> rw [ha] at hA <;> simp only []
    rw [hA x (by simp), hA y (by simp)]
  | _ => simp only [hc]
end
end Go.AI
namespace Go.AI
section
variable {tab : Tab} {call : (τ : STy) → Nat → List AV → τ.T → Option (AV × τ.T)} {τ : STy} {σ σ' σ1 σ2 : St}
structure RelS (d : Option Nat) (σ σ' σ1 σ1' : St) : Prop where
 h : HE σ1 σ1'
 t : ∀ i, getT σ1'.t i = if d = some i then getT σ1.t i else getT σ'.t i
 o : ∀ i, d ≠ some i → getT σ1.t i = getT σ.t i
theorem RelS.put {τ τ' : St} (h : HE τ τ') (ht : τ.t = σ.t) (ht' : τ'.t = σ'.t) (d : Option Nat) (x : AV) : RelS d σ σ' (τ.put d x) (τ'.put d x) := by
 refine ⟨h.put _ _ _ _, fun i => ?_, fun i hi => ?_⟩
 ·rw [getT_put, getT_put, ht']; split <;> rfl
 ·rw [getT_put, if_neg hi, ht]
theorem RelS.same {τ τ' : St} (h : HE τ τ') (ht : τ.t = σ.t) (ht' : τ'.t = σ'.t) : RelS none σ σ' τ τ' := ⟨h, fun i => by simp [ht'], fun i _ => by rw [ht]⟩
theorem cur_v (h : σ'.v = σ.v) (k w : Nat) : σ'.cur k w = σ.cur k w := by unfold St.cur; rw [h]
theorem freeze1_loc {x y : AV} (h : freeze1 σ x = some (y, σ1)) : σ1 = { σ with fr := σ1.fr } ∧ ∀ σ' : St, σ'.v = σ.v → σ'.fr = σ.fr → freeze1 σ' x = some (y, { σ' with fr := σ1.fr }) := by
 cases x with
 | own k ver e l =>
  simp only [freeze1] at h ⊢
  split at h
  ·rename_i h1 h2
   simp only [Option.some.injEq, Prod.mk.injEq] at h
   obtain ⟨rfl, rfl⟩ := h
   refine ⟨rfl, fun σ' hv hf => ?_⟩
   simp only [cur_v hv, h1, h2, hf]
  ·cases h
 | _ => first
  | (simp [freeze1, AV.fz1, AV.one] at h; done)
  | (simp only [freeze1, AV.fz1, AV.one, Option.some.injEq, Prod.mk.injEq] at h; obtain ⟨rfl, rfl⟩ := h; exact ⟨rfl, fun σ' hv hf => by simp only [freeze1, AV.fz1, AV.one, ← hf]⟩)
theorem freeze_na {x : AV} (h : ∀ l, x ≠ .agg l) (σ : St) : freeze σ x = freeze1 σ x := by
 cases x <;> first | rfl | exact absurd rfl (h _)
theorem freezeL_loc : ∀ {l l' : List AV} {σ σ1 : St}, freezeL l σ = some (l', σ1) → σ1 = { σ with fr := σ1.fr } ∧ ∀ σ' : St, σ'.v = σ.v → σ'.fr = σ.fr → freezeL l σ' = some (l', { σ' with fr := σ1.fr })
 | [], l', σ, σ1, h => by
  simp only [freezeL, Option.some.injEq, Prod.mk.injEq] at h
  obtain ⟨rfl, rfl⟩ := h
  exact ⟨rfl, fun σ' hv hf => by simp only [freezeL]; rw [← hf]⟩
 | x :: l, l', σ, σ1, h => by
  simp only [freezeL] at h
  split at h
  rotate_left
  ·cases h
  rename_i y τ h1
  split at h
  rotate_left
  ·cases h
  rename_i r τ' h2
  simp only [Option.some.injEq, Prod.mk.injEq] at h
  obtain ⟨rfl, rfl⟩ := h
  unfold freezeC at h1
  split at h1
  rotate_left
  ·cases h1
  rename_i hc
  obtain ⟨g1, g2⟩ := freeze1_loc h1
  obtain ⟨g3, g4⟩ := freezeL_loc h2
  refine ⟨by rw [g3, g1], fun σ' hv hf => ?_⟩
  have g5 := g4 { σ' with fr := τ.fr } (by rw [g1]; exact hv) rfl
  simp only [freezeL, freezeC, hc, g2 σ' hv hf, g5]
theorem freeze_loc {x y : AV} (h : freeze σ x = some (y, σ1)) : σ1 = { σ with fr := σ1.fr } ∧ ∀ σ' : St, σ'.v = σ.v → σ'.fr = σ.fr → freeze σ' x = some (y, { σ' with fr := σ1.fr }) := by
 cases x with
 | agg l =>
  simp only [freeze] at h ⊢
  split at h
  rotate_left
  ·cases h
  rename_i r τ h1
  simp only [Option.some.injEq, Prod.mk.injEq] at h
  obtain ⟨rfl, rfl⟩ := h
  obtain ⟨g1, g2⟩ := freezeL_loc h1
  exact ⟨g1, fun σ' hv hf => by simp only [g2 σ' hv hf]⟩
 | _ =>
  rw [freeze_na (by intro l h; cases h)] at h
  obtain ⟨g1, g2⟩ := freeze1_loc h
  exact ⟨g1, fun σ' hv hf => by rw [freeze_na (by intro l h; cases h)]; exact g2 σ' hv hf⟩
theorem freezeAll_loc : ∀ {l l' : List AV} {σ σ1 : St}, freezeAll l σ = some (l', σ1) → σ1 = { σ with fr := σ1.fr } ∧ ∀ σ' : St, σ'.v = σ.v → σ'.fr = σ.fr → freezeAll l σ' = some (l', { σ' with fr := σ1.fr })
 | [], l', σ, σ1, h => by
  simp only [freezeAll, Option.some.injEq, Prod.mk.injEq] at h
  obtain ⟨rfl, rfl⟩ := h
  exact ⟨rfl, fun σ' hv hf => by simp only [freezeAll]; rw [← hf]⟩
 | x :: l, l', σ, σ1, h => by
  simp only [freezeAll] at h
  split at h
  rotate_left
  ·cases h
  rename_i y τ h1
  split at h
  rotate_left
  ·cases h
  rename_i r τ' h2
  simp only [Option.some.injEq, Prod.mk.injEq] at h
  obtain ⟨rfl, rfl⟩ := h
  obtain ⟨g1, g2⟩ := freeze_loc h1
  obtain ⟨g3, g4⟩ := freezeAll_loc h2
  refine ⟨by rw [g3, g1], fun σ' hv hf => ?_⟩
  have g5 := g4 { σ' with fr := τ.fr } (by rw [g1]; exact hv) rfl
  simp only [freezeAll, g2 σ' hv hf, g5]
theorem freezeAll_none {l : List AV} (h : freezeAll l σ = none) (hv : σ'.v = σ.v) (hf : σ'.fr = σ.fr) : freezeAll l σ' = none := by
 cases h' : freezeAll l σ' with
 | none => rfl
 | some q =>
  obtain ⟨l', τ⟩ := q
  rw [(freezeAll_loc h').2 σ hv.symm hf.symm] at h
  cases h
theorem HE.withFr (h : HE σ σ') (fr : List Nat) : HE { σ with fr := fr } { σ' with fr := fr } := ⟨h.b, h.s, h.v, h.c, rfl⟩
theorem HE.cons (h : HE σ σ') (d : Nat) (l : List AV) : HE { σ with b := (d, l) :: σ.b } { σ' with b := (d, l) :: σ'.b } :=
 ⟨fun k => by show getB ((d, l) :: σ'.b) k = getB ((d, l) :: σ.b) k; rw [getB_cons, getB_cons, h.b], h.s, h.v, h.c, h.fr⟩
theorem gotK_loc {d : Option Nat} {h : Sh} {x : h.T} {τ1 τ1' : St} (hh : HE τ1 τ1') (ht : τ1.t = σ.t) (ht' : τ1'.t = σ'.t) (hs : gotK τ1 d h x some = some σ1) : ∃ σ1', gotK τ1' d h x some = some σ1' ∧ RelS d σ σ' σ1 σ1' := by
 unfold gotK at hs ⊢
 split at hs
 ·rename_i τ' d x
  split at hs
  rotate_left
  ·cases hs
  rename_i y l hb he
  simp only [Option.some.injEq] at hs
  subst hs
  rw [← hh.b d] at hb
  simp only [hb, he]
  exact ⟨_, rfl, RelS.put (hh.cons d (y :: l)) ht ht' _ _⟩
 ·simp only [Option.some.injEq] at hs
  subst hs
  exact ⟨_, rfl, RelS.put hh ht ht' _ _⟩
theorem callK_loc {o : Oper} {f : Nat} {fst args cap : List AV} {static : Bool} (hh : HE σ σ') (hs : callK tab call τ σ o f fst args cap static some = some σ1) : ∃ σ1', callK tab call τ σ' o f fst args cap static some = some σ1' ∧ RelS o.dst σ σ' σ1 σ1' := by
 unfold callK at hs ⊢
 split at hs
 ·rename_i hf
  simp only [freezeAll_none hf hh.v hh.fr]
  split at hs
  rotate_left
  ·cases hs
  rename_i k rest
  split at hs
  rotate_left
  ·cases hs
  rename_i rest' τ1 hfz
  obtain ⟨g1, g2⟩ := freezeAll_loc hfz
  have g2 := g2 σ' hh.v hh.fr
  split at hs
  rotate_left
  ·cases hs
  rename_i p hpl hdec
  obtain ⟨x, y, q, hcl, hsh, hK⟩ := shaped_spec hs
  have e1 : τ1.b = σ.b := by rw [g1]
  have e2 : τ1.v = σ.v := by rw [g1]
  have e3 : τ1.c = σ.c := by rw [g1]
  have e4 : τ1.s = σ.s := by rw [g1]
  have e5 : τ1.t = σ.t := by rw [g1]
  have hd' : (tab.sty f).dec σ'.v τ1.fr (getB σ'.b k) = some p := by rw [hh.v, hh.b, ← e1, ← e2]; exact hdec
  have hHE : HE (St.lent τ1 (tab.sty f) k q) (St.lent { σ' with fr := τ1.fr } (tab.sty f) k q) := by
   refine ⟨fun j => ?_, by show σ'.s = τ1.s; rw [hh.s, e4], ?_, by show σ'.c + 1 = τ1.c + 1; rw [hh.c, e3], rfl⟩
   ·show getB ((k, _) :: σ'.b) j = getB ((k, _) :: τ1.b) j
    rw [getB_cons, getB_cons, hh.b, hh.c, e1, e3]
   ·show _ ++ σ'.v = _ ++ τ1.v
    rw [hh.v, e2]
    show (List.map _ ((tab.sty f).keys ++ ownKeys (getB σ'.b k))) ++ _ = (List.map _ ((tab.sty f).keys ++ ownKeys (getB τ1.b k))) ++ _
    rw [hh.b, e1, hh.c, e3]
  obtain ⟨σ1', r1, r2⟩ := gotK_loc (σ := σ) (σ' := σ') hHE e5 rfl hK
  refine ⟨σ1', ?_, r2⟩
  simp only [g2, hpl, hd', hcl, shaped, Option.bind_some, hsh, Option.map_some]
  exact r1
 ·rename_i args' τ1 hfz
  obtain ⟨g1, g2⟩ := freezeAll_loc hfz
  have g2 := g2 σ' hh.v hh.fr
  simp only [g2]
  have e1 : τ1.b = σ.b := by rw [g1]
  have e2 : τ1.v = σ.v := by rw [g1]
  have e3 : τ1.c = σ.c := by rw [g1]
  have e4 : τ1.s = σ.s := by rw [g1]
  have e5 : τ1.t = σ.t := by rw [g1]
  have hHE0 : HE τ1 { σ' with fr := τ1.fr } := ⟨fun j => by rw [e1]; exact hh.b j, by rw [e4]; exact hh.s, by rw [e2]; exact hh.v, by rw [e3]; exact hh.c, rfl⟩
  generalize (if static = true then tab.sty f else τ) = τ0 at hs ⊢
  split at hs
  ·obtain ⟨x, y, q, hcl, hsh, hK⟩ := shaped_spec hs
   obtain ⟨σ1', r1, r2⟩ := gotK_loc (σ := σ) (σ' := σ') hHE0 e5 rfl hK
   refine ⟨σ1', ?_, r2⟩
   simp only [hcl, shaped, Option.bind_some, hsh, Option.map_some]
   exact r1
  ·rename_i hne
   split at hs
   rotate_left
   ·cases hs
   rename_i he
   subst he
   split at hs
   rotate_left
   ·cases hs
   rename_i p hdec
   obtain ⟨x, y, q, hcl, hsh, hK⟩ := shaped_spec hs
   have hd' : τ0.dec σ'.v τ1.fr σ'.s = some p := by rw [hh.v, hh.s, ← e4, ← e2]; exact hdec
   have hHE : HE (St.back τ0 τ1 q) (St.back τ0 { σ' with fr := τ1.fr } q) := by
    refine ⟨fun j => by show getB σ'.b j = getB τ1.b j; rw [hh.b, e1], by show τ0.enc (σ'.c + 1) q = τ0.enc (τ1.c + 1) q; rw [hh.c, e3], ?_, by show σ'.c + 1 = τ1.c + 1; rw [hh.c, e3], rfl⟩
    show (List.map _ (τ0.keys ++ ownKeys σ'.s)) ++ σ'.v = (List.map _ (τ0.keys ++ ownKeys τ1.s)) ++ τ1.v
    rw [hh.v, e2, hh.s, e4, hh.c, e3]
   obtain ⟨σ1', r1, r2⟩ := gotK_loc (σ := σ) (σ' := σ') hHE e5 rfl hK
   refine ⟨σ1', ?_, r2⟩
   cases τ0 with
   | unit => exact (hne rfl).elim
   | prog =>
    simp only [if_true, hd', hcl, shaped, Option.bind_some, hsh, Option.map_some]
    exact r1
   | ref =>
    simp only [if_true, hd', hcl, shaped, Option.bind_some, hsh, Option.map_some]
    exact r1
end
end Go.AI
namespace Go.AI
section
variable {tab : Tab} {call : (τ : STy) → Nat → List AV → τ.T → Option (AV × τ.T)} {τ : STy} {σ σ' σ1 σ2 : St} {P : Program}
theorem rows_v (h : σ'.v = σ.v) (x : AV) : rows σ' x = rows σ x := by
 unfold rows
 cases x <;> first | rfl | (simp only [cur_v h])
theorem HE.bump (h : HE σ σ') (k : Nat) : HE (σ.bump k) (σ'.bump k) :=
 ⟨h.b, h.s, by show (k, σ'.c + 1) :: σ'.v = (k, σ.c + 1) :: σ.v; rw [h.v, h.c], by show σ'.c + 1 = σ.c + 1; rw [h.c], h.fr⟩
theorem HE.fresh (h : HE σ σ') (k : Nat) : HE (σ.fresh k) (σ'.fresh k) :=
 ⟨h.b, h.s, by show (k, σ'.c + 1) :: σ'.v = (k, σ.c + 1) :: σ.v; rw [h.v, h.c], by show σ'.c + 1 = σ.c + 1; rw [h.c], by show σ'.fr.filter _ = σ.fr.filter _; rw [h.fr]⟩
theorem appendK_loc {E : Option El} {d : Nat} {x y : AV} (hh : HE σ σ') (hs : appendK E σ d x y some = some σ1) : ∃ σ1', appendK E σ' d x y some = some σ1' ∧ RelS (some d) σ σ' σ1 σ1' := by
 have hro : ∀ y, rows σ' y = rows σ y := rows_v hh.v
 have hcu : ∀ k w, σ'.cur k w = σ.cur k w := cur_v hh.v
 have hfo : ∀ k, σ'.fro k = σ.fro k := fun k => by unfold St.fro; rw [hh.fr]
 unfold appendK at hs ⊢
 cases E with
 | none => cases hs
 | some e0 =>
  cases x with
  | own k w e l =>
   dsimp only at hs ⊢
   try simp only [hcu, hfo]
   split at hs
   rotate_left
   ·cases hs
   rename_i h1
   try simp only [h1]
   have fin : ∀ m : List e.T, some ((σ.bump k).put (some d) (.own k (σ.bump k).c e (l ++ m))) = some σ1 → ∃ σ1', some ((σ'.bump k).put (some d) (.own k (σ'.bump k).c e (l ++ m))) = some σ1' ∧ RelS (some d) σ σ' σ1 σ1' := by
    intro m he
    simp only [Option.some.injEq] at he
    subst he
    refine ⟨_, rfl, ?_⟩
    rw [(hh.bump k).c]
    exact RelS.put (σ := σ) (σ' := σ') (hh.bump k) rfl rfl _ _
   have fin0 : some ((σ.bump k).put (some d) (.own k (σ.bump k).c e l)) = some σ1 → ∃ σ1', some ((σ'.bump k).put (some d) (.own k (σ'.bump k).c e l)) = some σ1' ∧ RelS (some d) σ σ' σ1 σ1' := by
    intro he
    simp only [Option.some.injEq] at he
    subst he
    refine ⟨_, rfl, ?_⟩
    rw [(hh.bump k).c]
    exact RelS.put (σ := σ) (σ' := σ') (hh.bump k) rfl rfl _ _
   have rest : (match rows σ y with
     | some ⟨e', m⟩ =>
      match El.cast e e' m with
      | some m => if l.length + m.length < maxRow then (let σ' := σ.bump k; some (σ'.put (some d) (.own k σ'.c e (l ++ m)))) else none
      | none => none
     | none => none) = some σ1 → ∃ σ1', (match rows σ' y with
     | some ⟨e', m⟩ =>
      match El.cast e e' m with
      | some m => if l.length + m.length < maxRow then (let σ' := σ'.bump k; some (σ'.put (some d) (.own k σ'.c e (l ++ m)))) else none
      | none => none
     | none => none) = some σ1' ∧ RelS (some d) σ σ' σ1 σ1' := by
    intro he
    rw [hro]
    split at he
    rotate_left
    ·cases he
    rename_i e' m hr
    split at he
    rotate_left
    ·cases he
    rename_i m' hc
    split at he
    rotate_left
    ·cases he
    rename_i hl
    simp only [hc, hl, if_true]
    exact fin _ he
   cases y <;> first | exact fin0 hs | exact rest hs
  | nil =>
   have rest : (match rows σ y with
     | some ⟨e', m⟩ =>
      match El.eqb e0 e' with
      | true => if m.length < maxRow then (let σ' := σ.fresh d; some (σ'.put (some d) (.own d σ'.c e' m))) else none
      | false => none
     | none => none) = some σ1 → ∃ σ1', (match rows σ' y with
     | some ⟨e', m⟩ =>
      match El.eqb e0 e' with
      | true => if m.length < maxRow then (let σ' := σ'.fresh d; some (σ'.put (some d) (.own d σ'.c e' m))) else none
      | false => none
     | none => none) = some σ1' ∧ RelS (some d) σ σ' σ1 σ1' := by
    intro he
    rw [hro]
    split at he
    rotate_left
    ·cases he
    rename_i e' m hr
    split at he
    rotate_left
    ·cases he
    rename_i hc
    split at he
    rotate_left
    ·cases he
    rename_i hl
    simp only [hc, hl, if_true]
    simp only [Option.some.injEq] at he
    subst he
    refine ⟨_, rfl, ?_⟩
    rw [(hh.fresh d).c]
    exact RelS.put (σ := σ) (σ' := σ') (hh.fresh d) rfl rfl _ _
   cases y with
   | nil =>
    simp only [Option.some.injEq] at hs
    subst hs
    exact ⟨_, rfl, RelS.put (σ := σ) (σ' := σ') hh rfl rfl _ _⟩
   | _ => exact rest hs
  | _ => cases hs
def isOpt (o : Oper) (σ : St) : Bool := match o.op with | .store _ p _ => (match getO σ.t p with | .opt .. => true | _ => false) | _ => false
theorem storeAV_loc {ty : Ty} {p x : AV} (hh : HE σ σ') (hn : ∀ k w e y i o, p ≠ .opt k w e y i o) (hs : storeAV σ ty p x = some σ1) : ∃ σ1', storeAV σ' ty p x = some σ1' ∧ RelS none σ σ' σ1 σ1' := by
 unfold storeAV at hs ⊢
 split at hs
 rotate_left
 ·cases hs
 rename_i h1 h2
 cases p with
 | rdr i =>
  simp only at hs ⊢
  split at hs
  rotate_left
  ·cases hs
  rename_i h3
  simp only [Option.some.injEq] at hs
  subst hs
  rw [hh.s]
  simp only [h3]
  exact ⟨_, rfl, RelS.same (σ := σ) (σ' := σ') ⟨hh.b, rfl, hh.v, hh.c, hh.fr⟩ rfl rfl⟩
 | lbox k i =>
  simp only at hs ⊢
  split at hs
  rotate_left
  ·cases hs
  rename_i h3
  simp only [Option.some.injEq] at hs
  subst hs
  rw [hh.b]
  simp only [h3]
  exact ⟨_, rfl, RelS.same (σ := σ) (σ' := σ') (hh.cons k _) rfl rfl⟩
 | opt k w e y i o => exact absurd rfl (hn _ _ _ _ _ _)
 | _ => simp at hs
theorem stepOp_loc (hTab : TabOK P tab) {N : Nat} {o : Oper} (hfine : opFine N o = true) (hO : Looks o σ σ') (hh : HE σ σ') (ho : isOpt o σ = false) (hs : stepOp tab call τ o σ some = some σ1) :
  ∃ σ1', stepOp tab call τ o σ' some = some σ1' ∧ RelS o.dst σ σ' σ1 σ1' := by
 by_cases hv : isVal o σ = true
 ·rw [stepOp_val hv] at hs
  rw [stepOp_val (by rw [isVal_congr hO]; exact hv), valOp_congr hTab hO (hh.agree _)]
  cases hval : valOp tab o σ with
  | none => rw [hval] at hs; cases hs
  | some x =>
   rw [hval] at hs
   simp only [Option.map_some, Option.some.injEq] at hs
   subst hs
   exact ⟨_, rfl, RelS.put (σ := σ) (σ' := σ') hh rfl rfl _ _⟩
 ·have hOo := hO
  obtain ⟨dst, op, type, pos, after, guard⟩ := o
  unfold Looks at hO
  cases op <;> simp only [Op.operands] at hO <;> simp only [isVal, not_true_eq_false] at hv <;> simp only [stepOp] at hs ⊢
  case alloc T =>
   split at hs
   rotate_left
   ·cases hs
   rename_i d
   split at hs
   rotate_left
   ·cases hs
   rename_i ty hb hT
   simp only [Option.some.injEq] at hs
   subst hs
   simp only [hh.b, hb, hT]
   exact ⟨_, rfl, RelS.put (σ := σ) (σ' := σ') (hh.cons d _) rfl rfl _ _⟩
  case box T x =>
   rw [hO x (by simp)]
   split at hs
   rotate_left
   ·cases hs
   rename_i d ty hT
   split at hs
   ·rename_i hg
    split at hs
    rotate_left
    ·cases hs
    rename_i hb hl hc
    simp only [Option.some.injEq] at hs
    subst hs
    simp only [hh.b, hb, hT, hg, hl, hc]
    exact ⟨_, rfl, RelS.put (σ := σ) (σ' := σ') (hh.cons d _) rfl rfl _ _⟩
   ·rename_i hg
    split at hs
    rotate_left
    ·cases hs
    rename_i hone
    simp only [Option.some.injEq] at hs
    subst hs
    try simp only [hT, hg, hone]
    exact ⟨_, rfl, RelS.put (σ := σ) (σ' := σ') hh rfl rfl _ _⟩
  case buildSlice T n parts =>
   have hm := map_congr_looks (σ := σ) (σ' := σ') (l := parts.toList) (f := (·.2)) (fun p hp => hO p.2 (by simp only [List.mem_map]; exact ⟨p, hp, rfl⟩)) (fun p a => a)
   simp only [hm]
   cases n with
   | zero =>
    simp only at hs ⊢
    split at hs
    rotate_left
    ·cases hs
    rename_i e he hp
    simp only [Option.some.injEq] at hs
    subst hs
    try simp only [he, hp]
    exact ⟨_, rfl, RelS.put (σ := σ) (σ' := σ') hh rfl rfl _ _⟩
   | succ n =>
    simp only at hs ⊢
    split at hs
    rotate_left
    ·cases hs
    rename_i e l τ1 he hf hd
    split at hs
    rotate_left
    ·cases hs
    rename_i xs hx
    simp only [Option.some.injEq] at hs
    subst hs
    obtain ⟨g1, g2⟩ := freezeAll_loc hf
    simp only [he, g2 σ' hh.v hh.fr, hd, hx]
    refine ⟨_, rfl, RelS.put (σ := σ) (σ' := σ') (τ := τ1) (τ' := { σ' with fr := τ1.fr }) ?_ (by rw [g1]) rfl _ _⟩
    rw [g1]
    exact hh.withFr _
  case store T p x =>
   rw [hO p (by simp), hO x (by simp)]
   split at hs
   rotate_left
   ·cases hs
   rename_i ty hT
   split at hs
   rotate_left
   ·cases hs
   rename_i τ1 hst
   simp only [Option.some.injEq] at hs
   subst hs
   have hd : dst = none := by simp [opFine] at hfine; exact hfine.2
   subst hd
   simp only [isOpt] at ho
   obtain ⟨σ1', r1, r2⟩ := storeAV_loc hh (fun k w e y i o he => by rw [he] at ho; cases ho) hst
   simp only [hT, r1]
   exact ⟨_, rfl, r2⟩
  case call cl =>
   cases hc : cl.callee with
   | invoke r m => simp only [hc] at hs; cases hs
   | builtin b =>
    have hA : ∀ x, x ∈ cl.args.toList → getO σ'.t x = getO σ.t x := fun x hx => hO x (by simp [Call.operands, hc]; simpa using hx)
    simp only [hc] at hs hv ⊢
    cases b <;> simp only [not_true_eq_false] at hv
    simp only [stepBuiltin] at hs ⊢
    split at hs
    rotate_left
    ·cases hs
    rename_i x y T T' d hx hT
    split at hs
    rotate_left
    ·cases hs
    rename_i hb
    rw [hx] at hA
    obtain ⟨σ1', r1, r2⟩ := appendK_loc hh hs
    try simp only [hx, hT, hb, hA x (by simp), hA y (by simp)]
    exact ⟨_, r1, r2⟩
   | value f =>
    have hA : ∀ x, x ∈ cl.args.toList → getO σ'.t x = getO σ.t x := fun x hx => hO x (by simp [Call.operands, hc]; exact .inr (by simpa using hx))
    have hm : cl.args.toList.map (getO σ'.t) = cl.args.toList.map (getO σ.t) := List.map_congr_left hA
    have hf : getO σ'.t f = getO σ.t f := hO f (by simp [Call.operands, hc])
    simp only [hc] at hs ⊢
    unfold stepCall at hs ⊢
    rw [hm]
    cases f with
    | func f => exact callK_loc hh hs
    | _ =>
     simp only at hs ⊢
     rw [hf]
     split at hs
     rotate_left
     ·cases hs
     rename_i hcl
     try simp only [hcl]
     exact callK_loc hh hs
end
end Go.AI
namespace Go.AI
section
variable {tab : Tab} {call : (τ : STy) → Nat → List AV → τ.T → Option (AV × τ.T)} {τ : STy} {σ σ' σ1 σ2 : St} {P : Program}
def Acc.reads : Acc → Bool
 | .none_ | .plc | .rdB _ | .rdF _ _ | .rdK _ => true
 | _ => false
theorem val_of_reads {o : Oper} (h : (accOf tab σ o).reads = true) : isVal o σ = true := by
 obtain ⟨dst, op, type, pos, after, guard⟩ := o
 cases op <;> simp only [accOf, isVal] at h ⊢
 case alloc T => cases dst <;> simp [Acc.reads] at h
 case box T x => cases dst <;> simp [Acc.reads] at h
 case buildSlice T n parts =>
  split at h
  ·assumption
  ·simp [Acc.reads] at h
 case store T p x =>
  cases hp : getO σ.t p <;> simp only [hp] at h <;> first | (simp [Acc.reads] at h; done) | skip
  cases hT : tab.ty T <;> simp only [hT] at h <;> simp [Acc.reads] at h
 case call cl =>
  cases hc : cl.callee with
  | invoke r m => simp [hc, Acc.reads] at h
  | builtin b =>
   simp only [hc] at h ⊢
   cases b <;> simp only [] at h ⊢
   simp [Acc.reads] at h
  | value f =>
   simp only [hc] at h
   cases f <;> simp only [] at h <;> first | (simp [Acc.reads] at h; done) | skip
   split at h <;> simp [Acc.reads] at h
theorem put_HE (σ : St) (d : Option Nat) (x : AV) : HE σ (σ.put d x) := ⟨fun k => by rw [put_b], by rw [put_s], by rw [put_v], by rw [put_c], by rw [put_fr]⟩
theorem gotK_put {h : Sh} (hn : ∀ τ, h ≠ .n τ) {τ1 : St} {d : Option Nat} {x : h.T} : gotK τ1 d h x some = some (τ1.put d (h.enc x)) := by
 unfold gotK
 cases h <;> first | rfl | exact absurd rfl (hn _)
theorem call_b {o : Oper} (hA : accOf tab σ o = .call) (hs : stepOp tab call τ o σ some = some σ1) : σ1.b = σ.b ∧ ∀ b', stepOp tab call τ o { σ with b := b' } some = some { σ1 with b := b' } := by
 obtain ⟨dst, op, type, pos, after, guard⟩ := o
 cases op <;> simp only [accOf] at hA <;> try (cases hA; done)
 case alloc T => cases dst <;> simp at hA
 case box T x => cases dst <;> simp at hA
 case buildSlice T n parts => split at hA <;> cases hA
 case store T p x => cases hp : getO σ.t p <;> simp only [hp] at hA <;> first | (cases hA; done) | (cases hT : tab.ty T <;> simp [hT] at hA)
 case load T p => cases hp : getO σ.t p <;> simp only [hp] at hA <;> first | (cases hA; done) | (cases hT : tab.ty T <;> simp [hT] at hA)
 case nilCheck x => cases hp : getO σ.t x <;> simp [hp] at hA
 case fieldAddr T x f => cases hp : getO σ.t x <;> simp [hp] at hA
 case slice T x lo hi mx => cases hp : getO σ.t x <;> simp [hp, accLst] at hA
 case indexAddr T x i => cases hp : getO σ.t x <;> simp [hp, accLst] at hA
 case call cl =>
  cases hc : cl.callee with
  | invoke r m => simp [hc] at hA
  | builtin b =>
   simp only [hc] at hA
   cases b <;> simp only [] at hA <;> try (cases hA; done)
   rcases ha : cl.args.toList with _ | ⟨x, _ | ⟨y, l⟩⟩ <;> simp only [ha] at hA <;> try (cases hA; done)
   cases hp : getO σ.t x <;> simp [hp, accLst] at hA
  | value f =>
   simp only [hc] at hA
   cases f <;> simp only [] at hA <;> try (cases hA; done)
   rename_i f
   split at hA <;> try (cases hA; done)
   rename_i hfz hn
   have hfz : (cl.args.toList.map (getO σ.t)).all AV.fz = true := by simpa [List.all_map] using hfz
   have hgot : ∀ {τ1 : St} {x : (tab.sh type).T} {σ1 : St} (b' : List (Nat × List AV)), gotK τ1 dst (tab.sh type) x some = some σ1 → σ1.b = τ1.b ∧ gotK { τ1 with b := b' } dst (tab.sh type) x some = some { σ1 with b := b' } := by
    intro τ1 x σ1 b' h
    rw [gotK_put (fun τ e => hn τ e)] at h ⊢
    simp only [Option.some.injEq] at h
    subst h
    exact ⟨put_b _ _ _, by cases dst <;> rfl⟩
   simp only [stepOp, hc, stepCall] at hs ⊢
   unfold callK at hs ⊢
   have hz : ∀ τ : St, freezeAll (cl.args.toList.map (getO σ.t)) τ = some (cl.args.toList.map (getO σ.t), τ) := fun τ => freezeAll_fz hfz
   simp only [hz, if_true] at hs ⊢
   generalize tab.sty f = τ0 at hs ⊢
   cases τ0 with
   | unit =>
    try simp only at hs ⊢
    obtain ⟨x, y, q, hcl, hsh, hK⟩ := shaped_spec hs
    refine ⟨(hgot [] hK).1, fun b' => ?_⟩
    simp only [hcl, shaped, Option.bind_some, hsh, Option.map_some]
    exact (hgot b' hK).2
   | prog =>
    try simp only at hs ⊢
    split at hs
    rotate_left
    ·cases hs
    rename_i he
    subst he
    split at hs
    rotate_left
    ·cases hs
    rename_i p hdec
    obtain ⟨x, y, q, hcl, hsh, hK⟩ := shaped_spec hs
    refine ⟨(hgot [] hK).1, fun b' => ?_⟩
    simp only [if_true, hdec, hcl, shaped, Option.bind_some, hsh, Option.map_some]
    exact (hgot b' hK).2
   | ref =>
    try simp only at hs ⊢
    split at hs
    rotate_left
    ·cases hs
    rename_i he
    subst he
    split at hs
    rotate_left
    ·cases hs
    rename_i p hdec
    obtain ⟨x, y, q, hcl, hsh, hK⟩ := shaped_spec hs
    refine ⟨(hgot [] hK).1, fun b' => ?_⟩
    simp only [if_true, hdec, hcl, shaped, Option.bind_some, hsh, Option.map_some]
    exact (hgot b' hK).2
def Chg (σ σ1 : St) : Acc → Prop
 | .al d => (∀ k, k ≠ d → getB σ1.b k = getB σ.b k) ∧ σ1.s = σ.s ∧ σ1.v = σ.v ∧ σ1.c = σ.c ∧ σ1.fr = σ.fr
 | .wrB d => (∀ k, k ≠ d → getB σ1.b k = getB σ.b k) ∧ σ1.s = σ.s ∧ σ1.v = σ.v ∧ σ1.c = σ.c ∧ σ1.fr = σ.fr
 | .wrF i n => (∀ k, getB σ1.b k = getB σ.b k) ∧ σ1.s.length = σ.s.length ∧ (∀ j, ¬ (i ≤ j ∧ j < i + n) → σ1.s.getD j .undef = σ.s.getD j .undef) ∧ σ1.v = σ.v ∧ σ1.c = σ.c ∧ σ1.fr = σ.fr
 | .frz => (∀ k, getB σ1.b k = getB σ.b k) ∧ σ1.s = σ.s ∧ σ1.v = σ.v ∧ σ1.c = σ.c
 | .call => σ1.b = σ.b
 | .big => True
 | .wrE _ => True
 | _ => HE σ σ1
theorem stepOp_chg (hTab : TabOK P tab) {o : Oper} (hs : stepOp tab call τ o σ some = some σ1) : Chg σ σ1 (accOf tab σ o) := by
 have hval : (accOf tab σ o).reads = true → HE σ σ1 := by
  intro h
  rw [stepOp_val (val_of_reads h)] at hs
  cases hv : valOp tab o σ with
  | none => rw [hv] at hs; cases hs
  | some x =>
   rw [hv] at hs
   simp only [Option.map_some, Option.some.injEq] at hs
   subst hs
   exact put_HE _ _ _
 by_cases hr : (accOf tab σ o).reads = true
 ·have := hval hr
  cases hA : accOf tab σ o <;> rw [hA] at hr <;> first | exact this | (simp [Acc.reads] at hr; done)
 clear hval
 by_cases hcA : accOf tab σ o = .call
 ·rw [hcA]; exact (call_b hcA hs).1
 obtain ⟨dst, op, type, pos, after, guard⟩ := o
 cases op <;> simp only [accOf] at hr ⊢ <;> try (exact absurd rfl hr)
 case alloc T =>
  simp only [stepOp] at hs
  split at hs
  rotate_left
  ·cases hs
  rename_i d
  split at hs
  rotate_left
  ·cases hs
  simp only [Option.some.injEq] at hs
  subst hs
  refine ⟨fun k hk => ?_, rfl, rfl, rfl, rfl⟩
  show getB ((d, _) :: σ.b) k = _
  rw [getB_cons, if_neg (Ne.symm hk)]
 case box T x =>
  simp only [stepOp] at hs
  split at hs
  rotate_left
  ·cases hs
  rename_i d ty hT
  split at hs
  ·split at hs
   rotate_left
   ·cases hs
   simp only [Option.some.injEq] at hs
   subst hs
   refine ⟨fun k hk => ?_, rfl, rfl, rfl, rfl⟩
   show getB ((d, _) :: σ.b) k = _
   rw [getB_cons, if_neg (Ne.symm hk)]
  ·split at hs
   rotate_left
   ·cases hs
   simp only [Option.some.injEq] at hs
   subst hs
   exact ⟨fun _ _ => rfl, rfl, rfl, rfl, rfl⟩
 case buildSlice T n parts =>
  split at hr
  ·exact absurd rfl hr
  ·simp only [stepOp] at hs
   cases n with
   | zero =>
    simp only at hs
    split at hs
    rotate_left
    ·cases hs
    simp only [Option.some.injEq] at hs
    subst hs
    rename_i _ hno _ _ _ _ hp
    rw [hp] at hno
    simp at hno
   | succ n =>
    simp only at hs
    split at hs
    rotate_left
    ·cases hs
    rename_i e l τ1 he hf hd
    split at hs
    rotate_left
    ·cases hs
    simp only [Option.some.injEq] at hs
    subst hs
    obtain ⟨g1, _⟩ := freezeAll_loc hf
    refine ⟨fun k => ?_, ?_, ?_, ?_⟩
    ·rw [put_b, g1]
    ·rw [put_s, g1]
    ·rw [put_v, g1]
    ·rw [put_c, g1]
 case load T p =>
  cases hp : getO σ.t p <;> simp only [hp] at hr ⊢ <;> first | exact absurd rfl hr | trivial | skip
  cases hT : tab.ty T <;> simp only [hT] at hr ⊢ <;> first | exact absurd rfl hr | trivial
 case store T p x =>
  simp only [stepOp] at hs
  split at hs
  rotate_left
  ·cases hs
  rename_i ty hT
  split at hs
  rotate_left
  ·cases hs
  rename_i τ1 hst
  simp only [Option.some.injEq] at hs
  subst hs
  cases hp : getO σ.t p <;> simp only [hp, hT] <;> first | trivial | skip
  ·rename_i i
   rw [hp] at hst
   unfold storeAV at hst
   split at hst
   rotate_left
   ·cases hst
   rename_i h1 h2
   have h1 := Nat.eq_of_beq_eq_true h1
   simp only at hst
   split at hst
   rotate_left
   ·cases hst
   rename_i h3
   have h3 := Nat.le_of_ble_eq_true h3
   simp only [Option.some.injEq] at hst
   subst hst
   refine ⟨fun _ => rfl, writeL_length (by omega), fun j hj => ?_, rfl, rfl, rfl⟩
   show (writeL σ.s i _).getD j _ = _
   unfold writeL
   rw [writeL_getD _ _ _ _ _ (by omega), if_neg (by omega)]
  ·rename_i k i
   rw [hp] at hst
   unfold storeAV at hst
   split at hst
   rotate_left
   ·cases hst
   simp only at hst
   split at hst
   rotate_left
   ·cases hst
   simp only [Option.some.injEq] at hst
   subst hst
   refine ⟨fun j hj => ?_, rfl, rfl, rfl, rfl⟩
   show getB ((k, _) :: σ.b) j = _
   rw [getB_cons, if_neg (Ne.symm hj)]
 case nilCheck x => cases hp : getO σ.t x <;> simp only [hp] at hr <;> exact absurd rfl hr
 case fieldAddr T x f => cases hp : getO σ.t x <;> simp only [hp] at hr <;> exact absurd rfl hr
 case slice T x lo hi mx => cases hp : getO σ.t x <;> simp only [hp, accLst] at hr <;> exact absurd rfl hr
 case indexAddr T x i => cases hp : getO σ.t x <;> simp only [hp, accLst] at hr <;> exact absurd rfl hr
 case call cl =>
  cases hc : cl.callee with
  | invoke r m => simp only [hc]; trivial
  | builtin b =>
   simp only [hc] at hr ⊢
   cases b <;> simp only [] at hr ⊢ <;> first | trivial | exact absurd rfl hr | skip
   rcases ha : cl.args.toList with _ | ⟨x, _ | ⟨y, l⟩⟩ <;> simp only [ha] at hr ⊢ <;> first | trivial | skip
   cases hp : getO σ.t x <;> simp only [hp, accLst] at hr <;> exact absurd rfl hr
  | value f =>
   simp only [hc]
   cases f <;> simp only [] <;> first | trivial | skip
   split
   ·trivial
   ·rename_i q1 q2
    exact absurd (by
     show (match cl.callee with | .builtin b => _ | .value f => _ | .invoke .. => Acc.big) = Acc.call
     rw [hc]
     simp only
     split
     ·rename_i e; exact absurd e (q2 _)
     ·rfl
     ·rename_i e; rw [q1] at e; cases e) hcA
   ·trivial
 all_goals trivial
end
end Go.AI
namespace Go.AI
section
variable {tab : Tab} {call : (τ : STy) → Nat → List AV → τ.T → Option (AV × τ.T)} {τ : STy} {σ σ' σ1 σ2 : St} {P : Program}
theorem agree_of_chg {A B : Acc} (hr : A.reads = true) (hap : Acc.apart A B = true ∨ Acc.apart B A = true) (h : Chg σ σ1 B) : Agree σ σ1 A := by
 cases A with
 | none_ => trivial
 | plc => trivial
 | rdB k =>
  cases B <;> first
   | exact h.b k
   | (simp [Acc.apart] at hap; done)
   | exact congrArg (fun b => getB b k) h
   | exact h.1 k (by rcases hap with hap | hap <;> · intro e; subst e; simp [Acc.apart] at hap)
   | exact h.1 k
 | rdF i n =>
  cases B <;> first
   | (simp [Acc.apart] at hap; done)
   | exact ⟨by rw [h.s], fun _ _ _ => by rw [h.s]⟩
   | exact ⟨by rw [h.2.1], fun _ _ _ => by rw [h.2.1]⟩
   | skip
  rename_i j m
  refine ⟨h.2.1, fun q h1 h2 => h.2.2.1 q ?_⟩
  have : i + n ≤ j ∨ j + m ≤ i := by
   rcases hap with hap | hap <;>
   ·simp only [Acc.apart, Bool.or_eq_true] at hap
    rcases hap with hap | hap
    ·exact .inl (Nat.le_of_ble_eq_true hap)
    ·exact .inr (Nat.le_of_ble_eq_true hap)
  omega
 | rdK k =>
  cases B <;> first
   | (simp [Acc.apart] at hap; done)
   | exact congrArg (fun v => getV v k) h.v
   | exact congrArg (fun v => getV v k) h.2.2.1
   | exact congrArg (fun v => getV v k) h.2.2.2.1
 | _ => simp [Acc.reads] at hr
structure Eff where
 bu : Option (Nat × List AV)
 su : Option (Nat × List AV)
 V : AV
def Eff.app (e : Eff) (d : Option Nat) (σ : St) : St :=
 { σ with b := (match e.bu with | some p => p :: σ.b | none => σ.b), s := (match e.su with | some p => writeL σ.s p.1 p.2 | none => σ.s) }.put d e.V
def AgreeW (σ σ' : St) : Acc → Prop
 | .al d => getB σ'.b d = getB σ.b d
 | .wrB d => getB σ'.b d = getB σ.b d
 | .wrF _ _ => σ'.s.length = σ.s.length
 | _ => False
def EffOf (o : Oper) (σ : St) (e : Eff) : Acc → Prop
 | .al d => o.dst = some d ∧ e.su = none ∧ ∀ p, e.bu = some p → p.1 = d
 | .wrB d => o.dst = none ∧ e.su = none ∧ ∃ l, e.bu = some (d, l)
 | .wrF i n => o.dst = none ∧ e.bu = none ∧ ∃ l, e.su = some (i, l) ∧ l.length = n ∧ i + n ≤ σ.s.length
 | _ => False
def Acc.writes : Acc → Bool
 | .al _ | .wrB _ | .wrF _ _ => true
 | _ => false
theorem eff_ok {N : Nat} {o : Oper} (hfine : opFine N o = true) (hA : (accOf tab σ o).writes = true) (hs : stepOp tab call τ o σ some = some σ1) :
  ∃ e, EffOf o σ e (accOf tab σ o) ∧ ∀ σ', Looks o σ σ' → AgreeW σ σ' (accOf tab σ o) → stepOp tab call τ o σ' some = some (e.app o.dst σ') := by
 obtain ⟨dst, op, type, pos, after, guard⟩ := o
 cases op <;> simp only [accOf] at hA ⊢ <;> try (simp [Acc.writes] at hA; done)
 case alloc T =>
  simp only [stepOp] at hs
  split at hs
  rotate_left
  ·cases hs
  rename_i d
  split at hs
  rotate_left
  ·cases hs
  rename_i ty hb hT
  refine ⟨⟨some (d, ty.zero), none, .lbox d 0⟩, ⟨rfl, rfl, fun p hp => by cases hp; rfl⟩, fun σ' hO hW => ?_⟩
  have hb' : getB σ'.b d = [] := hW.trans hb
  simp only [stepOp, hb', hT]
  rfl
 case box T x =>
  simp only [stepOp] at hs
  split at hs
  rotate_left
  ·cases hs
  rename_i d ty hT
  split at hs
  ·rename_i hg
   split at hs
   rotate_left
   ·cases hs
   rename_i hb hl hc
   refine ⟨⟨some (d, (getO σ.t x).cells), none, .lbox d 0⟩, ⟨rfl, rfl, fun p hp => by cases hp; rfl⟩, fun σ' hO hW => ?_⟩
   have hx : getO σ'.t x = getO σ.t x := hO x (by simp [Op.operands])
   have hb' : getB σ'.b d = [] := hW.trans hb
   simp only [stepOp, hx, hb', hT, hg, hl, hc]
   rfl
  ·rename_i hg
   split at hs
   rotate_left
   ·cases hs
   rename_i hone
   refine ⟨⟨none, none, .cbox (getO σ.t x)⟩, ⟨rfl, rfl, fun p hp => by cases hp⟩, fun σ' hO hW => ?_⟩
   have hx : getO σ'.t x = getO σ.t x := hO x (by simp [Op.operands])
   simp only [stepOp, hx, hT, hg, hone]
   rfl
 case buildSlice T n parts => split at hA <;> simp [Acc.writes] at hA
 case store T p x =>
  have hdn : dst = none := by simp [opFine] at hfine; exact hfine.2
  subst hdn
  simp only [stepOp] at hs
  split at hs
  rotate_left
  ·cases hs
  rename_i ty hT
  split at hs
  rotate_left
  ·cases hs
  rename_i τ1 hst
  simp only [Option.some.injEq] at hs
  subst hs
  have hlook : ∀ σ' : St, Looks ⟨none, .store T p x, type, pos, after, guard⟩ σ σ' → getO σ'.t p = getO σ.t p ∧ getO σ'.t x = getO σ.t x := fun σ' hO => ⟨hO p (by simp [Op.operands]), hO x (by simp [Op.operands])⟩
  cases hp : getO σ.t p <;> simp only [hp, hT] at hA hst ⊢ <;> try (simp [Acc.writes] at hA; done)
  ·rename_i i
   unfold storeAV at hst
   split at hst
   rotate_left
   ·cases hst
   rename_i h1 h2
   have h1' := Nat.eq_of_beq_eq_true h1
   simp only at hst
   split at hst
   rotate_left
   ·cases hst
   rename_i h3
   have h3' := Nat.le_of_ble_eq_true h3
   refine ⟨⟨none, some (i, (getO σ.t x).cells), .undef⟩, ⟨rfl, rfl, _, rfl, h1', h3'⟩, fun σ' hO hW => ?_⟩
   obtain ⟨e1, e2⟩ := hlook σ' hO
   have hW : σ'.s.length = σ.s.length := hW
   simp only [stepOp, hT, e1, e2, hp, storeAV, h1, h2, hW, h3]
   rfl
  ·rename_i k i
   unfold storeAV at hst
   split at hst
   rotate_left
   ·cases hst
   rename_i h1 h2
   simp only at hst
   split at hst
   rotate_left
   ·cases hst
   rename_i h3
   refine ⟨⟨some (k, writeL (getB σ.b k) i (getO σ.t x).cells), none, .undef⟩, ⟨rfl, rfl, _, rfl⟩, fun σ' hO hW => ?_⟩
   obtain ⟨e1, e2⟩ := hlook σ' hO
   have hW : getB σ'.b k = getB σ.b k := hW
   simp only [stepOp, hT, e1, e2, hp, storeAV, h1, h2, hW, h3]
   rfl
 case load T p => cases hp : getO σ.t p <;> simp only [hp] at hA <;> first | (simp [Acc.writes] at hA; done) | (cases hT : tab.ty T <;> simp [hT, Acc.writes] at hA)
 case nilCheck x => cases hp : getO σ.t x <;> simp [hp, Acc.writes] at hA
 case fieldAddr T x f => cases hp : getO σ.t x <;> simp [hp, Acc.writes] at hA
 case slice T x lo hi mx => cases hp : getO σ.t x <;> simp [hp, accLst, Acc.writes] at hA
 case indexAddr T x i => cases hp : getO σ.t x <;> simp [hp, accLst, Acc.writes] at hA
 case call cl =>
  cases hc : cl.callee with
  | invoke r m => simp [hc, Acc.writes] at hA
  | builtin b =>
   simp only [hc] at hA
   cases b <;> simp only [] at hA <;> try (simp [Acc.writes] at hA; done)
   rcases ha : cl.args.toList with _ | ⟨x, _ | ⟨y, l⟩⟩ <;> simp only [ha] at hA <;> try (simp [Acc.writes] at hA; done)
   cases hp : getO σ.t x <;> simp [hp, accLst, Acc.writes] at hA
  | value f =>
   simp only [hc] at hA
   cases f <;> simp only [] at hA <;> try (simp [Acc.writes] at hA; done)
   split at hA <;> simp [Acc.writes] at hA
theorem Eff.t (e : Eff) (d : Option Nat) (σ : St) (i : Nat) : getT (e.app d σ).t i = if d = some i then e.V else getT σ.t i := getT_put _ _ _ _
theorem Eff.b (e : Eff) (d : Option Nat) (σ : St) (k : Nat) : getB (e.app d σ).b k = match e.bu with | some p => if p.1 = k then p.2 else getB σ.b k | none => getB σ.b k := by
 unfold Eff.app
 rw [put_b]
 cases e.bu with
 | none => rfl
 | some p => obtain ⟨j, l⟩ := p; exact getB_cons _ _ _ _
theorem Eff.s (e : Eff) (d : Option Nat) (σ : St) : (e.app d σ).s = match e.su with | some p => writeL σ.s p.1 p.2 | none => σ.s := by unfold Eff.app; rw [put_s]
theorem Eff.rest (e : Eff) (d : Option Nat) (σ : St) : (e.app d σ).v = σ.v ∧ (e.app d σ).c = σ.c ∧ (e.app d σ).fr = σ.fr := by unfold Eff.app; rw [put_v, put_c, put_fr]; exact ⟨rfl, rfl, rfl⟩
theorem writeL_comm {l m n : List AV} {i j : Nat} (h1 : i + m.length ≤ l.length) (h2 : j + n.length ≤ l.length) (h : i + m.length ≤ j ∨ j + n.length ≤ i) : writeL (writeL l i m) j n = writeL (writeL l j n) i m := by
 apply List.ext_getElem?
 intro q
 unfold writeL
 rw [get?_write _ n j q (by rw [show (l.take i ++ (m ++ l.drop (i + m.length))).length = l.length from writeL_length h1]; exact h2), get?_write l m i q h1, get?_write _ m i q (by rw [show (l.take j ++ (n ++ l.drop (j + n.length))).length = l.length from writeL_length h2]; exact h1), get?_write l n j q h2]
 split <;> split <;> first | rfl | omega
end
end Go.AI
namespace Go.AI
section
variable {tab : Tab} {call : (τ : STy) → Nat → List AV → τ.T → Option (AV × τ.T)} {τ : STy} {σ σ' σ1 σ2 : St} {P : Program} {all : List Oper}
def gd (all : List Oper) (o : Oper) (σ : St) : Option Bool :=
 match o.guard with
 | none => some true
 | some (j, w) =>
  match dstAt all j with
  | some d => match getT σ.t d with | .bool x => some (x == w) | .skip => some false | _ => none
  | none => none
def gstep (tab : Tab) (call : (τ : STy) → Nat → List AV → τ.T → Option (AV × τ.T)) (τ : STy) (all : List Oper) (o : Oper) (σ : St) : Option St :=
 match gd all o σ with
 | some true => stepOp tab call τ o σ some
 | some false => some (σ.put o.dst .skip)
 | none => none
def gacc (tab : Tab) (all : List Oper) (o : Oper) (σ : St) : Acc := match gd all o σ with | some true => accOf tab σ o | _ => .none_
def gIsVal (all : List Oper) (o : Oper) (σ : St) : Bool := match gd all o σ with | some true => isVal o σ | _ => true
def gVal (tab : Tab) (all : List Oper) (o : Oper) (σ : St) : Option AV := match gd all o σ with | some true => valOp tab o σ | some false => some .skip | none => none
def gIsOpt (all : List Oper) (o : Oper) (σ : St) : Bool := match gd all o σ with | some true => isOpt o σ | _ => false
def GL (all : List Oper) (o : Oper) (σ σ' : St) : Prop := ∀ i, i ∈ looks all o → getT σ'.t i = getT σ.t i
theorem GL.looks {o : Oper} (h : GL all o σ σ') : Looks o σ σ' := by
 intro x hx
 cases x with
 | tmp i =>
  refine h i ?_
  unfold AI.looks
  exact List.mem_append_right _ (List.mem_filterMap.2 ⟨.tmp i, hx, rfl⟩)
 | _ => rfl
theorem gd_congr {o : Oper} (h : GL all o σ σ') : gd all o σ' = gd all o σ := by
 unfold gd
 cases hg : o.guard with
 | none => rfl
 | some p =>
  obtain ⟨j, w⟩ := p
  simp only
  cases hd : dstAt all j with
  | none => rfl
  | some d =>
   simp only
   rw [h d (by unfold AI.looks; rw [hg]; simp [hd])]
theorem gacc_congr {o : Oper} (h : GL all o σ σ') : gacc tab all o σ' = gacc tab all o σ := by
 unfold gacc
 rw [gd_congr h, acc_congr h.looks]
theorem gIsVal_congr {o : Oper} (h : GL all o σ σ') : gIsVal all o σ' = gIsVal all o σ := by
 unfold gIsVal
 rw [gd_congr h, isVal_congr h.looks]
theorem gstep_val {o : Oper} (hv : gIsVal all o σ = true) : gstep tab call τ all o σ = (gVal tab all o σ).map (σ.put o.dst) := by
 unfold gIsVal at hv
 unfold gstep gVal
 rcases hg : gd all o σ with _ | (_ | _) <;> simp only [hg] at hv ⊢
 ·rfl
 ·rfl
 ·exact stepOp_val hv
theorem gVal_congr (hTab : TabOK P tab) {o : Oper} (h : GL all o σ σ') (hr : Agree σ σ' (gacc tab all o σ)) : gVal tab all o σ' = gVal tab all o σ := by
 unfold gVal gacc at *
 rw [gd_congr h]
 rcases hg : gd all o σ with _ | (_ | _) <;> simp only [hg] at hr ⊢
 exact valOp_congr hTab h.looks hr
theorem gstep_loc (hTab : TabOK P tab) {N : Nat} {o : Oper} (hfine : opFine N o = true) (h : GL all o σ σ') (hh : HE σ σ') (ho : gIsOpt all o σ = false) (hs : gstep tab call τ all o σ = some σ1) :
  ∃ σ1', gstep tab call τ all o σ' = some σ1' ∧ RelS o.dst σ σ' σ1 σ1' := by
 unfold gstep gIsOpt at *
 rw [gd_congr h]
 rcases hg : gd all o σ with _ | (_ | _) <;> simp only [hg] at hs ho ⊢
 ·cases hs
 ·simp only [Option.some.injEq] at hs
  subst hs
  exact ⟨_, rfl, RelS.put (σ := σ) (σ' := σ') hh rfl rfl _ _⟩
 ·exact stepOp_loc hTab hfine h.looks hh ho hs
theorem gstep_chg (hTab : TabOK P tab) {o : Oper} (hs : gstep tab call τ all o σ = some σ1) : Chg σ σ1 (gacc tab all o σ) := by
 unfold gstep gacc at *
 rcases hg : gd all o σ with _ | (_ | _) <;> simp only [hg] at hs ⊢
 ·cases hs
 ·simp only [Option.some.injEq] at hs
  subst hs
  exact put_HE _ _ _
 ·exact stepOp_chg hTab hs
theorem gval_of_reads {o : Oper} (h : (gacc tab all o σ).reads = true) : gIsVal all o σ = true := by
 unfold gacc gIsVal at *
 rcases hg : gd all o σ with _ | (_ | _) <;> simp only [hg] at h ⊢
 exact val_of_reads h
theorem geff_ok {N : Nat} {o : Oper} (hfine : opFine N o = true) (hA : (gacc tab all o σ).writes = true) (hs : gstep tab call τ all o σ = some σ1) :
  ∃ e, EffOf o σ e (gacc tab all o σ) ∧ ∀ σ', GL all o σ σ' → AgreeW σ σ' (gacc tab all o σ) → gstep tab call τ all o σ' = some (e.app o.dst σ') := by
 unfold gstep gacc at *
 rcases hg : gd all o σ with _ | (_ | _) <;> simp only [hg] at hs hA ⊢
 ·cases hs
 ·simp [Acc.writes] at hA
 ·obtain ⟨e, h1, h2⟩ := eff_ok hfine hA hs
  exact ⟨e, h1, fun σ' hL hW => by simp only [gd_congr hL, hg]; exact h2 σ' hL.looks hW⟩
theorem gcall_b {o : Oper} (hA : gacc tab all o σ = .call) (hs : gstep tab call τ all o σ = some σ1) : σ1.b = σ.b ∧ ∀ b', gstep tab call τ all o { σ with b := b' } = some { σ1 with b := b' } := by
 have hgd : ∀ b', gd all o { σ with b := b' } = gd all o σ := fun _ => rfl
 unfold gstep gacc at *
 simp only [hgd]
 rcases hg : gd all o σ with _ | (_ | _) <;> simp only [hg] at hs hA ⊢
 ·cases hs
 ·cases hA
 ·exact call_b hA hs
theorem isOpt_acc {o : Oper} : gIsOpt all o σ = true ↔ ∃ k, gacc tab all o σ = .wrE k := by
 unfold gIsOpt gacc
 rcases hg : gd all o σ with _ | (_ | _)
 ·simp
 ·simp
 ·dsimp only
  clear hg
  obtain ⟨dst, op, type, pos, after, guard⟩ := o
  cases op <;> simp only [isOpt, accOf]
  case store T p x => cases hp : getO σ.t p <;> simp [hp] <;> (try (cases hT : tab.ty T <;> simp [hT]))
  case alloc T => cases dst <;> simp
  case box T x => cases dst <;> simp
  case buildSlice T n parts => split <;> simp
  case load T p => cases hp : getO σ.t p <;> simp [hp] <;> (try (cases hT : tab.ty T <;> simp [hT]))
  case nilCheck x => cases hp : getO σ.t x <;> simp [hp]
  case fieldAddr T x f => cases hp : getO σ.t x <;> simp [hp]
  case slice T x lo hi mx => cases hp : getO σ.t x <;> simp [hp, accLst]
  case indexAddr T x i => cases hp : getO σ.t x <;> simp [hp, accLst]
  case call cl =>
   cases hc : cl.callee with
   | invoke r m => simp [hc]
   | builtin b =>
    simp only [hc]
    cases b <;> simp
    rcases ha : cl.args.toList with _ | ⟨x, _ | ⟨y, l⟩⟩ <;> simp [ha]
    cases hp : getO σ.t x <;> simp [hp, accLst]
   | value f =>
    simp only [hc]
    cases f <;> simp
    split <;> simp
  all_goals simp
theorem parts2_spec {x y : Oper} (h : parts2 all x y = true) : (∀ d, x.dst = some d → d ∉ looks all y) ∧ (∀ d, y.dst = some d → d ∉ looks all x) ∧ ∀ d, x.dst = some d → y.dst ≠ some d := by
 unfold parts2 at h
 cases hx : x.dst <;> cases hy : y.dst <;> simp only [hx, hy] at h
 ·exact ⟨fun d h => (by cases h), fun d h => (by cases h), fun d h => (by cases h)⟩
 ·rename_i e
  refine ⟨fun d h => (by cases h), fun d hd => ?_, fun d h => (by cases h)⟩
  cases hd; simpa using h
 ·rename_i d
  refine ⟨fun d' hd => ?_, fun d h => (by cases h), fun d' hd => (by simp)⟩
  cases hd; simpa using h
 ·rename_i d e
  simp only [Bool.and_eq_true, Bool.not_eq_true'] at h
  refine ⟨fun d' hd => ?_, fun d' hd => ?_, fun d' hd => ?_⟩
  ·cases hd; simpa using h.2.1
  ·cases hd; simpa using h.2.2
  ·cases hd
   intro e'
   cases e'
   simp at h
theorem comm_rd_l (hTab : TabOK P tab) {N : Nat} {x y : Oper} (fx : opFine N x = true) (fy : opFine N y = true) (hp : parts2 all x y = true) (hx : gstep tab call τ all x σ = some σ1) (hy : gstep tab call τ all y σ1 = some σ2)
  (hv : gIsVal all x σ = true) (ho : gIsOpt all y σ1 = false) (hag : ∀ σ1', gstep tab call τ all y σ = some σ1' → Agree σ σ1' (gacc tab all x σ)) :
  ∃ σ1' σ2', gstep tab call τ all y σ = some σ1' ∧ gstep tab call τ all x σ1' = some σ2' ∧ Eqv σ2 σ2' ∧ gacc tab all y σ = gacc tab all y σ1 ∧ gacc tab all x σ1' = gacc tab all x σ := by
 obtain ⟨p1, p2, p3⟩ := parts2_spec hp
 rw [gstep_val hv] at hx
 cases hval : gVal tab all x σ with
 | none => rw [hval] at hx; cases hx
 | some v =>
  rw [hval] at hx
  simp only [Option.map_some, Option.some.injEq] at hx
  subst hx
  have hLy : GL all y (σ.put x.dst v) σ := by
   intro i hi
   rw [getT_put, if_neg (fun e => p1 i e hi)]
  obtain ⟨σ1', g1, g2⟩ := gstep_loc hTab fy hLy (put_HE σ x.dst v).symm ho hy
  have hLx : GL all x σ σ1' := by
   intro i hi
   rw [g2.t, if_neg (fun e => p2 i e hi)]
  have hvx := gVal_congr hTab hLx (hag σ1' g1)
  have hx' : gstep tab call τ all x σ1' = some (σ1'.put x.dst v) := by
   rw [gstep_val (by rw [gIsVal_congr hLx]; exact hv), hvx, hval]; rfl
  refine ⟨σ1', _, g1, hx', ⟨fun i => ?_, ?_⟩, gacc_congr hLy, gacc_congr hLx⟩
  ·rw [getT_put, g2.t]
   split
   ·rename_i e
    rw [g2.o i (p3 i e), getT_put, if_pos e]
   ·rename_i e
    split
    ·rfl
    ·rename_i e2
     rw [g2.o i e2, getT_put, if_neg e]
  ·exact g2.h.trans (put_HE _ _ _)
theorem comm_rd_r (hTab : TabOK P tab) {N : Nat} {x y : Oper} (fx : opFine N x = true) (fy : opFine N y = true) (hp : parts2 all x y = true) (hx : gstep tab call τ all x σ = some σ1) (hy : gstep tab call τ all y σ1 = some σ2)
  (hv : gIsVal all y σ1 = true) (ho : gIsOpt all x σ = false) (hag : Agree σ1 σ (gacc tab all y σ1)) :
  ∃ σ1' σ2', gstep tab call τ all y σ = some σ1' ∧ gstep tab call τ all x σ1' = some σ2' ∧ Eqv σ2 σ2' ∧ gacc tab all y σ = gacc tab all y σ1 ∧ gacc tab all x σ1' = gacc tab all x σ := by
 obtain ⟨p1, p2, p3⟩ := parts2_spec hp
 have hself := gstep_loc hTab fx (σ' := σ) (fun i _ => rfl) (HE.refl σ) ho hx
 obtain ⟨_, _, hR⟩ := hself
 have hLy : GL all y σ1 σ := by
  intro i hi
  rw [hR.o i (fun e => p1 i e hi)]
 rw [gstep_val hv] at hy
 cases hval : gVal tab all y σ1 with
 | none => rw [hval] at hy; cases hy
 | some v =>
  rw [hval] at hy
  simp only [Option.map_some, Option.some.injEq] at hy
  subst hy
  have hvy := gVal_congr hTab hLy hag
  have hy' : gstep tab call τ all y σ = some (σ.put y.dst v) := by
   rw [gstep_val (by rw [gIsVal_congr hLy]; exact hv), hvy, hval]; rfl
  have hLx : GL all x σ (σ.put y.dst v) := by
   intro i hi
   rw [getT_put, if_neg (fun e => p2 i e hi)]
  obtain ⟨σ2', g1, g2⟩ := gstep_loc hTab fx hLx (put_HE σ y.dst v) ho hx
  refine ⟨_, σ2', hy', g1, ⟨fun i => ?_, ?_⟩, gacc_congr hLy, gacc_congr hLx⟩
  ·rw [g2.t, getT_put, getT_put]
   split
   ·rename_i e
    rw [if_neg (p3 i e)]
   ·rename_i e
    split
    ·rfl
    ·rw [hR.o i e]
  ·exact (put_HE σ1 y.dst v).symm.trans g2.h
theorem comm_wr {N : Nat} {x y : Oper} (fx : opFine N x = true) (fy : opFine N y = true) (hp : parts2 all x y = true) (hap : Acc.apart (gacc tab all x σ) (gacc tab all y σ1) = true) (hx : gstep tab call τ all x σ = some σ1) (hy : gstep tab call τ all y σ1 = some σ2)
  (hA : (gacc tab all x σ).writes = true) (hB : (gacc tab all y σ1).writes = true) :
  ∃ σ1' σ2', gstep tab call τ all y σ = some σ1' ∧ gstep tab call τ all x σ1' = some σ2' ∧ Eqv σ2 σ2' ∧ gacc tab all y σ = gacc tab all y σ1 ∧ gacc tab all x σ1' = gacc tab all x σ := by
 obtain ⟨p1, p2, p3⟩ := parts2_spec hp
 obtain ⟨ex, x1, x2⟩ := geff_ok fx hA hx
 obtain ⟨ey, y1, y2⟩ := geff_ok fy hB hy
 have hself : AgreeW σ σ (gacc tab all x σ) := by cases h : gacc tab all x σ <;> rw [h] at hA <;> first | rfl | (simp [Acc.writes] at hA; done)
 have e1 := x2 σ (fun i _ => rfl) hself
 rw [hx] at e1
 simp only [Option.some.injEq] at e1
 have hself2 : AgreeW σ1 σ1 (gacc tab all y σ1) := by cases h : gacc tab all y σ1 <;> rw [h] at hB <;> first | rfl | (simp [Acc.writes] at hB; done)
 have e2 := y2 σ1 (fun i _ => rfl) hself2
 rw [hy] at e2
 simp only [Option.some.injEq] at e2
 have hLy : GL all y σ1 σ := by
  intro i hi
  rw [e1, Eff.t, if_neg (fun e => p1 i e hi)]
 have hbx : ∀ k, (∀ p, ex.bu = some p → p.1 ≠ k) → getB σ1.b k = getB σ.b k := by
  intro k hk
  rw [e1, Eff.b]
  cases h : ex.bu with
  | none => rfl
  | some p => simp only; rw [if_neg (hk p h)]
 have hsx : σ1.s.length = σ.s.length := by
  rw [e1, Eff.s]
  cases h : ex.su with
  | none => rfl
  | some p =>
   simp only
   cases hAx : gacc tab all x σ <;> rw [hAx] at x1 hA <;> first | (simp [Acc.writes] at hA; done) | skip
   ·rw [x1.2.1] at h; cases h
   ·rw [x1.2.1] at h; cases h
   ·obtain ⟨_, _, l, g1, g2, g3⟩ := x1
    rw [h] at g1; cases g1
    exact writeL_length (by simp only; omega)
 -- what the two variables are
 have hkeys : ∀ p q, ex.bu = some p → ey.bu = some q → p.1 ≠ q.1 := by
  intro p q h1 h2 e
  cases hAx : gacc tab all x σ <;> rw [hAx] at x1 hA hap <;> first | (simp [Acc.writes] at hA; done) | skip
  ·have a1 := x1.2.2 p h1
   cases hAy : gacc tab all y σ1 <;> rw [hAy] at y1 hB hap <;> first | (simp [Acc.writes] at hB; done) | skip
   ·have a2 := y1.2.2 q h2
    rw [← a1, ← a2, e] at hap; simp [Acc.apart] at hap
   ·obtain ⟨_, _, l, a2⟩ := y1
    rw [h2] at a2; cases a2
    rw [← a1, e] at hap; simp [Acc.apart] at hap
   ·rw [y1.2.1] at h2; cases h2
  ·obtain ⟨_, _, l, a1⟩ := x1
   rw [h1] at a1; cases a1
   cases hAy : gacc tab all y σ1 <;> rw [hAy] at y1 hB hap <;> first | (simp [Acc.writes] at hB; done) | skip
   ·have a2 := y1.2.2 q h2
    rw [← a2, ← e] at hap; simp [Acc.apart] at hap
   ·obtain ⟨_, _, l', a2⟩ := y1
    rw [h2] at a2; cases a2
    simp only at e
    rw [e] at hap; simp [Acc.apart] at hap
   ·rw [y1.2.1] at h2; cases h2
  ·rw [x1.2.1] at h1; cases h1
 have hWy : AgreeW σ1 σ (gacc tab all y σ1) := by
  cases hAy : gacc tab all y σ1 <;> rw [hAy] at y1 hB hap <;> first | (simp [Acc.writes] at hB; done) | skip
  ·rename_i d
   refine (hbx d fun p hp => ?_).symm
   intro e
   cases hAx : gacc tab all x σ <;> rw [hAx] at x1 hA hap <;> first | (simp [Acc.writes] at hA; done) | skip
   ·have a1 := x1.2.2 p hp
    rw [← a1, e] at hap; simp [Acc.apart] at hap
   ·obtain ⟨_, _, l, a1⟩ := x1
    rw [hp] at a1; cases a1
    simp only at e
    rw [e] at hap; simp [Acc.apart] at hap
   ·rw [x1.2.1] at hp; cases hp
  ·rename_i d
   refine (hbx d fun p hp => ?_).symm
   obtain ⟨_, _, l, a2⟩ := y1
   exact hkeys p (d, l) hp a2
  ·exact hsx.symm
 have hy' := y2 σ hLy hWy
 have hLx : GL all x σ (ey.app y.dst σ) := by
  intro i hi
  rw [Eff.t, if_neg (fun e => p2 i e hi)]
 have hsy : ey.su = none ∨ ∃ p, ey.su = some p ∧ p.1 + p.2.length ≤ σ.s.length := by
  cases hAy : gacc tab all y σ1 <;> rw [hAy] at y1 hB <;> first | (simp [Acc.writes] at hB; done) | skip
  ·exact .inl y1.2.1
  ·exact .inl y1.2.1
  ·obtain ⟨_, _, l, g1, g2, g3⟩ := y1
   exact .inr ⟨_, g1, by rw [hsx] at g3; simp only; omega⟩
 have hWx : AgreeW σ (ey.app y.dst σ) (gacc tab all x σ) := by
  have hby : ∀ k, (∀ q, ey.bu = some q → q.1 ≠ k) → getB (ey.app y.dst σ).b k = getB σ.b k := by
   intro k hk
   rw [Eff.b]
   cases h : ey.bu with
   | none => rfl
   | some p => simp only; rw [if_neg (hk p h)]
  cases hAx : gacc tab all x σ <;> rw [hAx] at x1 hA hap <;> first | (simp [Acc.writes] at hA; done) | skip
  ·rename_i d
   refine hby d fun q hq e => ?_
   cases hAy : gacc tab all y σ1 <;> rw [hAy] at y1 hB hap <;> first | (simp [Acc.writes] at hB; done) | skip
   ·have a2 := y1.2.2 q hq
    rw [← a2, e] at hap; simp [Acc.apart] at hap
   ·obtain ⟨_, _, l, a2⟩ := y1
    rw [hq] at a2; cases a2
    simp only at e
    rw [e] at hap; simp [Acc.apart] at hap
   ·rw [y1.2.1] at hq; cases hq
  ·rename_i d
   obtain ⟨_, _, l, a1⟩ := x1
   exact hby d fun q hq => (hkeys (d, l) q a1 hq).symm
  ·show (ey.app y.dst σ).s.length = σ.s.length
   rw [Eff.s]
   rcases hsy with h | ⟨p, h, h2⟩
   ·rw [h]
   ·rw [h]; exact writeL_length h2
 have hx' := x2 _ hLx hWx
 refine ⟨_, _, hy', hx', ⟨fun i => ?_, ⟨fun k => ?_, ?_, ?_, ?_, ?_⟩⟩, gacc_congr hLy, gacc_congr hLx⟩
 ·rw [e2, Eff.t, Eff.t, Eff.t, e1, Eff.t]
  split
  ·rename_i e
   rw [if_neg (p3 i e)]
  ·rfl
 ·rw [e2, Eff.b, Eff.b, Eff.b, e1, Eff.b]
  cases h1 : ex.bu with
  | none => rfl
  | some p =>
   cases h2 : ey.bu with
   | none => rfl
   | some q =>
    simp only
    split
    ·rename_i e
     rw [if_neg (fun e' => hkeys p q h1 h2 (e.trans e'.symm))]
    ·rfl
 ·rw [e2, Eff.s, Eff.s, Eff.s, e1, Eff.s]
  cases h1 : ex.su with
  | none => rfl
  | some p =>
   cases h2 : ey.su with
   | none => rfl
   | some q =>
    simp only
    cases hAx : gacc tab all x σ <;> rw [hAx] at x1 hA hap <;> first | (simp [Acc.writes] at hA; done) | skip
    ·rw [x1.2.1] at h1; cases h1
    ·rw [x1.2.1] at h1; cases h1
    cases hAy : gacc tab all y σ1 <;> rw [hAy] at y1 hB hap <;> first | (simp [Acc.writes] at hB; done) | skip
    ·rw [y1.2.1] at h2; cases h2
    ·rw [y1.2.1] at h2; cases h2
    obtain ⟨_, _, l, a1, a2, a3⟩ := x1
    obtain ⟨_, _, m, b1, b2, b3⟩ := y1
    rw [h1] at a1; cases a1
    rw [h2] at b1; cases b1
    rw [hsx] at b3
    simp only [Acc.apart, Bool.or_eq_true] at hap
    refine writeL_comm (by simp only; omega) (by simp only; omega) ?_
    rcases hap with hap | hap
    ·have := Nat.le_of_ble_eq_true hap; right; simp only; omega
    ·have := Nat.le_of_ble_eq_true hap; left; simp only; omega
 ·rw [e2, (Eff.rest _ _ _).1, (Eff.rest _ _ _).1, (Eff.rest _ _ _).1, e1, (Eff.rest _ _ _).1]
 ·rw [e2, (Eff.rest _ _ _).2.1, (Eff.rest _ _ _).2.1, (Eff.rest _ _ _).2.1, e1, (Eff.rest _ _ _).2.1]
 ·rw [e2, (Eff.rest _ _ _).2.2, (Eff.rest _ _ _).2.2, (Eff.rest _ _ _).2.2, e1, (Eff.rest _ _ _).2.2]
end
end Go.AI
namespace Go.AI
section
variable {tab : Tab} {call : (τ : STy) → Nat → List AV → τ.T → Option (AV × τ.T)} {τ : STy} {σ σ' σ1 σ2 : St} {P : Program} {all : List Oper}
theorem notOpt {o : Oper} (h : ∀ k, gacc tab all o σ ≠ .wrE k) : gIsOpt all o σ = false := by
 cases hg : gIsOpt all o σ with
 | false => rfl
 | true => obtain ⟨k, hk⟩ := isOpt_acc.1 hg; exact absurd hk (h k)
theorem comm_al_call (hTab : TabOK P tab) {N d : Nat} {x y : Oper} (fx : opFine N x = true) (fy : opFine N y = true) (hp : parts2 all x y = true) (hx : gstep tab call τ all x σ = some σ1) (hy : gstep tab call τ all y σ1 = some σ2)
  (hA : gacc tab all x σ = .al d) (hB : gacc tab all y σ1 = .call) :
  ∃ σ1' σ2', gstep tab call τ all y σ = some σ1' ∧ gstep tab call τ all x σ1' = some σ2' ∧ Eqv σ2 σ2' ∧ gacc tab all y σ = gacc tab all y σ1 ∧ gacc tab all x σ1' = gacc tab all x σ := by
 obtain ⟨p1, p2, p3⟩ := parts2_spec hp
 obtain ⟨ex, x1, x2⟩ := geff_ok fx (by rw [hA]; rfl) hx
 rw [hA] at x1 x2
 obtain ⟨xd, xs, xb⟩ := x1
 have e1 := x2 σ (fun i _ => rfl) rfl
 rw [hx] at e1
 simp only [Option.some.injEq] at e1
 obtain ⟨c1, c2⟩ := gcall_b hB hy
 have c3 := c2 σ.b
 have hoy : gIsOpt all y { σ1 with b := σ.b } = false := notOpt (tab := tab) (fun k => by
  have hg : gacc tab all y { σ1 with b := σ.b } = gacc tab all y σ1 := gacc_congr (fun i _ => rfl)
  rw [hg, hB]; simp)
 have hLy : GL all y σ1 σ := by
  intro i hi
  rw [e1, Eff.t, if_neg (fun e => p1 i e hi)]
 have hs1 : σ1.s = σ.s := by rw [e1, Eff.s, xs]
 have hr1 := Eff.rest ex x.dst σ
 rw [← e1] at hr1
 obtain ⟨σ1', g1, g2⟩ := gstep_loc hTab fy (σ := { σ1 with b := σ.b }) (σ' := σ) hLy ⟨fun _ => rfl, hs1.symm, hr1.1.symm, hr1.2.1.symm, hr1.2.2.symm⟩ hoy c3
 have hLx : GL all x σ σ1' := by
  intro i hi
  rw [g2.t, if_neg (fun e => p2 i e hi)]
 have hx' := x2 σ1' hLx (g2.h.b d)
 refine ⟨σ1', _, g1, hx', ⟨fun i => ?_, ⟨fun k => ?_, ?_, ?_, ?_, ?_⟩⟩, gacc_congr hLy, gacc_congr hLx⟩
 ·have ho : ∀ i, y.dst ≠ some i → getT σ2.t i = getT σ1.t i := g2.o
  have ht : ∀ i, getT σ1'.t i = if y.dst = some i then getT σ2.t i else getT σ.t i := g2.t
  rw [Eff.t, ht]
  split
  ·rename_i e
   rw [ho i (p3 i e), e1, Eff.t, if_pos e]
  ·rename_i e
   split
   ·rfl
   ·rename_i e2
    rw [ho i e2, e1, Eff.t, if_neg e]
 ·have hb : ∀ k, getB σ1'.b k = getB σ.b k := g2.h.b
  rw [Eff.b, c1, e1, Eff.b]
  cases ex.bu with
  | none => exact hb k
  | some p => simp only; rw [hb]
 ·rw [Eff.s, xs]; exact g2.h.s
 ·rw [(Eff.rest _ _ _).1]; exact g2.h.v
 ·rw [(Eff.rest _ _ _).2.1]; exact g2.h.c
 ·rw [(Eff.rest _ _ _).2.2]; exact g2.h.fr
theorem comm_call_al (hTab : TabOK P tab) {N d : Nat} {x y : Oper} (fx : opFine N x = true) (fy : opFine N y = true) (hp : parts2 all x y = true) (hx : gstep tab call τ all x σ = some σ1) (hy : gstep tab call τ all y σ1 = some σ2)
  (hA : gacc tab all x σ = .call) (hB : gacc tab all y σ1 = .al d) :
  ∃ σ1' σ2', gstep tab call τ all y σ = some σ1' ∧ gstep tab call τ all x σ1' = some σ2' ∧ Eqv σ2 σ2' ∧ gacc tab all y σ = gacc tab all y σ1 ∧ gacc tab all x σ1' = gacc tab all x σ := by
 obtain ⟨p1, p2, p3⟩ := parts2_spec hp
 obtain ⟨ey, y1, y2⟩ := geff_ok fy (by rw [hB]; rfl) hy
 rw [hB] at y1 y2
 obtain ⟨yd, ys, yb⟩ := y1
 have e2 := y2 σ1 (fun i _ => rfl) rfl
 rw [hy] at e2
 simp only [Option.some.injEq] at e2
 obtain ⟨c1, c2⟩ := gcall_b hA hx
 have hox : gIsOpt all x σ = false := notOpt (tab := tab) (fun k => by rw [hA]; simp)
 obtain ⟨_, _, hR⟩ := gstep_loc hTab fx (σ' := σ) (fun i _ => rfl) (HE.refl σ) hox hx
 have hLy : GL all y σ1 σ := by
  intro i hi
  rw [hR.o i (fun e => p1 i e hi)]
 have hy' := y2 σ hLy (by show getB σ.b d = getB σ1.b d; rw [c1])
 have hLx : GL all x σ (ey.app y.dst σ) := by
  intro i hi
  rw [Eff.t, if_neg (fun e => p2 i e hi)]
 have hr1 := Eff.rest ey y.dst σ
 have c3 := c2 (ey.app y.dst σ).b
 obtain ⟨σ2', g1, g2⟩ := gstep_loc hTab fx (σ := { σ with b := (ey.app y.dst σ).b }) (σ' := ey.app y.dst σ) hLx ⟨fun _ => rfl, by rw [Eff.s, ys], hr1.1, hr1.2.1, hr1.2.2⟩ hox c3
 refine ⟨_, σ2', hy', g1, ⟨fun i => ?_, ⟨fun k => ?_, ?_, ?_, ?_, ?_⟩⟩, gacc_congr hLy, gacc_congr hLx⟩
 ·have ht : ∀ i, getT σ2'.t i = if x.dst = some i then getT σ1.t i else getT (ey.app y.dst σ).t i := g2.t
  rw [ht, e2, Eff.t, Eff.t]
  split
  ·rename_i e
   rw [if_neg (p3 i e)]
  ·rename_i e
   split
   ·rfl
   ·rw [hR.o i e]
 ·have hb : ∀ k, getB σ2'.b k = getB (ey.app y.dst σ).b k := g2.h.b
  rw [hb, e2, Eff.b, Eff.b, c1]
 ·rw [e2, Eff.s, ys]; exact g2.h.s
 ·rw [e2, (Eff.rest _ _ _).1]; exact g2.h.v
 ·rw [e2, (Eff.rest _ _ _).2.1]; exact g2.h.c
 ·rw [e2, (Eff.rest _ _ _).2.2]; exact g2.h.fr
def mapS (k w : Nat) (e : El) (i : Nat) (z : e.T) (σ : St) : St :=
 { σ with t := σ.t.map (fun p => (p.1, setEl k w e i z p.2)), b := σ.b.map (fun p => (p.1, p.2.map (setEl1 k w e i z))), s := σ.s.map (setEl1 k w e i z) }
theorem opt_form {N : Nat} {o : Oper} (hfine : opFine N o = true) (ho : gIsOpt all o σ = true) (hs : gstep tab call τ all o σ = some σ1) :
  o.dst = none ∧ ∃ k w e i z, σ1 = mapS k w e i z σ ∧ ∀ σ', GL all o σ σ' → σ'.v = σ.v → σ'.fr = σ.fr → gstep tab call τ all o σ' = some (mapS k w e i z σ') := by
 unfold gIsOpt gstep at *
 rcases hg : gd all o σ with _ | (_ | _) <;> simp only [hg] at ho hs
 ·cases ho
 ·cases ho
 ·have hgl : ∀ σ', GL all o σ σ' → gd all o σ' = some true := fun σ' h => by rw [gd_congr h, hg]
  clear hg
  have hlooks : ∀ σ', GL all o σ σ' → Looks o σ σ' := fun σ' h => h.looks
  obtain ⟨dst, op, type, pos, after, guard⟩ := o
  cases op <;> simp only [isOpt] at ho <;> try (cases ho; done)
  rename_i T p x
  have hdn : dst = none := by simp [opFine] at hfine; exact hfine.2
  subst hdn
  refine ⟨rfl, ?_⟩
  split at ho
  rotate_left
  ·cases ho
  rename_i k w e y i j hpt
  simp only [stepOp] at hs
  split at hs
  rotate_left
  ·cases hs
  rename_i ty hT
  split at hs
  rotate_left
  ·cases hs
  rename_i τ1 hst
  simp only [Option.some.injEq] at hs
  subst hs
  rw [hpt] at hst
  unfold storeAV at hst
  split at hst
  rotate_left
  ·cases hst
  rename_i h1 h2
  simp only at hst
  split at hst
  rotate_left
  ·cases hst
  rename_i h3 h4 h5 h6
  split at hst
  rotate_left
  ·cases hst
  rename_i z hz
  simp only [Option.some.injEq] at hst
  refine ⟨k, w, e, i.toNat, z, hst.symm, fun σ' hL hv hf => ?_⟩
  have hO := hlooks σ' hL
  have e1 : getO σ'.t p = getO σ.t p := hO p (by simp [Op.operands])
  have e2 : getO σ'.t x = getO σ.t x := hO x (by simp [Op.operands])
  have h3' : σ'.cur k w = true := by rw [cur_v hv]; exact h3
  have h4' : σ'.fro k = false := by unfold St.fro at h4 ⊢; rw [hf]; exact h4
  simp only [hgl σ' hL, stepOp, hT, e1, e2, hpt, storeAV, h1, h2, h3', h4', h5, h6, hz]
  rfl
theorem setEl_rdr {k w : Nat} {e : El} {i : Nat} {z : e.T} {a : AV} {j : Nat} (h : setEl k w e i z a = .rdr j) : a = .rdr j := by
 cases a with
 | rdr n => exact h
 | own k' w' e' l =>
  simp only [setEl, setEl1] at h
  split at h <;> try (cases h; done)
  split at h <;> cases h
 | vw k' w' e' l => simp only [setEl, setEl1] at h; split at h <;> cases h
 | vpt k' w' e' x o => simp only [setEl, setEl1] at h; split at h <;> cases h
 | opt k' w' e' x j o => simp only [setEl, setEl1] at h; split at h <;> cases h
 | _ => simp [setEl, setEl1] at h
theorem setEl_const {k w : Nat} {e : El} {i : Nat} {z : e.T} (v : Value) : setEl k w e i z (ofConst v) = ofConst v := by
 unfold ofConst
 split <;> try rfl
 rename_i cs
 simp only [setEl, List.map_map]
 congr 1
 apply List.map_congr_left
 intro v hv
 simp only [Function.comp]
 split <;> rfl
theorem getO_mapS {k w : Nat} {e : El} {i : Nat} {z : e.T} (x : Operand) : getO (mapS k w e i z σ).t x = setEl k w e i z (getO σ.t x) := by
 cases x with
 | tmp j => exact getT_map _ rfl _ _
 | const v => exact (setEl_const v).symm
 | _ => rfl
theorem setEl_cells {k w : Nat} {e : El} {i : Nat} {z : e.T} (a : AV) : (setEl k w e i z a).cells = a.cells.map (setEl1 k w e i z) := by
 have h1 : ∀ a l, setEl1 k w e i z a = .agg l → a = .agg l := by
  intro a l h
  cases a with
  | own k' w' e' l' =>
   simp only [setEl1] at h
   split at h <;> try (cases h; done)
   split at h <;> cases h
  | vw k' w' e' l => simp only [setEl1] at h; split at h <;> cases h
  | vpt k' w' e' x o => simp only [setEl1] at h; split at h <;> cases h
  | opt k' w' e' x j o => simp only [setEl1] at h; split at h <;> cases h
  | agg l' => exact h
  | _ => simp [setEl1] at h
 cases a with
 | agg l => rfl
 | own k' w' e' l =>
  simp only [setEl, AV.cells, List.map_cons, List.map_nil]
  cases hq : setEl1 k w e i z (.own k' w' e' l) <;> first | rfl | (have := h1 _ _ hq; cases this)
 | vw k' w' e' l =>
  simp only [setEl, AV.cells, List.map_cons, List.map_nil]
  cases hq : setEl1 k w e i z (.vw k' w' e' l) <;> first | rfl | (have := h1 _ _ hq; cases this)
 | vpt k' w' e' x o =>
  simp only [setEl, AV.cells, List.map_cons, List.map_nil]
  cases hq : setEl1 k w e i z (.vpt k' w' e' x o) <;> first | rfl | (have := h1 _ _ hq; cases this)
 | opt k' w' e' x j o =>
  simp only [setEl, AV.cells, List.map_cons, List.map_nil]
  cases hq : setEl1 k w e i z (.opt k' w' e' x j o) <;> first | rfl | (have := h1 _ _ hq; cases this)
 | _ => rfl
theorem setEl1_cell {k w : Nat} {e : El} {i : Nat} {z : e.T} {a : AV} (h : (setEl1 k w e i z a).cell = true) : a.cell = true := by
 cases a with
 | own k' w' e' l => rfl
 | vw k' w' e' l => simp only [setEl1] at h; split at h <;> simp [AV.cell, AV.one] at h
 | vpt k' w' e' x o => simp only [setEl1] at h; split at h <;> simp [AV.cell, AV.one] at h
 | opt k' w' e' x j o => simp only [setEl1] at h; split at h <;> simp [AV.cell, AV.one] at h
 | _ => exact h
theorem writeL_map (f : AV → AV) (l m : List AV) (i : Nat) : (writeL l i m).map f = writeL (l.map f) i (m.map f) := by simp [writeL]
theorem comm_opt {N kk : Nat} {x y : Oper} (fx : opFine N x = true) (fy : opFine N y = true) (hp : parts2 all x y = true) (hx : gstep tab call τ all x σ = some σ1) (hy : gstep tab call τ all y σ1 = some σ2)
  (hA : gacc tab all x σ = .wrE kk) (hB : gacc tab all y σ1 = .plc ∨ ∃ i n, gacc tab all y σ1 = .wrF i n) (hgy : gd all y σ = gd all y σ1) :
  ∃ σ1' σ2', gstep tab call τ all y σ = some σ1' ∧ gstep tab call τ all x σ1' = some σ2' ∧ Eqv σ2 σ2' ∧ gacc tab all y σ = gacc tab all y σ1 ∧ gacc tab all x σ1' = gacc tab all x σ := by
 obtain ⟨p1, p2, p3⟩ := parts2_spec hp
 obtain ⟨hxd, k, w, e, i, z, e1, hx2⟩ := opt_form fx (isOpt_acc.2 ⟨kk, hA⟩) hx
 subst e1
 -- the second step's operation
 have hgd : gd all y (mapS k w e i z σ) = some true := by
  cases h : gd all y (mapS k w e i z σ) with
  | none => unfold gacc at hB; rw [h] at hB; simp at hB
  | some q => cases q with
   | true => rfl
   | false => unfold gacc at hB; rw [h] at hB; simp at hB
 have hgs : gd all y σ = some true := by rw [hgy, hgd]
 unfold gstep at hy ⊢
 unfold gacc at hB ⊢
 rw [hgd] at hy hB
 simp only [hgs, hgd]
 simp only at hy hB
 have hgx : ∀ (s : List AV), gd all x { σ with s := s } = gd all x σ := fun _ => rfl
 have hxg : gd all x σ = some true := by
  cases h : gd all x σ with
  | none => unfold gacc at hA; rw [h] at hA; simp at hA
  | some q => cases q with
   | true => rfl
   | false => unfold gacc at hA; rw [h] at hA; simp at hA
 have hplc : ∀ {o : Option Nat} {n : Nat}, y.dst = o → GL all x σ (σ.put o (.rdr n)) := by
  intro o n ho i hi
  rw [getT_put, if_neg (fun e => p2 i (ho.trans e) hi)]
 have hput : ∀ (o : Option Nat) (n : Nat), mapS k w e i z (σ.put o (.rdr n)) = (mapS k w e i z σ).put o (.rdr n) := by
  intro o n
  cases o <;> rfl
 have fin : ∀ n, y.dst = y.dst → σ2 = (mapS k w e i z σ).put y.dst (.rdr n) → ∃ σ2', (match gd all x (σ.put y.dst (.rdr n)) with
   | some true => stepOp tab call τ x (σ.put y.dst (.rdr n)) some
   | some false => some ((σ.put y.dst (.rdr n)).put x.dst .skip)
   | none => none) = some σ2' ∧ Eqv σ2 σ2' := by
  intro n _ h2
  have := hx2 _ (hplc (n := n) rfl) (put_v _ _ _) (put_fr _ _ _)
  unfold gstep at this
  exact ⟨_, this, by rw [h2, hput]; exact Eqv.refl _⟩
 obtain ⟨dst, op, type, pos, after, guard⟩ := y
 cases op <;> simp only [accOf] at hB ⊢ <;> try (simp at hB; done)
 case alloc T => cases dst <;> simp at hB
 case box T x => cases dst <;> simp at hB
 case buildSlice T n parts => split at hB <;> simp at hB
 case load T p => cases hp : getO (mapS k w e i z σ).t p <;> simp only [hp] at hB <;> first | (simp at hB; done) | (cases hT : tab.ty T <;> simp [hT] at hB)
 case slice T x lo hi mx => cases hp : getO (mapS k w e i z σ).t x <;> simp [hp, accLst] at hB
 case indexAddr T xx ii => cases hp : getO (mapS k w e i z σ).t xx <;> simp [hp, accLst] at hB
 case call cl =>
  cases hc : cl.callee with
  | invoke r m => simp [hc] at hB
  | builtin b =>
   simp only [hc] at hB
   cases b <;> simp at hB
   rcases ha : cl.args.toList with _ | ⟨x, _ | ⟨y, l⟩⟩ <;> simp [ha] at hB
   cases hp : getO (mapS k w e i z σ).t x <;> simp [hp, accLst] at hB
  | value f =>
   simp only [hc] at hB
   cases f <;> simp at hB
   split at hB <;> simp at hB
 case nilCheck q =>
  cases hq : getO (mapS k w e i z σ).t q <;> simp only [hq] at hB ⊢ <;> try (simp at hB; done)
  rename_i n
  have h0 := setEl_rdr ((getO_mapS (σ := σ) q).symm.trans hq)
  simp only [stepOp, hq, addPt, Option.some.injEq] at hy
  simp only [stepOp, h0, addPt]
  obtain ⟨σ2', r1, r2⟩ := fin (n + 0) rfl hy.symm
  exact ⟨_, σ2', rfl, r1, r2, trivial, by
   have := gacc_congr (tab := tab) (hplc (n := n + 0) rfl)
   unfold gacc at this
   exact this⟩
 case fieldAddr T q f =>
  cases hq : getO (mapS k w e i z σ).t q <;> simp only [hq] at hB ⊢ <;> try (simp at hB; done)
  rename_i n
  have h0 := setEl_rdr ((getO_mapS (σ := σ) q).symm.trans hq)
  simp only [stepOp] at hy
  split at hy
  rotate_left
  ·cases hy
  rename_i ty hT
  split at hy
  rotate_left
  ·cases hy
  rename_i m hm
  simp only [hq, addPt, Option.some.injEq] at hy
  simp only [stepOp, hT, hm, h0, addPt]
  obtain ⟨σ2', r1, r2⟩ := fin (n + m) rfl hy.symm
  exact ⟨_, σ2', rfl, r1, r2, trivial, by
   have := gacc_congr (tab := tab) (hplc (n := n + m) rfl)
   unfold gacc at this
   exact this⟩
 case store T q v =>
  cases hq : getO (mapS k w e i z σ).t q <;> simp only [hq] at hB ⊢ <;> try (simp at hB; done)
  rename_i n
  have h0 := setEl_rdr ((getO_mapS (σ := σ) q).symm.trans hq)
  simp only [stepOp] at hy
  split at hy
  rotate_left
  ·cases hy
  rename_i ty hT
  split at hy
  rotate_left
  ·cases hy
  rename_i τ1 hst
  simp only [Option.some.injEq] at hy
  subst hy
  have hdn : dst = none := by simp [opFine] at fy; exact fy.2
  subst hdn
  rw [hq] at hst
  unfold storeAV at hst
  split at hst
  rotate_left
  ·cases hst
  rename_i h1 h2
  simp only at hst
  split at hst
  rotate_left
  ·cases hst
  rename_i h3
  simp only [Option.some.injEq] at hst
  rw [getO_mapS, setEl_cells] at h1 h2
  have h1' : Nat.beq (getO σ.t v).cells.length ty.zero.length = true := by simpa using h1
  have h2' : (getO σ.t v).cells.all AV.cell = true := by
   rw [List.all_eq_true] at h2 ⊢
   intro a ha
   exact setEl1_cell (h2 _ (List.mem_map.2 ⟨a, ha, rfl⟩))
  have h3' : Nat.ble (n + ty.zero.length) σ.s.length = true := by
   have : (mapS k w e i z σ).s.length = σ.s.length := by simp [mapS]
   rw [this] at h3; exact h3
  simp only [stepOp, hT, h0, storeAV, h1', h2', h3']
  have hx3 := hx2 { σ with s := writeL σ.s n (getO σ.t v).cells } (fun _ _ => rfl) rfl rfl
  unfold gstep at hx3
  refine ⟨_, _, rfl, hx3, ?_, trivial, ?_⟩
  ·rw [← hst]
   have : mapS k w e i z { σ with s := writeL σ.s n (getO σ.t v).cells } = { mapS k w e i z σ with s := writeL (mapS k w e i z σ).s n (getO (mapS k w e i z σ).t v).cells } := by
    rw [getO_mapS, setEl_cells]
    unfold mapS
    simp only [writeL_map]
   rw [this]
   exact Eqv.refl _
  ·rw [hgx, hxg]
theorem comm (hTab : TabOK P tab) {N : Nat} {x y : Oper} (fx : opFine N x = true) (fy : opFine N y = true) (hp : parts2 all x y = true) (hap : Acc.apart (gacc tab all x σ) (gacc tab all y σ1) = true) (hx : gstep tab call τ all x σ = some σ1) (hy : gstep tab call τ all y σ1 = some σ2)
  (hgy : gIsOpt all x σ = true → gd all y σ = gd all y σ1) :
  ∃ σ1' σ2', gstep tab call τ all y σ = some σ1' ∧ gstep tab call τ all x σ1' = some σ2' ∧ Eqv σ2 σ2' ∧ gacc tab all y σ = gacc tab all y σ1 ∧ gacc tab all x σ1' = gacc tab all x σ := by
 by_cases hxo : gIsOpt all x σ = true
 ·obtain ⟨k, hA⟩ := isOpt_acc (tab := tab).1 hxo
  refine comm_opt fx fy hp hx hy hA ?_ (hgy hxo)
  rw [hA] at hap
  cases hB : gacc tab all y σ1 <;> rw [hB] at hap <;> simp [Acc.apart] at hap ⊢
 have hxo : gIsOpt all x σ = false := by simpa using hxo
 have hyo : gIsOpt all y σ1 = false := notOpt (tab := tab) (fun k hk => by
  rw [hk] at hap
  cases hA : gacc tab all x σ <;> rw [hA] at hap <;> simp [Acc.apart] at hap)
 have hself := gstep_loc hTab fx (σ' := σ) (fun i _ => rfl) (HE.refl σ) hxo hx
 obtain ⟨_, _, hR⟩ := hself
 obtain ⟨p1, p2, p3⟩ := parts2_spec hp
 have hLy : GL all y σ1 σ := by
  intro i hi
  rw [hR.o i (fun e => p1 i e hi)]
 have hay : gacc tab all y σ = gacc tab all y σ1 := gacc_congr hLy
 by_cases hr1 : (gacc tab all x σ).reads = true
 ·refine comm_rd_l hTab fx fy hp hx hy (gval_of_reads hr1) hyo fun σ1' g1 => ?_
  have := gstep_chg hTab g1
  rw [hay] at this
  exact agree_of_chg hr1 (.inl hap) this
 by_cases hr2 : (gacc tab all y σ1).reads = true
 ·refine comm_rd_r hTab fx fy hp hx hy (gval_of_reads hr2) hxo ?_
  have h1 := agree_of_chg hr2 (.inr hap) (gstep_chg hTab hx)
  cases hB : gacc tab all y σ1 <;> rw [hB] at h1 hr2 <;> first
   | trivial
   | exact h1.symm
   | exact ⟨h1.1.symm, fun j a b => (h1.2 j a b).symm⟩
   | (simp [Acc.reads] at hr2; done)
 by_cases hw1 : (gacc tab all x σ).writes = true
 ·by_cases hw2 : (gacc tab all y σ1).writes = true
  ·exact comm_wr fx fy hp hap hx hy hw1 hw2
  ·cases hA : gacc tab all x σ <;> rw [hA] at hap hr1 hw1 <;> first | (simp [Acc.writes] at hw1; done) | skip
   all_goals cases hB : gacc tab all y σ1 <;> rw [hB] at hap hr2 hw2 <;> first | (simp [Acc.apart] at hap; done) | exact absurd rfl hr2 | exact absurd rfl hw2 | skip
   have := comm_al_call hTab fx fy hp hx hy hA hB
   rw [hA, hB] at this
   exact this
 ·cases hA : gacc tab all x σ <;> rw [hA] at hap hr1 hw1 <;> first | exact absurd rfl hr1 | exact absurd rfl hw1 | exact absurd (isOpt_acc (tab := tab).2 ⟨_, hA⟩) (by rw [hxo]; simp) | skip
  all_goals cases hB : gacc tab all y σ1 <;> rw [hB] at hap hr2 <;> first | (simp [Acc.apart] at hap; done) | exact absurd rfl hr2 | skip
  have := comm_call_al hTab fx fy hp hx hy hA hB
  rw [hA, hB] at this
  exact this
end
end Go.AI
namespace Go.AI
section
variable {tab : Tab} {call : (τ : STy) → Nat → List AV → τ.T → Option (AV × τ.T)} {τ : STy} {σ σ' σ1 σ2 : St} {P : Program} {all : List Oper}
theorem setEl_bool {k w : Nat} {e : El} {i : Nat} {z : e.T} {a : AV} : (∀ b, setEl k w e i z a = .bool b ↔ a = .bool b) ∧ (setEl k w e i z a = .skip ↔ a = .skip) := by
 cases a with
 | own k' w' e' l =>
  simp only [setEl, setEl1]
  split
  ·split <;> simp
  ·simp
  ·simp
 | vw k' w' e' l => simp only [setEl, setEl1]; split <;> simp
 | vpt k' w' e' x o => simp only [setEl, setEl1]; split <;> simp
 | opt k' w' e' x j o => simp only [setEl, setEl1]; split <;> simp
 | _ => simp [setEl, setEl1]
theorem gd_mapS {k w : Nat} {e : El} {i : Nat} {z : e.T} (o : Oper) : gd all o (mapS k w e i z σ) = gd all o σ := by
 unfold gd
 cases o.guard with
 | none => rfl
 | some p =>
  obtain ⟨j, q⟩ := p
  simp only
  cases dstAt all j with
  | none => rfl
  | some d =>
   simp only
   have h : getT (mapS k w e i z σ).t d = setEl k w e i z (getT σ.t d) := getT_map _ rfl _ _
   rw [h]
   obtain ⟨h1, h2⟩ := setEl_bool (k := k) (w := w) (e := e) (i := i) (z := z) (a := getT σ.t d)
   cases hd : getT σ.t d with
   | bool b => rw [hd] at h1; rw [(h1 b).2 rfl]
   | skip => rw [hd] at h2; rw [h2.2 rfl]
   | _ =>
    rw [hd] at h1 h2
    split
    ·rename_i b hb; have := (h1 b).1 hb; cases this
    ·rename_i hb; have := h2.1 hb; cases this
    ·rfl
theorem gstep_eqv (hTab : TabOK P tab) {N : Nat} {o : Oper} (hfine : opFine N o = true) (he : Eqv σ σ') (hs : gstep tab call τ all o σ = some σ1) : ∃ σ1', gstep tab call τ all o σ' = some σ1' ∧ Eqv σ1 σ1' := by
 have hL : GL all o σ σ' := fun i _ => he.t i
 by_cases ho : gIsOpt all o σ = true
 ·obtain ⟨hd, k, w, e, i, z, rfl, h2⟩ := opt_form hfine ho hs
  refine ⟨_, h2 σ' hL he.h.v he.h.fr, ⟨fun j => ?_, ⟨fun j => ?_, ?_, he.h.v, he.h.c, he.h.fr⟩⟩⟩
  ·show getT (σ'.t.map fun p => (p.1, setEl k w e i z p.2)) j = getT (σ.t.map fun p => (p.1, setEl k w e i z p.2)) j
   rw [getT_map _ rfl, getT_map _ rfl, he.t]
  ·show getB (σ'.b.map fun p => (p.1, p.2.map (setEl1 k w e i z))) j = getB (σ.b.map fun p => (p.1, p.2.map (setEl1 k w e i z))) j
   rw [getB_map, getB_map, he.h.b]
  ·show σ'.s.map _ = σ.s.map _
   rw [he.h.s]
 ·obtain ⟨σ1', g1, g2⟩ := gstep_loc hTab hfine hL he.h (by simpa using ho) hs
  refine ⟨σ1', g1, ⟨fun i => ?_, g2.h⟩⟩
  rw [g2.t]
  split
  ·rfl
  ·rename_i h; rw [he.t, g2.o i h]
inductive RunL (tab : Tab) (call : (τ : STy) → Nat → List AV → τ.T → Option (AV × τ.T)) (τ : STy) (all : List Oper) : List (Oper × Acc) → St → St → Prop
 | nil (σ : St) : RunL tab call τ all [] σ σ
 | cons (q : Oper × Acc) (r : List (Oper × Acc)) (σ σ1 σe : St) (h1 : gstep tab call τ all q.1 σ = some σ1) (h2 : gacc tab all q.1 σ = q.2) (h3 : RunL tab call τ all r σ1 σe) : RunL tab call τ all (q :: r) σ σe
theorem RunL.eqv (hTab : TabOK P tab) {N : Nat} {l : List (Oper × Acc)} (hfine : ∀ q, q ∈ l → opFine N q.1 = true) {σe : St} (h : RunL tab call τ all l σ σe) : ∀ {σ'}, Eqv σ σ' → ∃ σe', RunL tab call τ all l σ' σe' ∧ Eqv σe σe' := by
 induction h with
 | nil σ => exact fun he => ⟨_, .nil _, he⟩
 | cons q r σ σ1 σe h1 h2 h3 ih =>
  intro σ' he
  obtain ⟨σ1', g1, g2⟩ := gstep_eqv hTab (hfine q (by simp)) he h1
  obtain ⟨σe', g3, g4⟩ := ih (fun q hq => hfine q (by simp [hq])) g2
  exact ⟨σe', .cons q r σ' σ1' σe' g1 (by rw [gacc_congr (fun i _ => he.t i)]; exact h2) g3, g4⟩
theorem RunL.bubble (hTab : TabOK P tab) {N : Nat} {q : Oper × Acc} {l2 : List (Oper × Acc)} : ∀ {l1 : List (Oper × Acc)} {σ σe : St}, (∀ p, p ∈ l1 ++ q :: l2 → opFine N p.1 = true) → (∀ p, p ∈ l1 → Acc.apart p.2 q.2 = true ∧ parts2 all p.1 q.1 = true) →
  RunL tab call τ all (l1 ++ q :: l2) σ σe → ∃ σe', RunL tab call τ all (q :: (l1 ++ l2)) σ σe' ∧ Eqv σe σe' := by
 intro l1
 induction l1 with
 | nil => exact fun _ _ h => ⟨_, h, .refl _⟩
 | cons p l1 ih =>
  intro σ σe hf hap h
  rw [List.cons_append] at h
  cases h with
  | cons _ _ _ σ1 _ h1 h2 h3 =>
   obtain ⟨σe', g1, g2⟩ := ih (fun p hp => hf p (by simp at hp ⊢; exact .inr hp)) (fun p hp => hap p (by simp [hp])) h3
   cases g1 with
   | cons _ _ _ σ2 _ k1 k2 k3 =>
    have hpq := hap p (by simp)
    obtain ⟨σ1', σ2', m1, m2, m3, m4, m5⟩ := comm hTab (hf p (by simp)) (hf q (by simp)) hpq.2 (by rw [h2, k2]; exact hpq.1) h1 k1 (fun ho => by
     obtain ⟨_, k, w, e, i, z, hx, _⟩ := opt_form (hf p (by simp)) ho h1
     rw [hx, gd_mapS])
    obtain ⟨σe'', n1, n2⟩ := k3.eqv hTab (N := N) (fun r hr => hf r (by simp at hr ⊢; rcases hr with hr | hr; exact .inr (.inl hr); exact .inr (.inr (.inr hr)))) m3
    exact ⟨σe'', .cons q _ σ σ1' σe'' m1 (by rw [m4]; exact k2) (.cons p _ σ1' σ2' σe'' m2 (by rw [m5]; exact h2) n1), g2.trans n2⟩
theorem gstep_put (hTab : TabOK P tab) {N : Nat} {o : Oper} (hfine : opFine N o = true) {d : Nat} {x : Bool} (hd : getT σ.t d = .bool x) (hg : gd all o σ = some true) {σ1 : St} (hs : stepOp tab call τ o (σ.put (some d) (.bool x)) some = some σ1) :
  ∃ σ1', gstep tab call τ all o σ = some σ1' ∧ Eqv σ1' σ1 := by
 have he : Eqv (σ.put (some d) (.bool x)) σ := by
  refine ⟨fun i => ?_, (put_HE _ _ _).symm⟩
  rw [getT_put]
  split
  ·rename_i e; cases e; exact hd
  ·rfl
 have hg' : gd all o (σ.put (some d) (.bool x)) = some true := by
  rw [← gd_congr (σ := σ.put (some d) (.bool x)) (σ' := σ) (fun i _ => he.t i)]; exact hg
 have : gstep tab call τ all o (σ.put (some d) (.bool x)) = some σ1 := by unfold gstep; rw [hg']; exact hs
 obtain ⟨σ1', g1, g2⟩ := gstep_eqv hTab hfine he this
 exact ⟨σ1', g1, g2.symm⟩
theorem runD_run (hTab : TabOK P tab) {N : Nat} {R : Type} {masks : List Nat} {K : St → Option R} {r : R} : ∀ (rest : List Oper) (acc : List (Oper × Acc)) (σ : St), (∀ o, o ∈ rest → opFine N o = true) → runD tab call τ all masks rest acc σ K = some r →
  ∃ σe σx, ∃ prs : List (Oper × Acc), prs.map (·.1) = rest ∧ RunL tab call τ all prs σ σe ∧ Eqv σe σx ∧ K σx = some r ∧
   ∀ p q, prs[p]? = some q → freeOf all q.1 q.2 (masks.getD (acc.length + p) 0) (acc ++ prs.take p) 0 = true
 | [], acc, σ, _, h => ⟨σ, σ, [], rfl, .nil _, .refl _, h, fun p q hq => by simp at hq⟩
 | o :: rest, acc, σ, hf, h => by
  have hfo := hf o (by simp)
  -- a step, and the rest
  have key : ∀ (A : Acc) (σ1 σ1x : St), gstep tab call τ all o σ = some σ1 → Eqv σ1 σ1x → gacc tab all o σ = A → freeOf all o A (masks.getD acc.length 0) acc 0 = true → runD tab call τ all masks rest (acc ++ [(o, A)]) σ1x K = some r →
    ∃ σe σx, ∃ prs : List (Oper × Acc), prs.map (·.1) = o :: rest ∧ RunL tab call τ all prs σ σe ∧ Eqv σe σx ∧ K σx = some r ∧
     ∀ p q, prs[p]? = some q → freeOf all q.1 q.2 (masks.getD (acc.length + p) 0) (acc ++ prs.take p) 0 = true := by
   intro A σ1 σ1x h1 h2 h3 h4 h5
   obtain ⟨σe, σx, prs, g1, g2, g3, g4, g5⟩ := runD_run hTab rest (acc ++ [(o, A)]) σ1x (fun o ho => hf o (by simp [ho])) h5
   have hfp : ∀ q, q ∈ prs → opFine N q.1 = true := fun q hq => hf q.1 (by rw [List.mem_cons]; right; rw [← g1]; exact List.mem_map.2 ⟨q, hq, rfl⟩)
   obtain ⟨σe', k1, k2⟩ := g2.eqv hTab hfp h2.symm
   refine ⟨σe', σx, (o, A) :: prs, by simp [g1], .cons (o, A) prs σ σ1 σe' h1 h3 k1, k2.symm.trans g3, g4, fun p q hq => ?_⟩
   cases p with
   | zero => simp at hq; subst hq; simpa using h4
   | succ p =>
    simp at hq
    have := g5 p q hq
    simp only [List.length_append, List.length_cons, List.length_nil] at this
    rw [List.take_succ_cons, show acc.length + (p + 1) = acc.length + (0 + 1) + p by omega]
    simpa using this
  simp only [runD] at h
  cases hgd : o.guard with
  | none =>
   simp only [hgd] at h
   have hg : gd all o σ = some true := by unfold gd; rw [hgd]
   have ha : gacc tab all o σ = accOf tab σ o := by unfold gacc; rw [hg]
   split at h
   rotate_left
   ·cases h
   rename_i hfree
   rw [stepOp_bind] at h
   cases hs : stepOp tab call τ o σ some with
   | none => rw [hs] at h; cases h
   | some σ1 =>
    rw [hs] at h
    exact key (accOf tab σ o) σ1 σ1 (by unfold gstep; rw [hg]; exact hs) (.refl _) ha hfree h
  | some jw =>
   obtain ⟨j, w⟩ := jw
   simp only [hgd] at h
   cases hda : dstAt all j with
   | none => simp only [hda] at h; cases h
   | some d =>
    simp only [hda] at h
    have hgu : gd all o σ = match getT σ.t d with | .bool x => some (x == w) | .skip => some false | _ => none := by
     unfold gd; simp only [hgd, hda] <;> cases getT σ.t d <;> rfl
    have skip : ∀ σx, gd all o σ = some false → Eqv (σ.put o.dst .skip) σx → (match freeOf all o .none_ (masks.getD acc.length 0) acc 0 with
      | true => runD tab call τ all masks rest (acc ++ [(o, .none_)]) σx K
      | false => none) = some r → ∃ σe σx, ∃ prs : List (Oper × Acc), prs.map (·.1) = o :: rest ∧ RunL tab call τ all prs σ σe ∧ Eqv σe σx ∧ K σx = some r ∧
       ∀ p q, prs[p]? = some q → freeOf all q.1 q.2 (masks.getD (acc.length + p) 0) (acc ++ prs.take p) 0 = true := by
     intro σx hg he h
     split at h
     rotate_left
     ·cases h
     rename_i hfree
     exact key .none_ (σ.put o.dst .skip) σx (by unfold gstep; rw [hg]) he (by unfold gacc; rw [hg]) hfree h
    have go : ∀ x, getT σ.t d = .bool x → gd all o σ = some true → (match freeOf all o (accOf tab σ o) (masks.getD acc.length 0) acc 0 with
      | true => stepOp tab call τ o (σ.put (some d) (.bool x)) fun σ' => runD tab call τ all masks rest (acc ++ [(o, accOf tab σ o)]) σ' K
      | false => none) = some r → ∃ σe σx, ∃ prs : List (Oper × Acc), prs.map (·.1) = o :: rest ∧ RunL tab call τ all prs σ σe ∧ Eqv σe σx ∧ K σx = some r ∧
       ∀ p q, prs[p]? = some q → freeOf all q.1 q.2 (masks.getD (acc.length + p) 0) (acc ++ prs.take p) 0 = true := by
     intro x hx hg h
     split at h
     rotate_left
     ·cases h
     rename_i hfree
     rw [stepOp_bind] at h
     cases hs : stepOp tab call τ o (σ.put (some d) (.bool x)) some with
     | none => rw [hs] at h; cases h
     | some σ1 =>
      rw [hs] at h
      obtain ⟨σ1', k1, k2⟩ := gstep_put hTab hfo hx hg hs
      exact key (accOf tab σ o) σ1' σ1 k1 k2 (by unfold gacc; rw [hg]) hfree h
    have pp : ∀ x, getT σ.t d = .bool x → Eqv (σ.put o.dst .skip) ((σ.put (some d) (.bool x)).put o.dst .skip) := by
     intro x hx
     refine ⟨fun i => ?_, ((put_HE σ o.dst .skip).symm.trans (put_HE σ (some d) (.bool x))).trans (put_HE _ _ _)⟩
     rw [getT_put, getT_put, getT_put]
     split
     ·rfl
     ·split
      ·rename_i e; cases e; exact hx.symm
      ·rfl
    split at h
    ·rename_i x hx
     rw [hx] at hgu
     cases x <;> cases w <;> simp only [if_true, if_false, Bool.false_eq_true] at h
     ·exact go false hx hgu h
     ·exact skip _ hgu (pp false hx) h
     ·exact skip _ hgu (pp true hx) h
     ·exact go true hx hgu h
    ·rename_i hx
     rw [hx] at hgu
     exact skip _ hgu (.refl _) h
    ·cases h
end
end Go.AI
