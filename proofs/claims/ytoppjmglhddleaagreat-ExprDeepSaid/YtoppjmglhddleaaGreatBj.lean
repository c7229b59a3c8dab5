/- DERIVED. THE EVALUATOR, THE READER, THE SCANNER: lemmas for Deep. -/
import Derived.Test.YtoppjmglhddleaaGreatBi
import Derived.Test.YtoppjmglhddleaaGreatBh
set_option linter.unusedVariables false
set_option linter.unusedSimpArgs false
namespace Go.AI.Rd
theorem q_argsL : ∀ (n : Nat), IHQ n → ∀ (a : A) (q : QS) (ms : List Int) (m : Int) (N lim n0 : Nat), a.good → RelQ q a → (a.dead = false → m = ms.getD 0 0) → n < n0 → Rq ((callN n .argsL a []).bind (Fc N 210 ms)) (qcall.l0 W lim n0 m q) P0
 | 0, ih, a, q, ms, m, N, lim, n0, hg, hq, hm, hn => Rq.zero
 | n + 1, ih, a, q, ms, m, N, lim, 0, hg, hq, hm, hn => by omega
 | n + 1, ih0, a, q, ms, m, N, lim, n0 + 1, hg, hq, hm, hn => by
  have ih := ih0.le (Nat.le_succ n)
  show Rq ((runM (callN n) (body .argsL) a []).bind (Fc N 210 ms)) _ _
  rw [qcall.l0_succ]; simp only [body]
  refine Rq.dead hq (fun hd => ?_) (fun hd => ?_) <;> (try simp only [go, taken, done, List.map_nil, qn, reduceIte, Int.reduceEq, if_true, if_false, ne_eq, qm])
  ·refine Rq.comes (by decide) hq hg (fun hc => ?_) (fun hc => ?_) <;> (try simp only [go, taken, done, List.map_nil, qn, reduceIte, Int.reduceEq, if_true, if_false, ne_eq, qm])
   ·repeat' ((try simp only [go, taken, done, List.map_nil, qn, reduceIte, Int.reduceEq, if_true, if_false, ne_eq, qm]); first | ((with_reducible refine Rq.fin ‹_› ?_); first | trivial | rfl) | with_reducible (first | refine Rq.ret ?_ | refine Rq.fk ?_ | refine Rq.fc ?_ | refine Rq.comes (by decide) ‹_› ‹_› (fun hc => ?_) fun hc => ?_ | refine Rq.take ‹_› ‹_› fun b q' hbt hb hq' hl => ?_ | refine Rq.expect (by decide) ‹_› ‹_› (fun b q' hb hq' hl => ?_) fun b q' hb hq' hl => ?_ | refine Rq.fail ‹_› ‹_› fun b q' hb hq' hd => ?_ | refine Rq.none_ ‹_› ‹_› fun b q' hb hq' hl => ?_ | refine Rq.up ‹_› ‹_› fun b q' hb hq' hl => ?_ | refine Rq.dead ‹_› (fun hd => ?_) fun hd => ?_) | ((with_reducible refine Rq.close ?_ ‹_› ‹_› fun b q' hb hq' hl => ?_); (focus ((intro hal; first | (refine (hm ?_).trans rfl; solve_by_elim (maxDepth := 20)) | (refine (hm2 ?_).trans rfl; solve_by_elim (maxDepth := 20))); done))) | ((with_reducible refine Rq.callU0 ‹_› (ih _ _ _ ?_ _ _ ‹_› ‹_›) fun r b q' hb hq' hl => ?_); (focus (rfl; done))) | exact Rq.stop ‹_› (by repeat (first | exact SF.some | exact SF.Fc | exact SF.Fk | refine SF.bind ?_)) ‹_› fun _ => by first | trivial | rfl)
   ·refine Rq.callU0 hg (ih _ _ _ (by rfl) _ _ hg hq) fun r b q' hb hq' hl => ?_
    refine Rq.comes (by decide) hq' hb (fun hc => ?_) (fun hc => ?_) <;> (try simp only [go, taken, done, List.map_nil, qn, reduceIte, Int.reduceEq, if_true, if_false, ne_eq, qm])
    ·repeat' ((try simp only [go, taken, done, List.map_nil, qn, reduceIte, Int.reduceEq, if_true, if_false, ne_eq, qm]); first | ((with_reducible refine Rq.fin ‹_› ?_); first | trivial | rfl) | with_reducible (first | refine Rq.ret ?_ | refine Rq.fk ?_ | refine Rq.fc ?_ | refine Rq.comes (by decide) ‹_› ‹_› (fun hc => ?_) fun hc => ?_ | refine Rq.take ‹_› ‹_› fun b q' hbt hb hq' hl => ?_ | refine Rq.expect (by decide) ‹_› ‹_› (fun b q' hb hq' hl => ?_) fun b q' hb hq' hl => ?_ | refine Rq.fail ‹_› ‹_› fun b q' hb hq' hd => ?_ | refine Rq.none_ ‹_› ‹_› fun b q' hb hq' hl => ?_ | refine Rq.up ‹_› ‹_› fun b q' hb hq' hl => ?_ | refine Rq.dead ‹_› (fun hd => ?_) fun hd => ?_) | ((with_reducible refine Rq.close ?_ ‹_› ‹_› fun b q' hb hq' hl => ?_); (focus ((intro hal; first | (refine (hm ?_).trans rfl; solve_by_elim (maxDepth := 20)) | (refine (hm2 ?_).trans rfl; solve_by_elim (maxDepth := 20))); done))) | ((with_reducible refine Rq.callU0 ‹_› (ih _ _ _ ?_ _ _ ‹_› ‹_›) fun r b q' hb hq' hl => ?_); (focus (rfl; done))) | exact Rq.stop ‹_› (by repeat (first | exact SF.some | exact SF.Fc | exact SF.Fk | refine SF.bind ?_)) ‹_› fun _ => by first | trivial | rfl)
    ·refine Rq.comes (by decide) hq' hb (fun hc => ?_) (fun hc => ?_) <;> (try simp only [go, taken, done, List.map_nil, qn, reduceIte, Int.reduceEq, if_true, if_false, ne_eq, qm])
     ·refine Rq.take hq' hb fun c q2 hbt hc2 hq2 hl2 => ?_
      exact Rq.tailF (q_argsL n ih c q2 ms m N lim n0 hc2 hq2 (fun hal => hm (hl (hl2 hal))) (by omega))
     ·repeat' ((try simp only [go, taken, done, List.map_nil, qn, reduceIte, Int.reduceEq, if_true, if_false, ne_eq, qm]); first | ((with_reducible refine Rq.fin ‹_› ?_); first | trivial | rfl) | with_reducible (first | refine Rq.ret ?_ | refine Rq.fk ?_ | refine Rq.fc ?_ | refine Rq.comes (by decide) ‹_› ‹_› (fun hc => ?_) fun hc => ?_ | refine Rq.take ‹_› ‹_› fun b q' hbt hb hq' hl => ?_ | refine Rq.expect (by decide) ‹_› ‹_› (fun b q' hb hq' hl => ?_) fun b q' hb hq' hl => ?_ | refine Rq.fail ‹_› ‹_› fun b q' hb hq' hd => ?_ | refine Rq.none_ ‹_› ‹_› fun b q' hb hq' hl => ?_ | refine Rq.up ‹_› ‹_› fun b q' hb hq' hl => ?_ | refine Rq.dead ‹_› (fun hd => ?_) fun hd => ?_) | ((with_reducible refine Rq.close ?_ ‹_› ‹_› fun b q' hb hq' hl => ?_); (focus ((intro hal; first | (refine (hm ?_).trans rfl; solve_by_elim (maxDepth := 20)) | (refine (hm2 ?_).trans rfl; solve_by_elim (maxDepth := 20))); done))) | ((with_reducible refine Rq.callU0 ‹_› (ih _ _ _ ?_ _ _ ‹_› ‹_›) fun r b q' hb hq' hl => ?_); (focus (rfl; done))) | exact Rq.stop ‹_› (by repeat (first | exact SF.some | exact SF.Fc | exact SF.Fk | refine SF.bind ?_)) ‹_› fun _ => by first | trivial | rfl)
  ·repeat' ((try simp only [go, taken, done, List.map_nil, qn, reduceIte, Int.reduceEq, if_true, if_false, ne_eq, qm]); first | ((with_reducible refine Rq.fin ‹_› ?_); first | trivial | rfl) | with_reducible (first | refine Rq.ret ?_ | refine Rq.fk ?_ | refine Rq.fc ?_ | refine Rq.comes (by decide) ‹_› ‹_› (fun hc => ?_) fun hc => ?_ | refine Rq.take ‹_› ‹_› fun b q' hbt hb hq' hl => ?_ | refine Rq.expect (by decide) ‹_› ‹_› (fun b q' hb hq' hl => ?_) fun b q' hb hq' hl => ?_ | refine Rq.fail ‹_› ‹_› fun b q' hb hq' hd => ?_ | refine Rq.none_ ‹_› ‹_› fun b q' hb hq' hl => ?_ | refine Rq.up ‹_› ‹_› fun b q' hb hq' hl => ?_ | refine Rq.dead ‹_› (fun hd => ?_) fun hd => ?_) | ((with_reducible refine Rq.close ?_ ‹_› ‹_› fun b q' hb hq' hl => ?_); (focus ((intro hal; first | (refine (hm ?_).trans rfl; solve_by_elim (maxDepth := 20)) | (refine (hm2 ?_).trans rfl; solve_by_elim (maxDepth := 20))); done))) | ((with_reducible refine Rq.callU0 ‹_› (ih _ _ _ ?_ _ _ ‹_› ‹_›) fun r b q' hb hq' hl => ?_); (focus (rfl; done))) | exact Rq.stop ‹_› (by repeat (first | exact SF.some | exact SF.Fc | exact SF.Fk | refine SF.bind ?_)) ‹_› fun _ => by first | trivial | rfl)
section
variable {n : Nat} {a : A} {q : QS}
theorem piece_args {cf : Proc → A → List Int → Option (Int × A)} (k : M) (a : A) (ms : List Int) : runM cf (.take (go .arguments (.close 0 210 k))) a ms = (runM cf (.take (go .arguments (.close 0 210 done))) a ms).bind fun rb => runM cf k rb.2 ms := piece_split .arguments (fun _ => 210) k a ms
theorem q_call (ih : IHQ n) (ms : List Int) (m : Int) (hm : a.dead = false → m = ms.getD 0 0) (hg : a.good) (hq : RelQ q a) : Rq (runM (callN n) (.take (go .arguments (.close 0 210 done))) a ms) (W .ref qcall.n [.rdr 0, .int m] q) P0 := by
 refine Rq.fix qcall.fd (n + 1) (Rq.start ?_)
 rw [qcall_eq]; simp only [go]
 refine Rq.take hq hg fun b q' hbt hb hq' hl => ?_
 refine Rq.inl ?_; simp only [body]
 exact Rq.tailF (q_argsL n ih b q' ms m n _ _ hb hq' (fun hal => hm (hl hal)) (by omega))
end
theorem q_primaryL (h : Bool) : ∀ (n : Nat), IHQ n → ∀ (a : A) (q : QS) (ms : List Int) (m : Int) (lim n0 : Nat), a.good → RelQ q a → (a.dead = false → m = ms.getD 0 0) → n < n0 → Rq ((callN n (.primaryL h) a ms).bind some) (qprimary.l0 W lim n0 h m q) P0
 | 0, ih, a, q, ms, m, lim, n0, hg, hq, hm, hn => Rq.zero
 | n + 1, ih, a, q, ms, m, lim, 0, hg, hq, hm, hn => by omega
 | n + 1, ih0, a, q, ms, m, lim, n0 + 1, hg, hq, hm, hn => by
  have ih := ih0.le (Nat.le_succ n)
  show Rq ((runM (callN n) (body (.primaryL h)) a ms).bind some) _ _
  rw [qprimary.l0_succ]; simp only [body]
  refine Rq.xkind ?_
  refine Rq.tdead hq (fun hd => ?_) (fun hd => ?_)
  rotate_left
  ·rw [kinds_dead hd]
   simp only [List.getD_nil]
   (try simp only [go, taken, done, List.map_nil, qn, reduceIte, Int.reduceEq, if_true, if_false, ne_eq, qm])
   repeat' ((try simp only [go, taken, done, List.map_nil, qn, reduceIte, Int.reduceEq, if_true, if_false, ne_eq, qm]); first | ((with_reducible refine Rq.fin ‹_› ?_); first | trivial | rfl) | with_reducible (first | refine Rq.ret ?_ | refine Rq.fk ?_ | refine Rq.fc ?_ | refine Rq.comes (by decide) ‹_› ‹_› (fun hc => ?_) fun hc => ?_ | refine Rq.take ‹_› ‹_› fun b q' hbt hb hq' hl => ?_ | refine Rq.expect (by decide) ‹_› ‹_› (fun b q' hb hq' hl => ?_) fun b q' hb hq' hl => ?_ | refine Rq.fail ‹_› ‹_› fun b q' hb hq' hd => ?_ | refine Rq.none_ ‹_› ‹_› fun b q' hb hq' hl => ?_ | refine Rq.up ‹_› ‹_› fun b q' hb hq' hl => ?_ | refine Rq.dead ‹_› (fun hd => ?_) fun hd => ?_) | ((with_reducible refine Rq.close ?_ ‹_› ‹_› fun b q' hb hq' hl => ?_); (focus ((intro hal; first | (refine (hm ?_).trans rfl; solve_by_elim (maxDepth := 20)) | (refine (hm2 ?_).trans rfl; solve_by_elim (maxDepth := 20))); done))) | ((with_reducible refine Rq.callU0 ‹_› (ih _ _ _ ?_ _ _ ‹_› ‹_›) fun r b q' hb hq' hl => ?_); (focus (rfl; done))) | exact Rq.stop ‹_› (by repeat (first | exact SF.some | exact SF.Fc | exact SF.Fk | refine SF.bind ?_)) ‹_› fun _ => by first | trivial | rfl)
  have next : ∀ (b : A) (q' : QS), b.good → RelQ q' b → (b.dead = false → a.dead = false) → Rq ((runM (callN n) (primM h) b ms).bind some) (qprimary.l0 W lim n0 h m q') P0 := fun b q' hb hq' hl =>
   Rq.tailF (q_primaryL h n ih b q' _ m lim n0 hb hq' (fun hal => (hm (hl hal)).trans rfl) (by omega))
  by_cases h61 : a.kinds.getD 0 0 = 61
  ·refine Rq.tcY (by decide) (by rw [comes1 (by decide), decide_eq_true h61]) hq hg ?_
   rw [if_pos h61]; (try simp only [go, taken, done, List.map_nil, qn, reduceIte, Int.reduceEq, if_true, if_false, ne_eq, qm])
   exact Rq.piece hg (fun cf => piece_split .period id (primM h) a ms) (q_period ih ms m hm hg hq) next
  refine Rq.tcN (by decide) (by rw [comes1 (by decide), decide_eq_false h61]) hq hg ?_
  rw [if_neg h61]; (try simp only [go, taken, done, List.map_nil, qn, reduceIte, Int.reduceEq, if_true, if_false, ne_eq, qm])
  by_cases h58 : a.kinds.getD 0 0 = 58
  ·refine Rq.tcY (by decide) (by rw [comes1 (by decide), decide_eq_true h58]) hq hg ?_
   rw [if_pos h58]; (try simp only [go, taken, done, List.map_nil, qn, reduceIte, Int.reduceEq, if_true, if_false, ne_eq, qm])
   exact Rq.piece hg (fun cf => piece_split .index id (primM h) a ms) (q_index ih ms m hm hg hq) next
  refine Rq.tcN (by decide) (by rw [comes1 (by decide), decide_eq_false h58]) hq hg ?_
  rw [if_neg h58]; (try simp only [go, taken, done, List.map_nil, qn, reduceIte, Int.reduceEq, if_true, if_false, ne_eq, qm])
  by_cases h57 : a.kinds.getD 0 0 = 57
  ·refine Rq.tcY (by decide) (by rw [comes1 (by decide), decide_eq_true h57]) hq hg ?_
   rw [if_pos h57]; (try simp only [go, taken, done, List.map_nil, qn, reduceIte, Int.reduceEq, if_true, if_false, ne_eq, qm])
   exact Rq.piece hg (fun cf => piece_args (primM h) a ms) (q_call ih ms m hm hg hq) next
  refine Rq.tcN (by decide) (by rw [comes1 (by decide), decide_eq_false h57]) hq hg ?_
  rw [if_neg h57]; (try simp only [go, taken, done, List.map_nil, qn, reduceIte, Int.reduceEq, if_true, if_false, ne_eq, qm])
  by_cases h59 : a.kinds.getD 0 0 = 59
  rotate_left
  ·refine Rq.tcN (by decide) (by rw [comes1 (by decide), decide_eq_false h59]) hq hg ?_
   rw [if_neg h59]; (try simp only [go, taken, done, List.map_nil, qn, reduceIte, Int.reduceEq, if_true, if_false, ne_eq, qm])
   repeat' ((try simp only [go, taken, done, List.map_nil, qn, reduceIte, Int.reduceEq, if_true, if_false, ne_eq, qm]); first | ((with_reducible refine Rq.fin ‹_› ?_); first | trivial | rfl) | with_reducible (first | refine Rq.ret ?_ | refine Rq.fk ?_ | refine Rq.fc ?_ | refine Rq.comes (by decide) ‹_› ‹_› (fun hc => ?_) fun hc => ?_ | refine Rq.take ‹_› ‹_› fun b q' hbt hb hq' hl => ?_ | refine Rq.expect (by decide) ‹_› ‹_› (fun b q' hb hq' hl => ?_) fun b q' hb hq' hl => ?_ | refine Rq.fail ‹_› ‹_› fun b q' hb hq' hd => ?_ | refine Rq.none_ ‹_› ‹_› fun b q' hb hq' hl => ?_ | refine Rq.up ‹_› ‹_› fun b q' hb hq' hl => ?_ | refine Rq.dead ‹_› (fun hd => ?_) fun hd => ?_) | ((with_reducible refine Rq.close ?_ ‹_› ‹_› fun b q' hb hq' hl => ?_); (focus ((intro hal; first | (refine (hm ?_).trans rfl; solve_by_elim (maxDepth := 20)) | (refine (hm2 ?_).trans rfl; solve_by_elim (maxDepth := 20))); done))) | ((with_reducible refine Rq.callU0 ‹_› (ih _ _ _ ?_ _ _ ‹_› ‹_›) fun r b q' hb hq' hl => ?_); (focus (rfl; done))) | exact Rq.stop ‹_› (by repeat (first | exact SF.some | exact SF.Fc | exact SF.Fk | refine SF.bind ?_)) ‹_› fun _ => by first | trivial | rfl)
  refine Rq.tcY (by decide) (by rw [comes1 (by decide), decide_eq_true h59]) hq hg ?_
  rw [if_pos h59]; (try simp only [go, taken, done, List.map_nil, qn, reduceIte, Int.reduceEq, if_true, if_false, ne_eq, qm])
  -- may values stand there?
  intro r b hx
  simp only [runM] at hx
  split at hx
  rotate_left
  ·cases hx
  rename_i hlit
  simp only [Bool.or_eq_true] at hlit
  replace hlit := hlit.resolve_left (by rw [hd]; decide)
  have hmm := hm hd
  have hm0 : 0 ≤ m := by
   have := hlit
   unfold A.litOK at this
   simp only [Bool.and_eq_true, decide_eq_true_eq] at this
   rw [hmm]; exact this.1
  have hl := W_qlast hq hg.took hd m hm0
  have hok : (match a.first m with | some x => Rd.litOK x.n | none => true) = true := by
   have := hlit
   unfold A.litOK at this
   simp only [Bool.and_eq_true] at this
   rw [hmm]; exact this.2
  have hgo : ∀ x : Bool, x = a.lit m h → ∃ u q', (if x = true then
    cX W .u .ref qvalues.n [.rdr 0] q fun _ (p25 : QS) =>
    cX W .u .ref qClose.n [.rdr 0, .int m, .int 213] p25 fun _ (p27 : QS) =>
    qprimary.l0 W lim n0 h m p27
    else some (.undef, q)) = some (u, q') ∧ P0 r u ∧ RelQ q' b := by
   intro x hxl
   rw [← hmm, ← hxl] at hx
   cases x with
   | true =>
    rw [if_pos rfl] at hx ⊢
    have : Rq ((runM (callN n) (go .values (.close 0 213 (primM h))) a ms).bind some) (cX W .u .ref qvalues.n [.rdr 0] q fun _ (p25 : QS) =>
      cX W .u .ref qClose.n [.rdr 0, .int m, .int 213] p25 fun _ (p27 : QS) =>
      qprimary.l0 W lim n0 h m p27) P0 := by
     simp only [go]
     refine Rq.callU0 hg (ih _ _ _ (by rfl) _ _ hg hq) fun r c q2 hc2 hq2 hl2 => ?_
     refine Rq.close (fun hal => hm (hl2 hal)) hq2 hc2 fun d q3 hd3 hq3 hl3 => ?_
     exact next d q3 hd3 hq3 (fun hal => hl2 (hl3 hal))
    exact this r b hx
   | false =>
    rw [if_neg (by decide)] at hx ⊢
    have : Rq ((runM (callN n) done a ms).bind some) (some (.undef, q)) P0 := by
     simp only [done]
     repeat' ((try simp only [go, taken, done, List.map_nil, qn, reduceIte, Int.reduceEq, if_true, if_false, ne_eq, qm]); first | ((with_reducible refine Rq.fin ‹_› ?_); first | trivial | rfl) | with_reducible (first | refine Rq.ret ?_ | refine Rq.fk ?_ | refine Rq.fc ?_ | refine Rq.comes (by decide) ‹_› ‹_› (fun hc => ?_) fun hc => ?_ | refine Rq.take ‹_› ‹_› fun b q' hbt hb hq' hl => ?_ | refine Rq.expect (by decide) ‹_› ‹_› (fun b q' hb hq' hl => ?_) fun b q' hb hq' hl => ?_ | refine Rq.fail ‹_› ‹_› fun b q' hb hq' hd => ?_ | refine Rq.none_ ‹_› ‹_› fun b q' hb hq' hl => ?_ | refine Rq.up ‹_› ‹_› fun b q' hb hq' hl => ?_ | refine Rq.dead ‹_› (fun hd => ?_) fun hd => ?_) | ((with_reducible refine Rq.close ?_ ‹_› ‹_› fun b q' hb hq' hl => ?_); (focus ((intro hal; first | (refine (hm ?_).trans rfl; solve_by_elim (maxDepth := 20)) | (refine (hm2 ?_).trans rfl; solve_by_elim (maxDepth := 20))); done))) | ((with_reducible refine Rq.callU0 ‹_› (ih _ _ _ ?_ _ _ ‹_› ‹_›) fun r b q' hb hq' hl => ?_); (focus (rfl; done))) | exact Rq.stop ‹_› (by repeat (first | exact SF.some | exact SF.Fc | exact SF.Fk | refine SF.bind ?_)) ‹_› fun _ => by first | trivial | rfl)
    exact this r b hx
  cases hf : a.first m with
  | some x =>
   rw [hf] at hl hok
   rw [cX_node hl, cX_b (W_qliteral x.n h hok)]
   exact hgo _ (by unfold A.lit; rw [hf])
  | none =>
   rw [hf] at hl
   rw [cX_node0 hl]
   have := W_qliteral (.mk 0 0 0 []) h (by decide)
   rw [cX_b this]
   exact hgo _ (by unfold A.lit; rw [hf]; cases h <;> decide)
theorem q_valuesL : ∀ (n : Nat), IHQ n → ∀ (a : A) (q : QS) (lim n0 : Nat), a.good → RelQ q a → n < n0 → Rq ((callN n .valuesL a []).bind some) (qvalues.l0 W lim n0 q) P0
 | 0, ih, a, q, lim, n0, hg, hq, hn => Rq.zero
 | n + 1, ih, a, q, lim, 0, hg, hq, hn => by omega
 | n + 1, ih0, a, q, lim, n0 + 1, hg, hq, hn => by
  have ih := ih0.le (Nat.le_succ n)
  show Rq ((runM (callN n) (body .valuesL) a []).bind some) _ _
  rw [qvalues.l0_succ]; simp only [body]
  have hv : ∀ (b : A) (q' : QS) (ms : List Int), b.good → RelQ q' b → Rq ((runM (callN n) valuesM b ms).bind some) (cX W .b .ref qcomes.n [.rdr 0, .sl .int [60]] q' fun (x23 : Bool) (p24 : QS) =>
    if (!x23) then
    cX W .b .ref qExpect.n [.rdr 0, .int 64] p24 fun (x25 : Bool) (p26 : QS) =>
    some (.undef, p26)
    else
    cX W .u .ref qTake.n [.rdr 0] p24 fun _ (p28 : QS) =>
    qvalues.l0 W lim n0 p28) P0 := by
   intro b q' ms hb hq'
   unfold valuesM
   refine Rq.comes (by decide) hq' hb (fun hc => ?_) (fun hc => ?_) <;> (try simp only [go, taken, done, List.map_nil, qn, reduceIte, Int.reduceEq, if_true, if_false, ne_eq, qm])
   ·refine Rq.take hq' hb fun c q2 hbt hc2 hq2 hl2 => ?_
    exact Rq.tailF (q_valuesL n ih c q2 lim n0 hc2 hq2 (by omega))
   ·repeat' ((try simp only [go, taken, done, List.map_nil, qn, reduceIte, Int.reduceEq, if_true, if_false, ne_eq, qm]); first | ((with_reducible refine Rq.fin ‹_› ?_); first | trivial | rfl) | with_reducible (first | refine Rq.ret ?_ | refine Rq.fk ?_ | refine Rq.fc ?_ | refine Rq.comes (by decide) ‹_› ‹_› (fun hc => ?_) fun hc => ?_ | refine Rq.take ‹_› ‹_› fun b q' hbt hb hq' hl => ?_ | refine Rq.expect (by decide) ‹_› ‹_› (fun b q' hb hq' hl => ?_) fun b q' hb hq' hl => ?_ | refine Rq.fail ‹_› ‹_› fun b q' hb hq' hd => ?_ | refine Rq.none_ ‹_› ‹_› fun b q' hb hq' hl => ?_ | refine Rq.up ‹_› ‹_› fun b q' hb hq' hl => ?_ | refine Rq.dead ‹_› (fun hd => ?_) fun hd => ?_) | ((with_reducible refine Rq.close ?_ ‹_› ‹_› fun b q' hb hq' hl => ?_); (focus ((intro hal; first | (refine (hm ?_).trans rfl; solve_by_elim (maxDepth := 20)) | (refine (hm2 ?_).trans rfl; solve_by_elim (maxDepth := 20))); done))) | ((with_reducible refine Rq.callU0 ‹_› (ih _ _ _ ?_ _ _ ‹_› ‹_›) fun r b q' hb hq' hl => ?_); (focus (rfl; done))) | exact Rq.stop ‹_› (by repeat (first | exact SF.some | exact SF.Fc | exact SF.Fk | refine SF.bind ?_)) ‹_› fun _ => by first | trivial | rfl)
  refine Rq.dead hq (fun hd => ?_) (fun hd => ?_) <;> (try simp only [go, taken, done, List.map_nil, qn, reduceIte, Int.reduceEq, if_true, if_false, ne_eq, qm])
  ·refine Rq.comes (by decide) hq hg (fun hc => ?_) (fun hc => ?_) <;> (try simp only [go, taken, done, List.map_nil, qn, reduceIte, Int.reduceEq, if_true, if_false, ne_eq, qm])
   ·repeat' ((try simp only [go, taken, done, List.map_nil, qn, reduceIte, Int.reduceEq, if_true, if_false, ne_eq, qm]); first | ((with_reducible refine Rq.fin ‹_› ?_); first | trivial | rfl) | with_reducible (first | refine Rq.ret ?_ | refine Rq.fk ?_ | refine Rq.fc ?_ | refine Rq.comes (by decide) ‹_› ‹_› (fun hc => ?_) fun hc => ?_ | refine Rq.take ‹_› ‹_› fun b q' hbt hb hq' hl => ?_ | refine Rq.expect (by decide) ‹_› ‹_› (fun b q' hb hq' hl => ?_) fun b q' hb hq' hl => ?_ | refine Rq.fail ‹_› ‹_› fun b q' hb hq' hd => ?_ | refine Rq.none_ ‹_› ‹_› fun b q' hb hq' hl => ?_ | refine Rq.up ‹_› ‹_› fun b q' hb hq' hl => ?_ | refine Rq.dead ‹_› (fun hd => ?_) fun hd => ?_) | ((with_reducible refine Rq.close ?_ ‹_› ‹_› fun b q' hb hq' hl => ?_); (focus ((intro hal; first | (refine (hm ?_).trans rfl; solve_by_elim (maxDepth := 20)) | (refine (hm2 ?_).trans rfl; solve_by_elim (maxDepth := 20))); done))) | ((with_reducible refine Rq.callU0 ‹_› (ih _ _ _ ?_ _ _ ‹_› ‹_›) fun r b q' hb hq' hl => ?_); (focus (rfl; done))) | exact Rq.stop ‹_› (by repeat (first | exact SF.some | exact SF.Fc | exact SF.Fk | refine SF.bind ?_)) ‹_› fun _ => by first | trivial | rfl)
   ·refine Rq.mark hq fun m hm _ _ => ?_
    refine Rq.callU0 hg (ih _ _ _ (by rfl) _ _ hg hq) fun r b q' hb hq' hl => ?_
    refine Rq.comes (by decide) hq' hb (fun hc => ?_) (fun hc => ?_) <;> (try simp only [go, taken, done, List.map_nil, qn, reduceIte, Int.reduceEq, if_true, if_false, ne_eq, qm])
    ·refine Rq.take hq' hb fun c q2 hbt hc2 hq2 hl2 => ?_
     refine Rq.callU0 hc2 (ih _ _ _ (by rfl) _ _ hc2 hq2) fun r d q3 hd3 hq3 hl3 => ?_
     refine Rq.close (fun hal => (hm (hl (hl2 (hl3 hal)))).trans rfl) hq3 hd3 fun e q4 he4 hq4 hl4 => ?_
     exact hv e q4 _ he4 hq4
    ·exact hv b q' _ hb hq'
  ·repeat' ((try simp only [go, taken, done, List.map_nil, qn, reduceIte, Int.reduceEq, if_true, if_false, ne_eq, qm]); first | ((with_reducible refine Rq.fin ‹_› ?_); first | trivial | rfl) | with_reducible (first | refine Rq.ret ?_ | refine Rq.fk ?_ | refine Rq.fc ?_ | refine Rq.comes (by decide) ‹_› ‹_› (fun hc => ?_) fun hc => ?_ | refine Rq.take ‹_› ‹_› fun b q' hbt hb hq' hl => ?_ | refine Rq.expect (by decide) ‹_› ‹_› (fun b q' hb hq' hl => ?_) fun b q' hb hq' hl => ?_ | refine Rq.fail ‹_› ‹_› fun b q' hb hq' hd => ?_ | refine Rq.none_ ‹_› ‹_› fun b q' hb hq' hl => ?_ | refine Rq.up ‹_› ‹_› fun b q' hb hq' hl => ?_ | refine Rq.dead ‹_› (fun hd => ?_) fun hd => ?_) | ((with_reducible refine Rq.close ?_ ‹_› ‹_› fun b q' hb hq' hl => ?_); (focus ((intro hal; first | (refine (hm ?_).trans rfl; solve_by_elim (maxDepth := 20)) | (refine (hm2 ?_).trans rfl; solve_by_elim (maxDepth := 20))); done))) | ((with_reducible refine Rq.callU0 ‹_› (ih _ _ _ ?_ _ _ ‹_› ‹_›) fun r b q' hb hq' hl => ?_); (focus (rfl; done))) | exact Rq.stop ‹_› (by repeat (first | exact SF.some | exact SF.Fc | exact SF.Fk | refine SF.bind ?_)) ‹_› fun _ => by first | trivial | rfl)
section
variable {n : Nat} {a : A} {q : QS}
theorem q_primary (ih : IHQ n) (h : Bool) (hg : a.good) (hq : RelQ q a) : Rq (runM (callN n) (body (.primary h)) a []) (W .ref qprimary.n [.rdr 0, .bool h] q) P0 := by
 refine Rq.fix qprimary.fd (n + 1) (Rq.start ?_)
 rw [qprimary_eq]; simp only [body, go]
 refine Rq.mark hq fun m hm _ _ => ?_
 refine Rq.callU0 hg (ih _ _ _ (by rfl) _ _ hg hq) fun r b q' hb hq' hl => ?_
 exact Rq.tailF (q_primaryL h n ih b q' _ m _ _ hb hq' (fun hal => (hm (hl hal)).trans rfl) (by omega))
theorem q_values (ih : IHQ n) (hg : a.good) (hq : RelQ q a) : Rq (runM (callN n) (body .values) a []) (W .ref qvalues.n [.rdr 0] q) P0 := by
 refine Rq.fix qvalues.fd (n + 1) (Rq.start ?_)
 rw [qvalues_eq]; simp only [body]
 refine Rq.expect (by decide) hq hg (fun b q' hb hq' hl => ?_) (fun b q' hb hq' hl => ?_)
 ·exact Rq.tailF (q_valuesL n ih b q' _ _ hb hq' (by omega))
 ·exact Rq.tailF (q_valuesL n ih b q' _ _ hb hq' (by omega))
theorem q_value (ih : IHQ n) (hg : a.good) (hq : RelQ q a) : Rq (runM (callN n) (body .value) a []) (W .ref qvalue.n [.rdr 0] q) P0 := by
 refine Rq.fix qvalue.fd n (Rq.start ?_)
 rw [qvalue_eq]; simp only [body, go]
 refine Rq.xkind ?_
 by_cases h59 : a.kinds.getD 0 0 = 59
 ·refine Rq.tcY (by decide) (by rw [comes1 (by decide), decide_eq_true h59]) hq hg ?_
  rw [if_pos h59]; (try simp only [go, taken, done, List.map_nil, qn, reduceIte, Int.reduceEq, if_true, if_false, ne_eq, qm])
  refine Rq.inl ?_; simp only [body, go]
  refine Rq.down hq hg (fun b q' hb hq' hl => ?_) (fun b q' hb hq' hd => ?_) <;> (try simp only [go, taken, done, List.map_nil, qn, reduceIte, Int.reduceEq, if_true, if_false, ne_eq, qm])
  ·refine Rq.inl ?_; simp only [body, go]
   refine Rq.inl ?_; simp only [body, go]
   refine Rq.mark hq' fun m hm _ _ => ?_
   (try simp only [go, taken, done, List.map_nil, qn, reduceIte, Int.reduceEq, if_true, if_false, ne_eq, qm])
   repeat' ((try simp only [go, taken, done, List.map_nil, qn, reduceIte, Int.reduceEq, if_true, if_false, ne_eq, qm]); first | ((with_reducible refine Rq.fin ‹_› ?_); first | trivial | rfl) | with_reducible (first | refine Rq.ret ?_ | refine Rq.fk ?_ | refine Rq.fc ?_ | refine Rq.comes (by decide) ‹_› ‹_› (fun hc => ?_) fun hc => ?_ | refine Rq.take ‹_› ‹_› fun b q' hbt hb hq' hl => ?_ | refine Rq.expect (by decide) ‹_› ‹_› (fun b q' hb hq' hl => ?_) fun b q' hb hq' hl => ?_ | refine Rq.fail ‹_› ‹_› fun b q' hb hq' hd => ?_ | refine Rq.none_ ‹_› ‹_› fun b q' hb hq' hl => ?_ | refine Rq.up ‹_› ‹_› fun b q' hb hq' hl => ?_ | refine Rq.dead ‹_› (fun hd => ?_) fun hd => ?_) | ((with_reducible refine Rq.close ?_ ‹_› ‹_› fun b q' hb hq' hl => ?_); (focus ((intro hal; first | (refine (hm ?_).trans rfl; solve_by_elim (maxDepth := 20)) | (refine (hm2 ?_).trans rfl; solve_by_elim (maxDepth := 20))); done))) | ((with_reducible refine Rq.callU0 ‹_› (ih _ _ _ ?_ _ _ ‹_› ‹_›) fun r b q' hb hq' hl => ?_); (focus (rfl; done))) | exact Rq.stop ‹_› (by repeat (first | exact SF.some | exact SF.Fc | exact SF.Fk | refine SF.bind ?_)) ‹_› fun _ => by first | trivial | rfl)
  ·repeat' ((try simp only [go, taken, done, List.map_nil, qn, reduceIte, Int.reduceEq, if_true, if_false, ne_eq, qm]); first | ((with_reducible refine Rq.fin ‹_› ?_); first | trivial | rfl) | with_reducible (first | refine Rq.ret ?_ | refine Rq.fk ?_ | refine Rq.fc ?_ | refine Rq.comes (by decide) ‹_› ‹_› (fun hc => ?_) fun hc => ?_ | refine Rq.take ‹_› ‹_› fun b q' hbt hb hq' hl => ?_ | refine Rq.expect (by decide) ‹_› ‹_› (fun b q' hb hq' hl => ?_) fun b q' hb hq' hl => ?_ | refine Rq.fail ‹_› ‹_› fun b q' hb hq' hd => ?_ | refine Rq.none_ ‹_› ‹_› fun b q' hb hq' hl => ?_ | refine Rq.up ‹_› ‹_› fun b q' hb hq' hl => ?_ | refine Rq.dead ‹_› (fun hd => ?_) fun hd => ?_) | ((with_reducible refine Rq.close ?_ ‹_› ‹_› fun b q' hb hq' hl => ?_); (focus ((intro hal; first | (refine (hm ?_).trans rfl; solve_by_elim (maxDepth := 20)) | (refine (hm2 ?_).trans rfl; solve_by_elim (maxDepth := 20))); done))) | ((with_reducible refine Rq.callU0 ‹_› (ih _ _ _ ?_ _ _ ‹_› ‹_›) fun r b q' hb hq' hl => ?_); (focus (rfl; done))) | exact Rq.stop ‹_› (by repeat (first | exact SF.some | exact SF.Fc | exact SF.Fk | refine SF.bind ?_)) ‹_› fun _ => by first | trivial | rfl)
 ·refine Rq.tcN (by decide) (by rw [comes1 (by decide), decide_eq_false h59]) hq hg ?_
  rw [if_neg h59]; (try simp only [go, taken, done, List.map_nil, qn, reduceIte, Int.reduceEq, if_true, if_false, ne_eq, qm])
  repeat' ((try simp only [go, taken, done, List.map_nil, qn, reduceIte, Int.reduceEq, if_true, if_false, ne_eq, qm]); first | ((with_reducible refine Rq.fin ‹_› ?_); first | trivial | rfl) | with_reducible (first | refine Rq.ret ?_ | refine Rq.fk ?_ | refine Rq.fc ?_ | refine Rq.comes (by decide) ‹_› ‹_› (fun hc => ?_) fun hc => ?_ | refine Rq.take ‹_› ‹_› fun b q' hbt hb hq' hl => ?_ | refine Rq.expect (by decide) ‹_› ‹_› (fun b q' hb hq' hl => ?_) fun b q' hb hq' hl => ?_ | refine Rq.fail ‹_› ‹_› fun b q' hb hq' hd => ?_ | refine Rq.none_ ‹_› ‹_› fun b q' hb hq' hl => ?_ | refine Rq.up ‹_› ‹_› fun b q' hb hq' hl => ?_ | refine Rq.dead ‹_› (fun hd => ?_) fun hd => ?_) | ((with_reducible refine Rq.close ?_ ‹_› ‹_› fun b q' hb hq' hl => ?_); (focus ((intro hal; first | (refine (hm ?_).trans rfl; solve_by_elim (maxDepth := 20)) | (refine (hm2 ?_).trans rfl; solve_by_elim (maxDepth := 20))); done))) | ((with_reducible refine Rq.callU0 ‹_› (ih _ _ _ ?_ _ _ ‹_› ‹_›) fun r b q' hb hq' hl => ?_); (focus (rfl; done))) | exact Rq.stop ‹_› (by repeat (first | exact SF.some | exact SF.Fc | exact SF.Fk | refine SF.bind ?_)) ‹_› fun _ => by first | trivial | rfl)
end
theorem q_flatL : ∀ (n : Nat), ∀ (a : A) (q : QS) (ms : List Int) (m : Int) (k : Int) (N lim n0 : Nat), a.good → RelQ q a → (a.dead = false → m = ms.getD 0 0) → 0 < k → k + a.rest.length < 2199023255552 → n + 1 < n0 → Rq ((callN n (.flatL k) a []).bind (Fc N 217 ms)) (qflat.l0 W lim n0 m k q) P0
 | 0, a, q, ms, m, k, N, lim, n0, hg, hq, hm, hk, hkr, hn => Rq.zero
 | n + 1, a, q, ms, m, k, N, lim, 0, hg, hq, hm, hk, hkr, hn => by omega
 | n + 1, a, q, ms, m, k, N, lim, n0 + 1, hg, hq, hm, hk, hkr, hn => by
  show Rq ((runM (callN n) (body (.flatL k)) a []).bind (Fc N 217 ms)) _ _
  rw [qflat.l0_succ, if_pos (decide_eq_true hk)]; simp only [body]
  refine Rq.xkind ?_
  refine Rq.tdead hq (fun hd => ?_) (fun hd => ?_)
  rotate_left
  ·refine Rq.weak (e := P0) ?_ (fun _ _ h => h)
   rw [kinds_dead hd]
   simp only [List.getD_nil]
   (try simp only [go, taken, done, List.map_nil, qn, reduceIte, Int.reduceEq, if_true, if_false, ne_eq, qm])
   intro r b hx
   rw [show (runM (callN n) (.fail 201 (.ret 0)) a []).bind (Fc N 217 ms) = Fc N 217 ms (0, a) by simp only [runM, fail_dead hd]; rfl] at hx
   have : Rq (Fc N 217 ms (0, a)) (cX W .u .ref qClose.n [.rdr 0, .int m, .int 217] q fun _ (p20 : QS) => some (.undef, p20)) P0 := by
    refine Rq.fc ?_
    (try simp only [go, taken, done, List.map_nil, qn, reduceIte, Int.reduceEq, if_true, if_false, ne_eq, qm])
    repeat' ((try simp only [go, taken, done, List.map_nil, qn, reduceIte, Int.reduceEq, if_true, if_false, ne_eq, qm]); first | ((with_reducible refine Rq.fin ‹_› ?_); first | trivial | rfl) | with_reducible (first | refine Rq.ret ?_ | refine Rq.fk ?_ | refine Rq.fc ?_ | refine Rq.comes (by decide) ‹_› ‹_› (fun hc => ?_) fun hc => ?_ | refine Rq.take ‹_› ‹_› fun b q' hbt hb hq' hl => ?_ | refine Rq.expect (by decide) ‹_› ‹_› (fun b q' hb hq' hl => ?_) fun b q' hb hq' hl => ?_ | refine Rq.fail ‹_› ‹_› fun b q' hb hq' hd => ?_ | refine Rq.none_ ‹_› ‹_› fun b q' hb hq' hl => ?_ | refine Rq.up ‹_› ‹_› fun b q' hb hq' hl => ?_ | refine Rq.dead ‹_› (fun hd => ?_) fun hd => ?_) | ((with_reducible refine Rq.close ?_ ‹_› ‹_› fun b q' hb hq' hl => ?_); (focus ((intro hal; first | (refine (hm ?_).trans rfl; solve_by_elim (maxDepth := 20)) | (refine (hm2 ?_).trans rfl; solve_by_elim (maxDepth := 20))); done))) | ((with_reducible refine Rq.callU0 ‹_› (ih _ _ _ ?_ _ _ ‹_› ‹_›) fun r b q' hb hq' hl => ?_); (focus (rfl; done))) | exact Rq.stop ‹_› (by repeat (first | exact SF.some | exact SF.Fc | exact SF.Fk | refine SF.bind ?_)) ‹_› fun _ => by first | trivial | rfl)
   exact this r b hx
  refine Rq.tkind hq hg ?_
  by_cases h0 : a.kinds.getD 0 0 = 0
  ·rw [if_pos h0, if_pos (decide_eq_true h0)]
   refine Rq.fail hq hg fun b q' hb hq' hdb => ?_
   have hbf : q'.failed = true := by rw [hq'.f]; exact hdb
   have ht : W .ref qTake.n [.rdr 0] q' = some (.undef, q') := by
    refine fx qTake.fd 0 ?_
    rw [qTake_eq, cX_i (W_qKind hq' hb.took), kinds_dead hdb]; rfl
   rw [cX_u ht]
   obtain ⟨n1, rfl⟩ : ∃ n1, n0 = n1 + 1 := ⟨n0 - 1, by omega⟩
   rw [qflat.l0_succ, if_pos (decide_eq_true hk), if_neg (by rw [hbf]; decide)]
   (try simp only [go, taken, done, List.map_nil, qn, reduceIte, Int.reduceEq, if_true, if_false, ne_eq, qm])
   repeat' ((try simp only [go, taken, done, List.map_nil, qn, reduceIte, Int.reduceEq, if_true, if_false, ne_eq, qm]); first | ((with_reducible refine Rq.fin ‹_› ?_); first | trivial | rfl) | with_reducible (first | refine Rq.ret ?_ | refine Rq.fk ?_ | refine Rq.fc ?_ | refine Rq.comes (by decide) ‹_› ‹_› (fun hc => ?_) fun hc => ?_ | refine Rq.take ‹_› ‹_› fun b q' hbt hb hq' hl => ?_ | refine Rq.expect (by decide) ‹_› ‹_› (fun b q' hb hq' hl => ?_) fun b q' hb hq' hl => ?_ | refine Rq.fail ‹_› ‹_› fun b q' hb hq' hd => ?_ | refine Rq.none_ ‹_› ‹_› fun b q' hb hq' hl => ?_ | refine Rq.up ‹_› ‹_› fun b q' hb hq' hl => ?_ | refine Rq.dead ‹_› (fun hd => ?_) fun hd => ?_) | ((with_reducible refine Rq.close ?_ ‹_› ‹_› fun b q' hb hq' hl => ?_); (focus ((intro hal; first | (refine (hm ?_).trans rfl; solve_by_elim (maxDepth := 20)) | (refine (hm2 ?_).trans rfl; solve_by_elim (maxDepth := 20))); done))) | ((with_reducible refine Rq.callU0 ‹_› (ih _ _ _ ?_ _ _ ‹_› ‹_›) fun r b q' hb hq' hl => ?_); (focus (rfl; done))) | exact Rq.stop ‹_› (by repeat (first | exact SF.some | exact SF.Fc | exact SF.Fk | refine SF.bind ?_)) ‹_› fun _ => by first | trivial | rfl)
  rw [if_neg h0, if_neg (c := decide (a.kinds.getD 0 0 = 0) = true) (by simp only [decide_eq_true_eq]; exact h0)]
  have hlt := take_lt h0
  by_cases h59 : a.kinds.getD 0 0 = 59
  ·rw [if_pos (decide_eq_true h59)]
   simp only [h59]; (try simp only [go, taken, done, List.map_nil, qn, reduceIte, Int.reduceEq, if_true, if_false, ne_eq, qm])
   refine Rq.take hq hg fun b q' hbt hb hq' hl => ?_
   rw [wi _ (by omega) (by omega), if_neg (by omega)]
   exact Rq.tailF (q_flatL n b q' ms m (k + 1) N lim n0 hb hq' (fun hal => hm (hl hal)) (by omega) (by rw [hbt]; omega) (by omega))
  rw [if_neg (c := decide (a.kinds.getD 0 0 = 59) = true) (by simp only [decide_eq_true_eq]; exact h59)]
  by_cases h64 : a.kinds.getD 0 0 = 64
  ·rw [if_pos (decide_eq_true h64)]
   simp only [h64]; (try simp only [go, taken, done, List.map_nil, qn, reduceIte, Int.reduceEq, if_true, if_false, ne_eq, qm])
   refine Rq.take hq hg fun b q' hbt hb hq' hl => ?_
   rw [wi _ (by omega) (by omega)]
   by_cases hk1 : k - 1 = 0
   ·rw [if_pos hk1, hk1]
    obtain ⟨n1, rfl⟩ : ∃ n1, n0 = n1 + 1 := ⟨n0 - 1, by omega⟩
    rw [qflat.l0_succ, if_neg (by decide)]
    (try simp only [go, taken, done, List.map_nil, qn, reduceIte, Int.reduceEq, if_true, if_false, ne_eq, qm])
    repeat' ((try simp only [go, taken, done, List.map_nil, qn, reduceIte, Int.reduceEq, if_true, if_false, ne_eq, qm]); first | ((with_reducible refine Rq.fin ‹_› ?_); first | trivial | rfl) | with_reducible (first | refine Rq.ret ?_ | refine Rq.fk ?_ | refine Rq.fc ?_ | refine Rq.comes (by decide) ‹_› ‹_› (fun hc => ?_) fun hc => ?_ | refine Rq.take ‹_› ‹_› fun b q' hbt hb hq' hl => ?_ | refine Rq.expect (by decide) ‹_› ‹_› (fun b q' hb hq' hl => ?_) fun b q' hb hq' hl => ?_ | refine Rq.fail ‹_› ‹_› fun b q' hb hq' hd => ?_ | refine Rq.none_ ‹_› ‹_› fun b q' hb hq' hl => ?_ | refine Rq.up ‹_› ‹_› fun b q' hb hq' hl => ?_ | refine Rq.dead ‹_› (fun hd => ?_) fun hd => ?_) | ((with_reducible refine Rq.close ?_ ‹_› ‹_› fun b q' hb hq' hl => ?_); (focus ((intro hal; first | (refine (hm ?_).trans rfl; solve_by_elim (maxDepth := 20)) | (refine (hm2 ?_).trans rfl; solve_by_elim (maxDepth := 20))); done))) | ((with_reducible refine Rq.callU0 ‹_› (ih _ _ _ ?_ _ _ ‹_› ‹_›) fun r b q' hb hq' hl => ?_); (focus (rfl; done))) | exact Rq.stop ‹_› (by repeat (first | exact SF.some | exact SF.Fc | exact SF.Fk | refine SF.bind ?_)) ‹_› fun _ => by first | trivial | rfl)
   ·rw [if_neg hk1]
    exact Rq.tailF (q_flatL n b q' ms m (k - 1) N lim n0 hb hq' (fun hal => hm (hl hal)) (by omega) (by rw [hbt]; omega) (by omega))
  ·rw [if_neg (c := decide (a.kinds.getD 0 0 = 64) = true) (by simp only [decide_eq_true_eq]; exact h64)]
   simp only [h59, h64, if_false]
   refine Rq.take hq hg fun b q' hbt hb hq' hl => ?_
   rw [if_neg (by omega)]
   exact Rq.tailF (q_flatL n b q' ms m k N lim n0 hb hq' (fun hal => hm (hl hal)) hk (by rw [hbt]; omega) (by omega))
section
variable {n : Nat} {a : A} {q : QS}
theorem q_flat (hc : comesF [59] a.kinds = true) (hg : a.good) (hq : RelQ q a) : Rq (callN n (.node 217 .flat) a []) (W .ref qflat.n [.rdr 0] q) P0 := by
 refine Rq.mono (Nat.le_succ n) ?_
 show Rq (runM (callN n) (body (.node 217 .flat)) a []) _ _
 refine Rq.fix qflat.fd (n + 3) (Rq.start ?_)
 rw [qflat_eq]; simp only [body, go]
 refine Rq.mark hq fun m hm _ _ => ?_
 rw [comes1 (by decide)] at hc
 have hk := of_decide_eq_true hc
 refine Rq.inl ?_; simp only [body]
 refine Rq.inl ?_; simp only [body]
 refine Rq.xkind ?_
 simp only [hk]; (try simp only [go, taken, done, List.map_nil, qn, reduceIte, Int.reduceEq, if_true, if_false, ne_eq, qm])
 refine Rq.expY (by decide) hk hq hg fun b q' hbt hb hq' hl => ?_
 rw [if_neg (by omega)]
 have hln := hg.len
 have hlt := take_lt (a := a) (by rw [hk]; decide)
 have := q_flatL n b q' ([] ++ [(a.row.length : Int)]) m 1 n (n + 3) (n + 3) hb hq' (fun hal => (hm (hl hal)).trans rfl) (by decide) (by rw [hbt]; omega) (by omega)
 refine Rq.tailF ?_
 have e : (fun rb : Int × A => (runM (callN n) (.ret rb.1) rb.2 (List.map (fun h => ([] : List Int).getD h 0) [])).bind fun rb => (runM (callN n) (.close 0 217 (.ret 0)) rb.2 ([] ++ [(a.row.length : Int)])).bind some) = Fc n 217 ([] ++ [(a.row.length : Int)]) := by
  funext rb; rfl
 exact this
theorem q_qualified (ih : IHQ n) (hg : a.good) (hq : RelQ q a) : Rq (runM (callN n) (body .qualified) a []) (W .ref qqualified.n [.rdr 0] q) P0 := by
 refine Rq.fix qqualified.fd n (Rq.start ?_)
 rw [qqualified_eq]; simp only [body]
 refine Rq.mark hq fun m hm _ _ => ?_
 (try simp only [go, taken, done, List.map_nil, qn, reduceIte, Int.reduceEq, if_true, if_false, ne_eq, qm])
 repeat' ((try simp only [go, taken, done, List.map_nil, qn, reduceIte, Int.reduceEq, if_true, if_false, ne_eq, qm]); first | ((with_reducible refine Rq.fin ‹_› ?_); first | trivial | rfl) | with_reducible (first | refine Rq.ret ?_ | refine Rq.fk ?_ | refine Rq.fc ?_ | refine Rq.comes (by decide) ‹_› ‹_› (fun hc => ?_) fun hc => ?_ | refine Rq.take ‹_› ‹_› fun b q' hbt hb hq' hl => ?_ | refine Rq.expect (by decide) ‹_› ‹_› (fun b q' hb hq' hl => ?_) fun b q' hb hq' hl => ?_ | refine Rq.fail ‹_› ‹_› fun b q' hb hq' hd => ?_ | refine Rq.none_ ‹_› ‹_› fun b q' hb hq' hl => ?_ | refine Rq.up ‹_› ‹_› fun b q' hb hq' hl => ?_ | refine Rq.dead ‹_› (fun hd => ?_) fun hd => ?_) | ((with_reducible refine Rq.close ?_ ‹_› ‹_› fun b q' hb hq' hl => ?_); (focus ((intro hal; first | (refine (hm ?_).trans rfl; solve_by_elim (maxDepth := 20)) | (refine (hm2 ?_).trans rfl; solve_by_elim (maxDepth := 20))); done))) | ((with_reducible refine Rq.callU0 ‹_› (ih _ _ _ ?_ _ _ ‹_› ‹_›) fun r b q' hb hq' hl => ?_); (focus (rfl; done))) | exact Rq.stop ‹_› (by repeat (first | exact SF.some | exact SF.Fc | exact SF.Fk | refine SF.bind ?_)) ‹_› fun _ => by first | trivial | rfl)
theorem q_operand (ih : IHQ n) (hg : a.good) (hq : RelQ q a) : Rq (runM (callN n) (body .operand) a []) (W .ref qoperand.n [.rdr 0] q) P0 := by
 refine Rq.fix qoperand.fd n (Rq.start ?_)
 rw [qoperand_eq]; simp only [body, qoperand.j0]
 refine Rq.mark hq fun m hm _ _ => ?_
 refine Rq.xkind (Rq.tkind hq hg ?_)
 have lit : Rq ((runM (callN n) (go (.node 202 .takeP) done) a ([] ++ [(a.row.length : Int)])).bind some) (cX W .u .ref qTake.n [.rdr 0] q fun _ (p11 : QS) =>
   cX W .u .ref qClose.n [.rdr 0, .int m, .int 202] p11 fun _ (p13 : QS) =>
   some (.undef, p13)) P0 := by
  simp only [go]
  refine Rq.inl ?_; simp only [body, go]
  refine Rq.xmark fun _ => ?_
  refine Rq.inl ?_; simp only [body]
  (try simp only [go, taken, done, List.map_nil, qn, reduceIte, Int.reduceEq, if_true, if_false, ne_eq, qm])
  repeat' ((try simp only [go, taken, done, List.map_nil, qn, reduceIte, Int.reduceEq, if_true, if_false, ne_eq, qm]); first | ((with_reducible refine Rq.fin ‹_› ?_); first | trivial | rfl) | with_reducible (first | refine Rq.ret ?_ | refine Rq.fk ?_ | refine Rq.fc ?_ | refine Rq.comes (by decide) ‹_› ‹_› (fun hc => ?_) fun hc => ?_ | refine Rq.take ‹_› ‹_› fun b q' hbt hb hq' hl => ?_ | refine Rq.expect (by decide) ‹_› ‹_› (fun b q' hb hq' hl => ?_) fun b q' hb hq' hl => ?_ | refine Rq.fail ‹_› ‹_› fun b q' hb hq' hd => ?_ | refine Rq.none_ ‹_› ‹_› fun b q' hb hq' hl => ?_ | refine Rq.up ‹_› ‹_› fun b q' hb hq' hl => ?_ | refine Rq.dead ‹_› (fun hd => ?_) fun hd => ?_) | ((with_reducible refine Rq.close ?_ ‹_› ‹_› fun b q' hb hq' hl => ?_); (focus ((intro hal; first | (refine (hm ?_).trans rfl; solve_by_elim (maxDepth := 20)) | (refine (hm2 ?_).trans rfl; solve_by_elim (maxDepth := 20))); done))) | ((with_reducible refine Rq.callU0 ‹_› (ih _ _ _ ?_ _ _ ‹_› ‹_›) fun r b q' hb hq' hl => ?_); (focus (rfl; done))) | exact Rq.stop ‹_› (by repeat (first | exact SF.some | exact SF.Fc | exact SF.Fk | refine SF.bind ?_)) ‹_› fun _ => by first | trivial | rfl)
 have typ : Rq ((runM (callN n) (go .Type done) a ([] ++ [(a.row.length : Int)])).bind some) (cX W .u .ref qType.n [.rdr 0] q fun _ (p35 : QS) => some (.undef, p35)) P0 := by
  (try simp only [go, taken, done, List.map_nil, qn, reduceIte, Int.reduceEq, if_true, if_false, ne_eq, qm])
  repeat' ((try simp only [go, taken, done, List.map_nil, qn, reduceIte, Int.reduceEq, if_true, if_false, ne_eq, qm]); first | ((with_reducible refine Rq.fin ‹_› ?_); first | trivial | rfl) | with_reducible (first | refine Rq.ret ?_ | refine Rq.fk ?_ | refine Rq.fc ?_ | refine Rq.comes (by decide) ‹_› ‹_› (fun hc => ?_) fun hc => ?_ | refine Rq.take ‹_› ‹_› fun b q' hbt hb hq' hl => ?_ | refine Rq.expect (by decide) ‹_› ‹_› (fun b q' hb hq' hl => ?_) fun b q' hb hq' hl => ?_ | refine Rq.fail ‹_› ‹_› fun b q' hb hq' hd => ?_ | refine Rq.none_ ‹_› ‹_› fun b q' hb hq' hl => ?_ | refine Rq.up ‹_› ‹_› fun b q' hb hq' hl => ?_ | refine Rq.dead ‹_› (fun hd => ?_) fun hd => ?_) | ((with_reducible refine Rq.close ?_ ‹_› ‹_› fun b q' hb hq' hl => ?_); (focus ((intro hal; first | (refine (hm ?_).trans rfl; solve_by_elim (maxDepth := 20)) | (refine (hm2 ?_).trans rfl; solve_by_elim (maxDepth := 20))); done))) | ((with_reducible refine Rq.callU0 ‹_› (ih _ _ _ ?_ _ _ ‹_› ‹_›) fun r b q' hb hq' hl => ?_); (focus (rfl; done))) | exact Rq.stop ‹_› (by repeat (first | exact SF.some | exact SF.Fc | exact SF.Fk | refine SF.bind ?_)) ‹_› fun _ => by first | trivial | rfl)
 generalize a.kinds.getD 0 0 = x
 by_cases h1 : x = 10
 ·subst h1; (try simp only [go, taken, done, List.map_nil, qn, reduceIte, Int.reduceEq, if_true, if_false, ne_eq, qm])
  repeat' ((try simp only [go, taken, done, List.map_nil, qn, reduceIte, Int.reduceEq, if_true, if_false, ne_eq, qm]); first | ((with_reducible refine Rq.fin ‹_› ?_); first | trivial | rfl) | with_reducible (first | refine Rq.ret ?_ | refine Rq.fk ?_ | refine Rq.fc ?_ | refine Rq.comes (by decide) ‹_› ‹_› (fun hc => ?_) fun hc => ?_ | refine Rq.take ‹_› ‹_› fun b q' hbt hb hq' hl => ?_ | refine Rq.expect (by decide) ‹_› ‹_› (fun b q' hb hq' hl => ?_) fun b q' hb hq' hl => ?_ | refine Rq.fail ‹_› ‹_› fun b q' hb hq' hd => ?_ | refine Rq.none_ ‹_› ‹_› fun b q' hb hq' hl => ?_ | refine Rq.up ‹_› ‹_› fun b q' hb hq' hl => ?_ | refine Rq.dead ‹_› (fun hd => ?_) fun hd => ?_) | ((with_reducible refine Rq.close ?_ ‹_› ‹_› fun b q' hb hq' hl => ?_); (focus ((intro hal; first | (refine (hm ?_).trans rfl; solve_by_elim (maxDepth := 20)) | (refine (hm2 ?_).trans rfl; solve_by_elim (maxDepth := 20))); done))) | ((with_reducible refine Rq.callU0 ‹_› (ih _ _ _ ?_ _ _ ‹_› ‹_›) fun r b q' hb hq' hl => ?_); (focus (rfl; done))) | exact Rq.stop ‹_› (by repeat (first | exact SF.some | exact SF.Fc | exact SF.Fk | refine SF.bind ?_)) ‹_› fun _ => by first | trivial | rfl)
 by_cases h2 : x = 11
 ·subst h2; simp only [decide_true, decide_false, reduceIte, Int.reduceEq, Bool.false_eq_true, true_or, or_true]; exact lit
 by_cases h3 : x = 12
 ·subst h3; simp only [decide_true, decide_false, reduceIte, Int.reduceEq, Bool.false_eq_true, true_or, or_true]; exact lit
 by_cases h4 : x = 13
 ·subst h4; simp only [decide_true, decide_false, reduceIte, Int.reduceEq, Bool.false_eq_true, true_or, or_true]; exact lit
 by_cases h5 : x = 14
 ·subst h5; simp only [decide_true, decide_false, reduceIte, Int.reduceEq, Bool.false_eq_true, true_or, or_true]; exact lit
 by_cases h6 : x = 57
 ·subst h6; (try simp only [go, taken, done, List.map_nil, qn, reduceIte, Int.reduceEq, if_true, if_false, ne_eq, qm])
  repeat' ((try simp only [go, taken, done, List.map_nil, qn, reduceIte, Int.reduceEq, if_true, if_false, ne_eq, qm]); first | ((with_reducible refine Rq.fin ‹_› ?_); first | trivial | rfl) | with_reducible (first | refine Rq.ret ?_ | refine Rq.fk ?_ | refine Rq.fc ?_ | refine Rq.comes (by decide) ‹_› ‹_› (fun hc => ?_) fun hc => ?_ | refine Rq.take ‹_› ‹_› fun b q' hbt hb hq' hl => ?_ | refine Rq.expect (by decide) ‹_› ‹_› (fun b q' hb hq' hl => ?_) fun b q' hb hq' hl => ?_ | refine Rq.fail ‹_› ‹_› fun b q' hb hq' hd => ?_ | refine Rq.none_ ‹_› ‹_› fun b q' hb hq' hl => ?_ | refine Rq.up ‹_› ‹_› fun b q' hb hq' hl => ?_ | refine Rq.dead ‹_› (fun hd => ?_) fun hd => ?_) | ((with_reducible refine Rq.close ?_ ‹_› ‹_› fun b q' hb hq' hl => ?_); (focus ((intro hal; first | (refine (hm ?_).trans rfl; solve_by_elim (maxDepth := 20)) | (refine (hm2 ?_).trans rfl; solve_by_elim (maxDepth := 20))); done))) | ((with_reducible refine Rq.callU0 ‹_› (ih _ _ _ ?_ _ _ ‹_› ‹_›) fun r b q' hb hq' hl => ?_); (focus (rfl; done))) | exact Rq.stop ‹_› (by repeat (first | exact SF.some | exact SF.Fc | exact SF.Fk | refine SF.bind ?_)) ‹_› fun _ => by first | trivial | rfl)
 by_cases h7 : x = 79
 ·subst h7; (try simp only [go, taken, done, List.map_nil, qn, reduceIte, Int.reduceEq, if_true, if_false, ne_eq, qm])
  refine Rq.take hq hg fun b q' hbt hb hq' hl => ?_
  refine Rq.callU0 hb (ih _ _ _ (by rfl) _ _ hb hq') fun r c q2 hc2 hq2 hl2 => ?_
  refine Rq.comes (by decide) hq2 hc2 (fun hc => ?_) (fun hc => ?_) <;> (try simp only [go, taken, done, List.map_nil, qn, reduceIte, Int.reduceEq, if_true, if_false, ne_eq, qm])
  ·refine Rq.callU0 hc2 (q_flat hc hc2 hq2) fun r d q3 hd3 hq3 hl3 => ?_
   repeat' ((try simp only [go, taken, done, List.map_nil, qn, reduceIte, Int.reduceEq, if_true, if_false, ne_eq, qm]); first | ((with_reducible refine Rq.fin ‹_› ?_); first | trivial | rfl) | with_reducible (first | refine Rq.ret ?_ | refine Rq.fk ?_ | refine Rq.fc ?_ | refine Rq.comes (by decide) ‹_› ‹_› (fun hc => ?_) fun hc => ?_ | refine Rq.take ‹_› ‹_› fun b q' hbt hb hq' hl => ?_ | refine Rq.expect (by decide) ‹_› ‹_› (fun b q' hb hq' hl => ?_) fun b q' hb hq' hl => ?_ | refine Rq.fail ‹_› ‹_› fun b q' hb hq' hd => ?_ | refine Rq.none_ ‹_› ‹_› fun b q' hb hq' hl => ?_ | refine Rq.up ‹_› ‹_› fun b q' hb hq' hl => ?_ | refine Rq.dead ‹_› (fun hd => ?_) fun hd => ?_) | ((with_reducible refine Rq.close ?_ ‹_› ‹_› fun b q' hb hq' hl => ?_); (focus ((intro hal; first | (refine (hm ?_).trans rfl; solve_by_elim (maxDepth := 20)) | (refine (hm2 ?_).trans rfl; solve_by_elim (maxDepth := 20))); done))) | ((with_reducible refine Rq.callU0 ‹_› (ih _ _ _ ?_ _ _ ‹_› ‹_›) fun r b q' hb hq' hl => ?_); (focus (rfl; done))) | exact Rq.stop ‹_› (by repeat (first | exact SF.some | exact SF.Fc | exact SF.Fk | refine SF.bind ?_)) ‹_› fun _ => by first | trivial | rfl)
  ·repeat' ((try simp only [go, taken, done, List.map_nil, qn, reduceIte, Int.reduceEq, if_true, if_false, ne_eq, qm]); first | ((with_reducible refine Rq.fin ‹_› ?_); first | trivial | rfl) | with_reducible (first | refine Rq.ret ?_ | refine Rq.fk ?_ | refine Rq.fc ?_ | refine Rq.comes (by decide) ‹_› ‹_› (fun hc => ?_) fun hc => ?_ | refine Rq.take ‹_› ‹_› fun b q' hbt hb hq' hl => ?_ | refine Rq.expect (by decide) ‹_› ‹_› (fun b q' hb hq' hl => ?_) fun b q' hb hq' hl => ?_ | refine Rq.fail ‹_› ‹_› fun b q' hb hq' hd => ?_ | refine Rq.none_ ‹_› ‹_› fun b q' hb hq' hl => ?_ | refine Rq.up ‹_› ‹_› fun b q' hb hq' hl => ?_ | refine Rq.dead ‹_› (fun hd => ?_) fun hd => ?_) | ((with_reducible refine Rq.close ?_ ‹_› ‹_› fun b q' hb hq' hl => ?_); (focus ((intro hal; first | (refine (hm ?_).trans rfl; solve_by_elim (maxDepth := 20)) | (refine (hm2 ?_).trans rfl; solve_by_elim (maxDepth := 20))); done))) | ((with_reducible refine Rq.callU0 ‹_› (ih _ _ _ ?_ _ _ ‹_› ‹_›) fun r b q' hb hq' hl => ?_); (focus (rfl; done))) | exact Rq.stop ‹_› (by repeat (first | exact SF.some | exact SF.Fc | exact SF.Fk | refine SF.bind ?_)) ‹_› fun _ => by first | trivial | rfl)
 by_cases h8 : x = 58
 ·subst h8; simp only [decide_true, decide_false, reduceIte, Int.reduceEq, Bool.false_eq_true, true_or, or_true, false_or, or_false]; exact typ
 by_cases h9 : x = 83
 ·subst h9; simp only [decide_true, decide_false, reduceIte, Int.reduceEq, Bool.false_eq_true, true_or, or_true, false_or, or_false]; exact typ
 by_cases h10 : x = 87
 ·subst h10; simp only [decide_true, decide_false, reduceIte, Int.reduceEq, Bool.false_eq_true, true_or, or_true, false_or, or_false]; exact typ
 by_cases h11 : x = 82
 ·subst h11; simp only [decide_true, decide_false, reduceIte, Int.reduceEq, Bool.false_eq_true, true_or, or_true, false_or, or_false]; exact typ
 simp only [h1, h2, h3, h4, h5, h6, h7, h8, h9, h10, h11, decide_false, Bool.false_eq_true, if_false, or_self]
 (try simp only [go, taken, done, List.map_nil, qn, reduceIte, Int.reduceEq, if_true, if_false, ne_eq, qm])
 repeat' ((try simp only [go, taken, done, List.map_nil, qn, reduceIte, Int.reduceEq, if_true, if_false, ne_eq, qm]); first | ((with_reducible refine Rq.fin ‹_› ?_); first | trivial | rfl) | with_reducible (first | refine Rq.ret ?_ | refine Rq.fk ?_ | refine Rq.fc ?_ | refine Rq.comes (by decide) ‹_› ‹_› (fun hc => ?_) fun hc => ?_ | refine Rq.take ‹_› ‹_› fun b q' hbt hb hq' hl => ?_ | refine Rq.expect (by decide) ‹_› ‹_› (fun b q' hb hq' hl => ?_) fun b q' hb hq' hl => ?_ | refine Rq.fail ‹_› ‹_› fun b q' hb hq' hd => ?_ | refine Rq.none_ ‹_› ‹_› fun b q' hb hq' hl => ?_ | refine Rq.up ‹_› ‹_› fun b q' hb hq' hl => ?_ | refine Rq.dead ‹_› (fun hd => ?_) fun hd => ?_) | ((with_reducible refine Rq.close ?_ ‹_› ‹_› fun b q' hb hq' hl => ?_); (focus ((intro hal; first | (refine (hm ?_).trans rfl; solve_by_elim (maxDepth := 20)) | (refine (hm2 ?_).trans rfl; solve_by_elim (maxDepth := 20))); done))) | ((with_reducible refine Rq.callU0 ‹_› (ih _ _ _ ?_ _ _ ‹_› ‹_›) fun r b q' hb hq' hl => ?_); (focus (rfl; done))) | exact Rq.stop ‹_› (by repeat (first | exact SF.some | exact SF.Fc | exact SF.Fk | refine SF.bind ?_)) ‹_› fun _ => by first | trivial | rfl)
end
end Go.AI.Rd
namespace Go.AI.Rd
def Fu (N : Nat) : Int × A → Option (Int × A) := fun rb => (runM (callN N) (.up done) rb.2 []).bind some
theorem SF.Fu {N : Nat} : SF (Fu N) := SF.bind SF.some
theorem q_formL : ∀ (n : Nat), IHQ n → ∀ (a : A) (q : QS) (ms : List Int) (m : Int) (N lim n0 : Nat), a.good → RelQ q a → (a.dead = false → m = ms.getD 0 0) → n < n0 → Rq ((callN n .formL a ms).bind (Fu N)) (qType.l1 W lim n0 m q) P0
 | 0, ih, a, q, ms, m, N, lim, n0, hg, hq, hm, hn => Rq.zero
 | n + 1, ih, a, q, ms, m, N, lim, 0, hg, hq, hm, hn => by omega
 | n + 1, ih0, a, q, ms, m, N, lim, n0 + 1, hg, hq, hm, hn => by
  have ih := ih0.le (Nat.le_succ n)
  show Rq ((runM (callN n) (body .formL) a ms).bind (Fu N)) _ _
  rw [qType.l1_succ]; simp only [body]
  refine Rq.comes (by decide) hq hg (fun hc => ?_) (fun hc => ?_) <;> (try simp only [go, taken, done, List.map_nil, qn, reduceIte, Int.reduceEq, if_true, if_false, ne_eq, qm])
  ·refine Rq.take hq hg fun b q' hbt hb hq' hl => ?_
   refine Rq.comes (by decide) hq' hb (fun hc => ?_) (fun hc => ?_) <;> (try simp only [go, taken, done, List.map_nil, qn, reduceIte, Int.reduceEq, if_true, if_false, ne_eq, qm])
   ·exact Rq.tailF (q_formL n ih b q' _ m N lim n0 hb hq' (fun hal => (hm (hl hal)).trans rfl) (by omega))
   ·refine Rq.callU0 hb (ih _ _ _ (by rfl) _ _ hb hq') fun r c q2 hc2 hq2 hl2 => ?_
    exact Rq.tailF (q_formL n ih c q2 _ m N lim n0 hc2 hq2 (fun hal => (hm (hl (hl2 hal))).trans rfl) (by omega))
  ·unfold Fu
   (try simp only [go, taken, done, List.map_nil, qn, reduceIte, Int.reduceEq, if_true, if_false, ne_eq, qm])
   repeat' ((try simp only [go, taken, done, List.map_nil, qn, reduceIte, Int.reduceEq, if_true, if_false, ne_eq, qm]); first | ((with_reducible refine Rq.fin ‹_› ?_); first | trivial | rfl) | with_reducible (first | refine Rq.ret ?_ | refine Rq.fk ?_ | refine Rq.fc ?_ | refine Rq.comes (by decide) ‹_› ‹_› (fun hc => ?_) fun hc => ?_ | refine Rq.take ‹_› ‹_› fun b q' hbt hb hq' hl => ?_ | refine Rq.expect (by decide) ‹_› ‹_› (fun b q' hb hq' hl => ?_) fun b q' hb hq' hl => ?_ | refine Rq.fail ‹_› ‹_› fun b q' hb hq' hd => ?_ | refine Rq.none_ ‹_› ‹_› fun b q' hb hq' hl => ?_ | refine Rq.up ‹_› ‹_› fun b q' hb hq' hl => ?_ | refine Rq.dead ‹_› (fun hd => ?_) fun hd => ?_) | ((with_reducible refine Rq.close ?_ ‹_› ‹_› fun b q' hb hq' hl => ?_); (focus ((intro hal; first | (refine (hm ?_).trans rfl; solve_by_elim (maxDepth := 20)) | (refine (hm2 ?_).trans rfl; solve_by_elim (maxDepth := 20))); done))) | ((with_reducible refine Rq.callU0 ‹_› (ih _ _ _ ?_ _ _ ‹_› ‹_›) fun r b q' hb hq' hl => ?_); (focus (rfl; done))) | exact Rq.stop ‹_› (by repeat (first | exact SF.some | exact SF.Fc | exact SF.Fk | refine SF.bind ?_)) ‹_› fun _ => by first | trivial | rfl)
section
variable {n : Nat} {a : A} {q : QS}
theorem q_arrayJ (ih : IHQ n) (ms : List Int) (lim : Nat) (m : Int) (hm : a.dead = false → m = ms.getD 0 0) (hg : a.good) (hq : RelQ q a) : Rq ((runM (callN n) elemsM a []).bind (Fk n ms)) (qarray.j0 W lim m q) P0 := by
 unfold elemsM qarray.j0
 (try simp only [go, taken, done, List.map_nil, qn, reduceIte, Int.reduceEq, if_true, if_false, ne_eq, qm])
 repeat' ((try simp only [go, taken, done, List.map_nil, qn, reduceIte, Int.reduceEq, if_true, if_false, ne_eq, qm]); first | ((with_reducible refine Rq.fin ‹_› ?_); first | trivial | rfl) | with_reducible (first | refine Rq.ret ?_ | refine Rq.fk ?_ | refine Rq.fc ?_ | refine Rq.comes (by decide) ‹_› ‹_› (fun hc => ?_) fun hc => ?_ | refine Rq.take ‹_› ‹_› fun b q' hbt hb hq' hl => ?_ | refine Rq.expect (by decide) ‹_› ‹_› (fun b q' hb hq' hl => ?_) fun b q' hb hq' hl => ?_ | refine Rq.fail ‹_› ‹_› fun b q' hb hq' hd => ?_ | refine Rq.none_ ‹_› ‹_› fun b q' hb hq' hl => ?_ | refine Rq.up ‹_› ‹_› fun b q' hb hq' hl => ?_ | refine Rq.dead ‹_› (fun hd => ?_) fun hd => ?_) | ((with_reducible refine Rq.close ?_ ‹_› ‹_› fun b q' hb hq' hl => ?_); (focus ((intro hal; first | (refine (hm ?_).trans rfl; solve_by_elim (maxDepth := 20)) | (refine (hm2 ?_).trans rfl; solve_by_elim (maxDepth := 20))); done))) | ((with_reducible refine Rq.callU0 ‹_› (ih _ _ _ ?_ _ _ ‹_› ‹_›) fun r b q' hb hq' hl => ?_); (focus (rfl; done))) | exact Rq.stop ‹_› (by repeat (first | exact SF.some | exact SF.Fc | exact SF.Fk | refine SF.bind ?_)) ‹_› fun _ => by first | trivial | rfl)
theorem q_array (ih : IHQ n) (ms : List Int) (m : Int) (hm : a.dead = false → m = ms.getD 0 0) (hg : a.good) (hq : RelQ q a) : Rq (runM (callN n) (.take (.call .elements [] fun kd => .close 0 kd done)) a ms) (W .ref qarray.n [.rdr 0, .int m] q) P0 := by
 refine Rq.fix qarray.fd n (Rq.start ?_)
 rw [qarray_eq]
 refine Rq.take hq hg fun b q' hbt hb hq' hl => ?_
 refine Rq.inl ?_; simp only [body]
 show Rq ((runM (callN n) _ b _).bind (Fk n ms)) _ _
 refine Rq.comes (by decide) hq' hb (fun hc => ?_) (fun hc => ?_) <;> (try simp only [go, taken, done, List.map_nil, qn, reduceIte, Int.reduceEq, if_true, if_false, ne_eq, qm])
 ·repeat' ((try simp only [go, taken, done, List.map_nil, qn, reduceIte, Int.reduceEq, if_true, if_false, ne_eq, qm]); first | ((with_reducible refine Rq.fin ‹_› ?_); first | trivial | rfl) | with_reducible (first | refine Rq.ret ?_ | refine Rq.fk ?_ | refine Rq.fc ?_ | refine Rq.comes (by decide) ‹_› ‹_› (fun hc => ?_) fun hc => ?_ | refine Rq.take ‹_› ‹_› fun b q' hbt hb hq' hl => ?_ | refine Rq.expect (by decide) ‹_› ‹_› (fun b q' hb hq' hl => ?_) fun b q' hb hq' hl => ?_ | refine Rq.fail ‹_› ‹_› fun b q' hb hq' hd => ?_ | refine Rq.none_ ‹_› ‹_› fun b q' hb hq' hl => ?_ | refine Rq.up ‹_› ‹_› fun b q' hb hq' hl => ?_ | refine Rq.dead ‹_› (fun hd => ?_) fun hd => ?_) | ((with_reducible refine Rq.close ?_ ‹_› ‹_› fun b q' hb hq' hl => ?_); (focus ((intro hal; first | (refine (hm ?_).trans rfl; solve_by_elim (maxDepth := 20)) | (refine (hm2 ?_).trans rfl; solve_by_elim (maxDepth := 20))); done))) | ((with_reducible refine Rq.callU0 ‹_› (ih _ _ _ ?_ _ _ ‹_› ‹_›) fun r b q' hb hq' hl => ?_); (focus (rfl; done))) | exact Rq.stop ‹_› (by repeat (first | exact SF.some | exact SF.Fc | exact SF.Fk | refine SF.bind ?_)) ‹_› fun _ => by first | trivial | rfl)
 ·refine Rq.comes (by decide) hq' hb (fun hc => ?_) (fun hc => ?_) <;> (try simp only [go, taken, done, List.map_nil, qn, reduceIte, Int.reduceEq, if_true, if_false, ne_eq, qm])
  ·refine Rq.inl ?_; simp only [body, go]
   refine Rq.mark hq' fun m2 hm2 _ _ => ?_
   refine Rq.inl ?_; simp only [body]
   refine Rq.take hq' hb fun c q2 hbt hc2 hq2 hl2 => ?_
   (try simp only [go, taken, done, List.map_nil, qn, reduceIte, Int.reduceEq, if_true, if_false, ne_eq, qm])
   refine Rq.ret ?_
   (try simp only [go, taken, done, List.map_nil, qn, reduceIte, Int.reduceEq, if_true, if_false, ne_eq, qm])
   refine Rq.close (fun hal => (hm2 (hl2 hal)).trans rfl) hq2 hc2 fun d q3 hd3 hq3 hl3 => ?_
   refine Rq.ret ?_
   (try simp only [go, taken, done, List.map_nil, qn, reduceIte, Int.reduceEq, if_true, if_false, ne_eq, qm])
   exact q_arrayJ ih ms n m (fun hal => hm (hl (hl2 (hl3 hal)))) hd3 hq3
  ·refine Rq.callU0 hb (ih _ _ _ (by rfl) _ _ hb hq') fun r c q2 hc2 hq2 hl2 => ?_
   exact q_arrayJ ih ms n m (fun hal => hm (hl (hl2 hal))) hc2 hq2
theorem q_Type (ih : IHQ n) (hg : a.good) (hq : RelQ q a) : Rq (runM (callN n) (body .Type) a []) (W .ref qType.n [.rdr 0] q) P0 := by
 refine Rq.fix qType.fd (n + 1) (Rq.start ?_)
 rw [qType_eq]; simp only [body, go]
 refine Rq.inl ?_; simp only [body, go]
 refine Rq.down hq hg (fun b q' hb hq' hl => ?_) (fun b q' hb hq' hd => ?_) <;> (try simp only [go, taken, done, List.map_nil, qn, reduceIte, Int.reduceEq, if_true, if_false, ne_eq, qm])
 rotate_left
 ·repeat' ((try simp only [go, taken, done, List.map_nil, qn, reduceIte, Int.reduceEq, if_true, if_false, ne_eq, qm]); first | ((with_reducible refine Rq.fin ‹_› ?_); first | trivial | rfl) | with_reducible (first | refine Rq.ret ?_ | refine Rq.fk ?_ | refine Rq.fc ?_ | refine Rq.comes (by decide) ‹_› ‹_› (fun hc => ?_) fun hc => ?_ | refine Rq.take ‹_› ‹_› fun b q' hbt hb hq' hl => ?_ | refine Rq.expect (by decide) ‹_› ‹_› (fun b q' hb hq' hl => ?_) fun b q' hb hq' hl => ?_ | refine Rq.fail ‹_› ‹_› fun b q' hb hq' hd => ?_ | refine Rq.none_ ‹_› ‹_› fun b q' hb hq' hl => ?_ | refine Rq.up ‹_› ‹_› fun b q' hb hq' hl => ?_ | refine Rq.dead ‹_› (fun hd => ?_) fun hd => ?_) | ((with_reducible refine Rq.close ?_ ‹_› ‹_› fun b q' hb hq' hl => ?_); (focus ((intro hal; first | (refine (hm ?_).trans rfl; solve_by_elim (maxDepth := 20)) | (refine (hm2 ?_).trans rfl; solve_by_elim (maxDepth := 20))); done))) | ((with_reducible refine Rq.callU0 ‹_› (ih _ _ _ ?_ _ _ ‹_› ‹_›) fun r b q' hb hq' hl => ?_); (focus (rfl; done))) | exact Rq.stop ‹_› (by repeat (first | exact SF.some | exact SF.Fc | exact SF.Fk | refine SF.bind ?_)) ‹_› fun _ => by first | trivial | rfl)
 refine Rq.inl ?_; simp only [body]
 refine Rq.mark hq' fun m hm _ _ => ?_
 refine Rq.xkind (Rq.tkind hq' hb ?_)
 show Rq ((runM (callN n) _ b _).bind (Fu n)) _ _
 have harr := fun (hx : True) => q_array ih ([] ++ [(b.row.length : Int)]) m (fun hal => (hm hal).trans rfl) hb hq'
 by_cases h10 : b.kinds.getD 0 0 = 10
 ·simp only [h10]; (try simp only [go, taken, done, List.map_nil, qn, reduceIte, Int.reduceEq, if_true, if_false, ne_eq, qm])
  refine Rq.callU0 hb (ih _ _ _ (by rfl) _ _ hb hq') fun r c q2 hc2 hq2 hl2 => ?_
  refine Rq.comes (by decide) hq2 hc2 (fun hc => ?_) (fun hc => ?_) <;> (try simp only [go, taken, done, List.map_nil, qn, reduceIte, Int.reduceEq, if_true, if_false, ne_eq, qm])
  ·refine Rq.take hq2 hc2 fun d q3 hbt hd3 hq3 hl3 => ?_
   refine Rq.callU0 hd3 (ih _ _ _ (by rfl) _ _ hd3 hq3) fun r e q4 he4 hq4 hl4 => ?_
   exact Rq.tailF (q_formL n ih e q4 _ m n _ _ he4 hq4 (fun hal => (hm (hl2 (hl3 (hl4 hal)))).trans rfl) (by omega))
  ·unfold Fu
   (try simp only [go, taken, done, List.map_nil, qn, reduceIte, Int.reduceEq, if_true, if_false, ne_eq, qm])
   repeat' ((try simp only [go, taken, done, List.map_nil, qn, reduceIte, Int.reduceEq, if_true, if_false, ne_eq, qm]); first | ((with_reducible refine Rq.fin ‹_› ?_); first | trivial | rfl) | with_reducible (first | refine Rq.ret ?_ | refine Rq.fk ?_ | refine Rq.fc ?_ | refine Rq.comes (by decide) ‹_› ‹_› (fun hc => ?_) fun hc => ?_ | refine Rq.take ‹_› ‹_› fun b q' hbt hb hq' hl => ?_ | refine Rq.expect (by decide) ‹_› ‹_› (fun b q' hb hq' hl => ?_) fun b q' hb hq' hl => ?_ | refine Rq.fail ‹_› ‹_› fun b q' hb hq' hd => ?_ | refine Rq.none_ ‹_› ‹_› fun b q' hb hq' hl => ?_ | refine Rq.up ‹_› ‹_› fun b q' hb hq' hl => ?_ | refine Rq.dead ‹_› (fun hd => ?_) fun hd => ?_) | ((with_reducible refine Rq.close ?_ ‹_› ‹_› fun b q' hb hq' hl => ?_); (focus ((intro hal; first | (refine (hm ?_).trans rfl; solve_by_elim (maxDepth := 20)) | (refine (hm2 ?_).trans rfl; solve_by_elim (maxDepth := 20))); done))) | ((with_reducible refine Rq.callU0 ‹_› (ih _ _ _ ?_ _ _ ‹_› ‹_›) fun r b q' hb hq' hl => ?_); (focus (rfl; done))) | exact Rq.stop ‹_› (by repeat (first | exact SF.some | exact SF.Fc | exact SF.Fk | refine SF.bind ?_)) ‹_› fun _ => by first | trivial | rfl)
 unfold Fu
 by_cases h57 : b.kinds.getD 0 0 = 57
 ·simp only [h57]; (try simp only [go, taken, done, List.map_nil, qn, reduceIte, Int.reduceEq, if_true, if_false, ne_eq, qm])
  repeat' ((try simp only [go, taken, done, List.map_nil, qn, reduceIte, Int.reduceEq, if_true, if_false, ne_eq, qm]); first | ((with_reducible refine Rq.fin ‹_› ?_); first | trivial | rfl) | with_reducible (first | refine Rq.ret ?_ | refine Rq.fk ?_ | refine Rq.fc ?_ | refine Rq.comes (by decide) ‹_› ‹_› (fun hc => ?_) fun hc => ?_ | refine Rq.take ‹_› ‹_› fun b q' hbt hb hq' hl => ?_ | refine Rq.expect (by decide) ‹_› ‹_› (fun b q' hb hq' hl => ?_) fun b q' hb hq' hl => ?_ | refine Rq.fail ‹_› ‹_› fun b q' hb hq' hd => ?_ | refine Rq.none_ ‹_› ‹_› fun b q' hb hq' hl => ?_ | refine Rq.up ‹_› ‹_› fun b q' hb hq' hl => ?_ | refine Rq.dead ‹_› (fun hd => ?_) fun hd => ?_) | ((with_reducible refine Rq.close ?_ ‹_› ‹_› fun b q' hb hq' hl => ?_); (focus ((intro hal; first | (refine (hm ?_).trans rfl; solve_by_elim (maxDepth := 20)) | (refine (hm2 ?_).trans rfl; solve_by_elim (maxDepth := 20))); done))) | ((with_reducible refine Rq.callU0 ‹_› (ih _ _ _ ?_ _ _ ‹_› ‹_›) fun r b q' hb hq' hl => ?_); (focus (rfl; done))) | exact Rq.stop ‹_› (by repeat (first | exact SF.some | exact SF.Fc | exact SF.Fk | refine SF.bind ?_)) ‹_› fun _ => by first | trivial | rfl)
 by_cases h22 : b.kinds.getD 0 0 = 22
 ·simp only [h22]; (try simp only [go, taken, done, List.map_nil, qn, reduceIte, Int.reduceEq, if_true, if_false, ne_eq, qm])
  repeat' ((try simp only [go, taken, done, List.map_nil, qn, reduceIte, Int.reduceEq, if_true, if_false, ne_eq, qm]); first | ((with_reducible refine Rq.fin ‹_› ?_); first | trivial | rfl) | with_reducible (first | refine Rq.ret ?_ | refine Rq.fk ?_ | refine Rq.fc ?_ | refine Rq.comes (by decide) ‹_› ‹_› (fun hc => ?_) fun hc => ?_ | refine Rq.take ‹_› ‹_› fun b q' hbt hb hq' hl => ?_ | refine Rq.expect (by decide) ‹_› ‹_› (fun b q' hb hq' hl => ?_) fun b q' hb hq' hl => ?_ | refine Rq.fail ‹_› ‹_› fun b q' hb hq' hd => ?_ | refine Rq.none_ ‹_› ‹_› fun b q' hb hq' hl => ?_ | refine Rq.up ‹_› ‹_› fun b q' hb hq' hl => ?_ | refine Rq.dead ‹_› (fun hd => ?_) fun hd => ?_) | ((with_reducible refine Rq.close ?_ ‹_› ‹_› fun b q' hb hq' hl => ?_); (focus ((intro hal; first | (refine (hm ?_).trans rfl; solve_by_elim (maxDepth := 20)) | (refine (hm2 ?_).trans rfl; solve_by_elim (maxDepth := 20))); done))) | ((with_reducible refine Rq.callU0 ‹_› (ih _ _ _ ?_ _ _ ‹_› ‹_›) fun r b q' hb hq' hl => ?_); (focus (rfl; done))) | exact Rq.stop ‹_› (by repeat (first | exact SF.some | exact SF.Fc | exact SF.Fk | refine SF.bind ?_)) ‹_› fun _ => by first | trivial | rfl)
 by_cases h79 : b.kinds.getD 0 0 = 79
 ·simp only [h79]; (try simp only [go, taken, done, List.map_nil, qn, reduceIte, Int.reduceEq, if_true, if_false, ne_eq, qm])
  repeat' ((try simp only [go, taken, done, List.map_nil, qn, reduceIte, Int.reduceEq, if_true, if_false, ne_eq, qm]); first | ((with_reducible refine Rq.fin ‹_› ?_); first | trivial | rfl) | with_reducible (first | refine Rq.ret ?_ | refine Rq.fk ?_ | refine Rq.fc ?_ | refine Rq.comes (by decide) ‹_› ‹_› (fun hc => ?_) fun hc => ?_ | refine Rq.take ‹_› ‹_› fun b q' hbt hb hq' hl => ?_ | refine Rq.expect (by decide) ‹_› ‹_› (fun b q' hb hq' hl => ?_) fun b q' hb hq' hl => ?_ | refine Rq.fail ‹_› ‹_› fun b q' hb hq' hd => ?_ | refine Rq.none_ ‹_› ‹_› fun b q' hb hq' hl => ?_ | refine Rq.up ‹_› ‹_› fun b q' hb hq' hl => ?_ | refine Rq.dead ‹_› (fun hd => ?_) fun hd => ?_) | ((with_reducible refine Rq.close ?_ ‹_› ‹_› fun b q' hb hq' hl => ?_); (focus ((intro hal; first | (refine (hm ?_).trans rfl; solve_by_elim (maxDepth := 20)) | (refine (hm2 ?_).trans rfl; solve_by_elim (maxDepth := 20))); done))) | ((with_reducible refine Rq.callU0 ‹_› (ih _ _ _ ?_ _ _ ‹_› ‹_›) fun r b q' hb hq' hl => ?_); (focus (rfl; done))) | exact Rq.stop ‹_› (by repeat (first | exact SF.some | exact SF.Fc | exact SF.Fk | refine SF.bind ?_)) ‹_› fun _ => by first | trivial | rfl)
 by_cases h58 : b.kinds.getD 0 0 = 58
 ·simp only [h58, reduceIte, Int.reduceEq, decide_true, decide_false, Bool.false_eq_true, if_true, if_false]
  refine Rq.piece hb (fun cf => piece_split .elements id done b _) (q_array ih ([] ++ [(b.row.length : Int)]) m (fun hal => (hm hal).trans rfl) hb hq') fun c q2 hc2 hq2 hl2 => ?_
  (try simp only [go, taken, done, List.map_nil, qn, reduceIte, Int.reduceEq, if_true, if_false, ne_eq, qm])
  repeat' ((try simp only [go, taken, done, List.map_nil, qn, reduceIte, Int.reduceEq, if_true, if_false, ne_eq, qm]); first | ((with_reducible refine Rq.fin ‹_› ?_); first | trivial | rfl) | with_reducible (first | refine Rq.ret ?_ | refine Rq.fk ?_ | refine Rq.fc ?_ | refine Rq.comes (by decide) ‹_› ‹_› (fun hc => ?_) fun hc => ?_ | refine Rq.take ‹_› ‹_› fun b q' hbt hb hq' hl => ?_ | refine Rq.expect (by decide) ‹_› ‹_› (fun b q' hb hq' hl => ?_) fun b q' hb hq' hl => ?_ | refine Rq.fail ‹_› ‹_› fun b q' hb hq' hd => ?_ | refine Rq.none_ ‹_› ‹_› fun b q' hb hq' hl => ?_ | refine Rq.up ‹_› ‹_› fun b q' hb hq' hl => ?_ | refine Rq.dead ‹_› (fun hd => ?_) fun hd => ?_) | ((with_reducible refine Rq.close ?_ ‹_› ‹_› fun b q' hb hq' hl => ?_); (focus ((intro hal; first | (refine (hm ?_).trans rfl; solve_by_elim (maxDepth := 20)) | (refine (hm2 ?_).trans rfl; solve_by_elim (maxDepth := 20))); done))) | ((with_reducible refine Rq.callU0 ‹_› (ih _ _ _ ?_ _ _ ‹_› ‹_›) fun r b q' hb hq' hl => ?_); (focus (rfl; done))) | exact Rq.stop ‹_› (by repeat (first | exact SF.some | exact SF.Fc | exact SF.Fk | refine SF.bind ?_)) ‹_› fun _ => by first | trivial | rfl)
 by_cases h83 : b.kinds.getD 0 0 = 83
 ·simp only [h83]; (try simp only [go, taken, done, List.map_nil, qn, reduceIte, Int.reduceEq, if_true, if_false, ne_eq, qm])
  repeat' ((try simp only [go, taken, done, List.map_nil, qn, reduceIte, Int.reduceEq, if_true, if_false, ne_eq, qm]); first | ((with_reducible refine Rq.fin ‹_› ?_); first | trivial | rfl) | with_reducible (first | refine Rq.ret ?_ | refine Rq.fk ?_ | refine Rq.fc ?_ | refine Rq.comes (by decide) ‹_› ‹_› (fun hc => ?_) fun hc => ?_ | refine Rq.take ‹_› ‹_› fun b q' hbt hb hq' hl => ?_ | refine Rq.expect (by decide) ‹_› ‹_› (fun b q' hb hq' hl => ?_) fun b q' hb hq' hl => ?_ | refine Rq.fail ‹_› ‹_› fun b q' hb hq' hd => ?_ | refine Rq.none_ ‹_› ‹_› fun b q' hb hq' hl => ?_ | refine Rq.up ‹_› ‹_› fun b q' hb hq' hl => ?_ | refine Rq.dead ‹_› (fun hd => ?_) fun hd => ?_) | ((with_reducible refine Rq.close ?_ ‹_› ‹_› fun b q' hb hq' hl => ?_); (focus ((intro hal; first | (refine (hm ?_).trans rfl; solve_by_elim (maxDepth := 20)) | (refine (hm2 ?_).trans rfl; solve_by_elim (maxDepth := 20))); done))) | ((with_reducible refine Rq.callU0 ‹_› (ih _ _ _ ?_ _ _ ‹_› ‹_›) fun r b q' hb hq' hl => ?_); (focus (rfl; done))) | exact Rq.stop ‹_› (by repeat (first | exact SF.some | exact SF.Fc | exact SF.Fk | refine SF.bind ?_)) ‹_› fun _ => by first | trivial | rfl)
 by_cases h87 : b.kinds.getD 0 0 = 87
 ·simp only [h87]; (try simp only [go, taken, done, List.map_nil, qn, reduceIte, Int.reduceEq, if_true, if_false, ne_eq, qm])
  repeat' ((try simp only [go, taken, done, List.map_nil, qn, reduceIte, Int.reduceEq, if_true, if_false, ne_eq, qm]); first | ((with_reducible refine Rq.fin ‹_› ?_); first | trivial | rfl) | with_reducible (first | refine Rq.ret ?_ | refine Rq.fk ?_ | refine Rq.fc ?_ | refine Rq.comes (by decide) ‹_› ‹_› (fun hc => ?_) fun hc => ?_ | refine Rq.take ‹_› ‹_› fun b q' hbt hb hq' hl => ?_ | refine Rq.expect (by decide) ‹_› ‹_› (fun b q' hb hq' hl => ?_) fun b q' hb hq' hl => ?_ | refine Rq.fail ‹_› ‹_› fun b q' hb hq' hd => ?_ | refine Rq.none_ ‹_› ‹_› fun b q' hb hq' hl => ?_ | refine Rq.up ‹_› ‹_› fun b q' hb hq' hl => ?_ | refine Rq.dead ‹_› (fun hd => ?_) fun hd => ?_) | ((with_reducible refine Rq.close ?_ ‹_› ‹_› fun b q' hb hq' hl => ?_); (focus ((intro hal; first | (refine (hm ?_).trans rfl; solve_by_elim (maxDepth := 20)) | (refine (hm2 ?_).trans rfl; solve_by_elim (maxDepth := 20))); done))) | ((with_reducible refine Rq.callU0 ‹_› (ih _ _ _ ?_ _ _ ‹_› ‹_›) fun r b q' hb hq' hl => ?_); (focus (rfl; done))) | exact Rq.stop ‹_› (by repeat (first | exact SF.some | exact SF.Fc | exact SF.Fk | refine SF.bind ?_)) ‹_› fun _ => by first | trivial | rfl)
 by_cases h82 : b.kinds.getD 0 0 = 82
 ·simp only [h82]; (try simp only [go, taken, done, List.map_nil, qn, reduceIte, Int.reduceEq, if_true, if_false, ne_eq, qm])
  repeat' ((try simp only [go, taken, done, List.map_nil, qn, reduceIte, Int.reduceEq, if_true, if_false, ne_eq, qm]); first | ((with_reducible refine Rq.fin ‹_› ?_); first | trivial | rfl) | with_reducible (first | refine Rq.ret ?_ | refine Rq.fk ?_ | refine Rq.fc ?_ | refine Rq.comes (by decide) ‹_› ‹_› (fun hc => ?_) fun hc => ?_ | refine Rq.take ‹_› ‹_› fun b q' hbt hb hq' hl => ?_ | refine Rq.expect (by decide) ‹_› ‹_› (fun b q' hb hq' hl => ?_) fun b q' hb hq' hl => ?_ | refine Rq.fail ‹_› ‹_› fun b q' hb hq' hd => ?_ | refine Rq.none_ ‹_› ‹_› fun b q' hb hq' hl => ?_ | refine Rq.up ‹_› ‹_› fun b q' hb hq' hl => ?_ | refine Rq.dead ‹_› (fun hd => ?_) fun hd => ?_) | ((with_reducible refine Rq.close ?_ ‹_› ‹_› fun b q' hb hq' hl => ?_); (focus ((intro hal; first | (refine (hm ?_).trans rfl; solve_by_elim (maxDepth := 20)) | (refine (hm2 ?_).trans rfl; solve_by_elim (maxDepth := 20))); done))) | ((with_reducible refine Rq.callU0 ‹_› (ih _ _ _ ?_ _ _ ‹_› ‹_›) fun r b q' hb hq' hl => ?_); (focus (rfl; done))) | exact Rq.stop ‹_› (by repeat (first | exact SF.some | exact SF.Fc | exact SF.Fk | refine SF.bind ?_)) ‹_› fun _ => by first | trivial | rfl)
 simp only [h10, h57, h22, h79, h58, h83, h87, h82, decide_false, Bool.false_eq_true, if_false]
 (try simp only [go, taken, done, List.map_nil, qn, reduceIte, Int.reduceEq, if_true, if_false, ne_eq, qm])
 repeat' ((try simp only [go, taken, done, List.map_nil, qn, reduceIte, Int.reduceEq, if_true, if_false, ne_eq, qm]); first | ((with_reducible refine Rq.fin ‹_› ?_); first | trivial | rfl) | with_reducible (first | refine Rq.ret ?_ | refine Rq.fk ?_ | refine Rq.fc ?_ | refine Rq.comes (by decide) ‹_› ‹_› (fun hc => ?_) fun hc => ?_ | refine Rq.take ‹_› ‹_› fun b q' hbt hb hq' hl => ?_ | refine Rq.expect (by decide) ‹_› ‹_› (fun b q' hb hq' hl => ?_) fun b q' hb hq' hl => ?_ | refine Rq.fail ‹_› ‹_› fun b q' hb hq' hd => ?_ | refine Rq.none_ ‹_› ‹_› fun b q' hb hq' hl => ?_ | refine Rq.up ‹_› ‹_› fun b q' hb hq' hl => ?_ | refine Rq.dead ‹_› (fun hd => ?_) fun hd => ?_) | ((with_reducible refine Rq.close ?_ ‹_› ‹_› fun b q' hb hq' hl => ?_); (focus ((intro hal; first | (refine (hm ?_).trans rfl; solve_by_elim (maxDepth := 20)) | (refine (hm2 ?_).trans rfl; solve_by_elim (maxDepth := 20))); done))) | ((with_reducible refine Rq.callU0 ‹_› (ih _ _ _ ?_ _ _ ‹_› ‹_›) fun r b q' hb hq' hl => ?_); (focus (rfl; done))) | exact Rq.stop ‹_› (by repeat (first | exact SF.some | exact SF.Fc | exact SF.Fk | refine SF.bind ?_)) ‹_› fun _ => by first | trivial | rfl)
end
theorem q_itemsL (pr : Proc) (w : Bool) (f : Nat) (hf : rf pr = some (f, [.rdr 0])) (hw : (pr = .field ∧ w = true ∧ f = qfield.n) ∨ (pr = .element ∧ w = false ∧ f = qelement.n)) : ∀ (n : Nat), IHQ n → ∀ (a : A) (q : QS) (lim n0 : Nat), a.good → RelQ q a → n < n0 → Rq ((callN n (.itemsL pr) a []).bind some) (qitems.l0 W lim n0 w q) P0
 | 0, ih, a, q, lim, n0, hg, hq, hn => Rq.zero
 | n + 1, ih, a, q, lim, 0, hg, hq, hn => by omega
 | n + 1, ih0, a, q, lim, n0 + 1, hg, hq, hn => by
  have ih := ih0.le (Nat.le_succ n)
  show Rq ((runM (callN n) (body (.itemsL pr)) a []).bind some) _ _
  rw [qitems.l0_succ]; simp only [body, itemsM]
  have one : ∀ (g : Nat), f = g → Rq ((runM (callN n) (go pr (taken [15, 16] fun t => if t then .call (.itemsL pr) [] .ret else expect 64 done)) a []).bind some)
    (cX W .u .ref g [.rdr 0] q fun _ (p7 : QS) =>
     cX W .b .ref qcomes.n [.rdr 0, .sl .int [15, 16]] p7 fun (x8 : Bool) (p9 : QS) =>
     if (!x8) then
     cX W .b .ref qExpect.n [.rdr 0, .int 64] p9 fun (x10 : Bool) (p11 : QS) =>
     some (.undef, p11)
     else
     cX W .u .ref qTake.n [.rdr 0] p9 fun _ (p13 : QS) =>
     qitems.l0 W lim n0 w p13) P0 := by
   intro g hgf
   subst hgf
   simp only [go]
   refine Rq.callU0 hg (ih _ _ _ hf _ _ hg hq) fun r b q' hb hq' hl => ?_
   refine Rq.comes (by decide) hq' hb (fun hc => ?_) (fun hc => ?_) <;> (try simp only [go, taken, done, List.map_nil, qn, reduceIte, Int.reduceEq, if_true, if_false, ne_eq, qm])
   ·refine Rq.take hq' hb fun c q2 hbt hc2 hq2 hl2 => ?_
    exact Rq.tailF (q_itemsL pr w f hf hw n ih c q2 lim n0 hc2 hq2 (by omega))
   ·repeat' ((try simp only [go, taken, done, List.map_nil, qn, reduceIte, Int.reduceEq, if_true, if_false, ne_eq, qm]); first | ((with_reducible refine Rq.fin ‹_› ?_); first | trivial | rfl) | with_reducible (first | refine Rq.ret ?_ | refine Rq.fk ?_ | refine Rq.fc ?_ | refine Rq.comes (by decide) ‹_› ‹_› (fun hc => ?_) fun hc => ?_ | refine Rq.take ‹_› ‹_› fun b q' hbt hb hq' hl => ?_ | refine Rq.expect (by decide) ‹_› ‹_› (fun b q' hb hq' hl => ?_) fun b q' hb hq' hl => ?_ | refine Rq.fail ‹_› ‹_› fun b q' hb hq' hd => ?_ | refine Rq.none_ ‹_› ‹_› fun b q' hb hq' hl => ?_ | refine Rq.up ‹_› ‹_› fun b q' hb hq' hl => ?_ | refine Rq.dead ‹_› (fun hd => ?_) fun hd => ?_) | ((with_reducible refine Rq.close ?_ ‹_› ‹_› fun b q' hb hq' hl => ?_); (focus ((intro hal; first | (refine (hm ?_).trans rfl; solve_by_elim (maxDepth := 20)) | (refine (hm2 ?_).trans rfl; solve_by_elim (maxDepth := 20))); done))) | ((with_reducible refine Rq.callU0 ‹_› (ih _ _ _ ?_ _ _ ‹_› ‹_›) fun r b q' hb hq' hl => ?_); (focus (rfl; done))) | exact Rq.stop ‹_› (by repeat (first | exact SF.some | exact SF.Fc | exact SF.Fk | refine SF.bind ?_)) ‹_› fun _ => by first | trivial | rfl)
  refine Rq.dead hq (fun hd => ?_) (fun hd => ?_)
  ·rw [if_neg (by decide)]
   refine Rq.comes (by decide) hq hg (fun hc => ?_) (fun hc => ?_)
   ·(try simp only [go, taken, done, List.map_nil, qn, reduceIte, Int.reduceEq, if_true, if_false, ne_eq, qm])
    repeat' ((try simp only [go, taken, done, List.map_nil, qn, reduceIte, Int.reduceEq, if_true, if_false, ne_eq, qm]); first | ((with_reducible refine Rq.fin ‹_› ?_); first | trivial | rfl) | with_reducible (first | refine Rq.ret ?_ | refine Rq.fk ?_ | refine Rq.fc ?_ | refine Rq.comes (by decide) ‹_› ‹_› (fun hc => ?_) fun hc => ?_ | refine Rq.take ‹_› ‹_› fun b q' hbt hb hq' hl => ?_ | refine Rq.expect (by decide) ‹_› ‹_› (fun b q' hb hq' hl => ?_) fun b q' hb hq' hl => ?_ | refine Rq.fail ‹_› ‹_› fun b q' hb hq' hd => ?_ | refine Rq.none_ ‹_› ‹_› fun b q' hb hq' hl => ?_ | refine Rq.up ‹_› ‹_› fun b q' hb hq' hl => ?_ | refine Rq.dead ‹_› (fun hd => ?_) fun hd => ?_) | ((with_reducible refine Rq.close ?_ ‹_› ‹_› fun b q' hb hq' hl => ?_); (focus ((intro hal; first | (refine (hm ?_).trans rfl; solve_by_elim (maxDepth := 20)) | (refine (hm2 ?_).trans rfl; solve_by_elim (maxDepth := 20))); done))) | ((with_reducible refine Rq.callU0 ‹_› (ih _ _ _ ?_ _ _ ‹_› ‹_›) fun r b q' hb hq' hl => ?_); (focus (rfl; done))) | exact Rq.stop ‹_› (by repeat (first | exact SF.some | exact SF.Fc | exact SF.Fk | refine SF.bind ?_)) ‹_› fun _ => by first | trivial | rfl)
   ·rw [if_neg (by decide), if_pos (by decide)]
    rcases hw with ⟨_, rfl, hfe⟩ | ⟨_, rfl, hfe⟩
    ·rw [if_pos rfl]; exact one _ hfe
    ·rw [if_neg (by decide)]; exact one _ hfe
  ·(try simp only [go, taken, done, List.map_nil, qn, reduceIte, Int.reduceEq, if_true, if_false, ne_eq, qm])
   repeat' ((try simp only [go, taken, done, List.map_nil, qn, reduceIte, Int.reduceEq, if_true, if_false, ne_eq, qm]); first | ((with_reducible refine Rq.fin ‹_› ?_); first | trivial | rfl) | with_reducible (first | refine Rq.ret ?_ | refine Rq.fk ?_ | refine Rq.fc ?_ | refine Rq.comes (by decide) ‹_› ‹_› (fun hc => ?_) fun hc => ?_ | refine Rq.take ‹_› ‹_› fun b q' hbt hb hq' hl => ?_ | refine Rq.expect (by decide) ‹_› ‹_› (fun b q' hb hq' hl => ?_) fun b q' hb hq' hl => ?_ | refine Rq.fail ‹_› ‹_› fun b q' hb hq' hd => ?_ | refine Rq.none_ ‹_› ‹_› fun b q' hb hq' hl => ?_ | refine Rq.up ‹_› ‹_› fun b q' hb hq' hl => ?_ | refine Rq.dead ‹_› (fun hd => ?_) fun hd => ?_) | ((with_reducible refine Rq.close ?_ ‹_› ‹_› fun b q' hb hq' hl => ?_); (focus ((intro hal; first | (refine (hm ?_).trans rfl; solve_by_elim (maxDepth := 20)) | (refine (hm2 ?_).trans rfl; solve_by_elim (maxDepth := 20))); done))) | ((with_reducible refine Rq.callU0 ‹_› (ih _ _ _ ?_ _ _ ‹_› ‹_›) fun r b q' hb hq' hl => ?_); (focus (rfl; done))) | exact Rq.stop ‹_› (by repeat (first | exact SF.some | exact SF.Fc | exact SF.Fk | refine SF.bind ?_)) ‹_› fun _ => by first | trivial | rfl)
theorem q_fieldL : ∀ (n : Nat), IHQ n → ∀ (a : A) (q : QS) (ms : List Int) (m : Int) (lim n0 : Nat), a.good → RelQ q a → (a.dead = false → m = ms.getD 0 0) → n < n0 → Rq ((callN n .fieldL a ms).bind some) (qfield.l1 W lim n0 m q) P0
 | 0, ih, a, q, ms, m, lim, n0, hg, hq, hm, hn => Rq.zero
 | n + 1, ih, a, q, ms, m, lim, 0, hg, hq, hm, hn => by omega
 | n + 1, ih0, a, q, ms, m, lim, n0 + 1, hg, hq, hm, hn => by
  have ih := ih0.le (Nat.le_succ n)
  show Rq ((runM (callN n) (body .fieldL) a ms).bind some) _ _
  rw [qfield.l1_succ]; simp only [body]
  refine Rq.comes (by decide) hq hg (fun hc => ?_) (fun hc => ?_) <;> (try simp only [go, taken, done, List.map_nil, qn, reduceIte, Int.reduceEq, if_true, if_false, ne_eq, qm])
  ·refine Rq.take hq hg fun b q' hbt hb hq' hl => ?_
   refine Rq.callU0 hb (ih _ _ _ (by rfl) _ _ hb hq') fun r c q2 hc2 hq2 hl2 => ?_
   exact Rq.tailF (q_fieldL n ih c q2 _ m lim n0 hc2 hq2 (fun hal => (hm (hl (hl2 hal))).trans rfl) (by omega))
  ·repeat' ((try simp only [go, taken, done, List.map_nil, qn, reduceIte, Int.reduceEq, if_true, if_false, ne_eq, qm]); first | ((with_reducible refine Rq.fin ‹_› ?_); first | trivial | rfl) | with_reducible (first | refine Rq.ret ?_ | refine Rq.fk ?_ | refine Rq.fc ?_ | refine Rq.comes (by decide) ‹_› ‹_› (fun hc => ?_) fun hc => ?_ | refine Rq.take ‹_› ‹_› fun b q' hbt hb hq' hl => ?_ | refine Rq.expect (by decide) ‹_› ‹_› (fun b q' hb hq' hl => ?_) fun b q' hb hq' hl => ?_ | refine Rq.fail ‹_› ‹_› fun b q' hb hq' hd => ?_ | refine Rq.none_ ‹_› ‹_› fun b q' hb hq' hl => ?_ | refine Rq.up ‹_› ‹_› fun b q' hb hq' hl => ?_ | refine Rq.dead ‹_› (fun hd => ?_) fun hd => ?_) | ((with_reducible refine Rq.close ?_ ‹_› ‹_› fun b q' hb hq' hl => ?_); (focus ((intro hal; first | (refine (hm ?_).trans rfl; solve_by_elim (maxDepth := 20)) | (refine (hm2 ?_).trans rfl; solve_by_elim (maxDepth := 20))); done))) | ((with_reducible refine Rq.callU0 ‹_› (ih _ _ _ ?_ _ _ ‹_› ‹_›) fun r b q' hb hq' hl => ?_); (focus (rfl; done))) | exact Rq.stop ‹_› (by repeat (first | exact SF.some | exact SF.Fc | exact SF.Fk | refine SF.bind ?_)) ‹_› fun _ => by first | trivial | rfl)
theorem q_unionL : ∀ (n : Nat), IHQ n → ∀ (a : A) (q : QS) (more : Bool) (c : Int) (lim n0 : Nat), a.good → RelQ q a → 0 ≤ c → (more = true ↔ 1 ≤ c) → c + a.rest.length < 2199023255552 → n < n0 → Rq ((callN n (.unionL more) a []).bind some) (qunion.l0 W lim n0 c q) PU
 | 0, ih, a, q, more, c, lim, n0, hg, hq, h0, hm, hr, hn => Rq.zero
 | n + 1, ih, a, q, more, c, lim, 0, hg, hq, h0, hm, hr, hn => by omega
 | n + 1, ih0, a, q, more, c, lim, n0 + 1, hg, hq, h0, hm, hr, hn => by
  have ih := ih0.le (Nat.le_succ n)
  show Rq ((runM (callN n) (body (.unionL more)) a []).bind some) _ _
  rw [qunion.l0_succ]; simp only [body, qunion.j0, qunion.j1]
  have hl0 := hg.len
  have next : ∀ (b : A) (q' : QS), b.good → RelQ q' b → b.kinds.getD 0 0 ≠ 0 → b.rest.length ≤ a.rest.length → ∀ (d : A) (q2 : QS), d = b.take → d.good → RelQ q2 d → Rq ((callN n (.unionL true) d []).bind some) (qunion.l0 W lim n0 (c + 1) q2) PU := by
   intro b q' hb hq' hk hle d q2 hdt hd hq2
   have := take_lt hk
   exact q_unionL n ih d q2 true (c + 1) lim n0 hd hq2 (by omega) (by simp; omega) (by rw [hdt]; omega) (by omega)
  have hcomes : ∀ b : A, comesF [26] b.kinds = true → b.kinds.getD 0 0 ≠ 0 := by
   intro b hb
   rw [comes1 (by decide)] at hb
   rw [of_decide_eq_true hb]; decide
  refine Rq.mark hq fun m hm2 _ _ => ?_
  refine Rq.comes (by decide) hq hg (fun hc => ?_) (fun hc => ?_) <;> (try simp only [go, taken, done, List.map_nil, qn, reduceIte, Int.reduceEq, if_true, if_false, ne_eq, qm])
  ·refine Rq.take hq hg fun b q' hbt hb hq' hl => ?_
   rw [wi _ (by omega) (by omega)]
   have hbl : b.rest.length ≤ a.rest.length := by rw [hbt]; exact take_rest
   intro r z hx
   simp only [runM] at hx
   cases hcl : callN n .Type b (List.map (fun h => ([] ++ [(a.row.length : Int)]).getD h 0) []) with
   | none => rw [hcl] at hx; cases hx
   | some rb =>
    obtain ⟨r1, b1⟩ := rb
    rw [hcl] at hx
    obtain ⟨w, q2, g1, _, g2⟩ := ih _ _ _ (by rfl : rf .Type = _) _ _ hb hq' r1 b1 hcl
    rw [cX_u g1]
    have hk := callN_good n .Type b _ _ _ hb hcl
    have hll := live_of_call hcl
    have key : Rq ((runM (callN n) (.close 0 230 (taken [26] fun u => if u then .call (.unionL true) [] .ret else .ret 1)) b1 ([] ++ [(a.row.length : Int)])).bind some)
      (cX W .u .ref qClose.n [.rdr 0, .int m, .int 230] q2 fun _ (p14 : QS) =>
       cX W .b .ref qcomes.n [.rdr 0, .sl .int [26]] p14 fun (x17 : Bool) (p18 : QS) =>
       if (!x17) then
       some (.tup [.int (c + 1), .bool true], p18)
       else
       cX W .u .ref qTake.n [.rdr 0] p18 fun _ (p20 : QS) =>
       qunion.l0 W lim n0 (c + 1) p20) PU := by
     intro r z hx
     simp only [runM] at hx
     split at hx
     rotate_left
     ·cases hx
     rename_i hroom
     obtain ⟨q3, k1, k2⟩ := W_qClose g2 hk.1 hroom (([] ++ [(a.row.length : Int)]).getD 0 0) m 230 (fun hal => (hm2 (hl (hll hal))).trans rfl)
     rw [cX_u k1]
     have hgd := good_close hk.1 hroom (([] ++ [(a.row.length : Int)]).getD 0 0) 230
     have hcr := close_rest (a := b1) (([] ++ [(a.row.length : Int)]).getD 0 0) 230
     have : Rq ((runM (callN n) (taken [26] fun u => if u then .call (.unionL true) [] .ret else .ret 1) (A.close (([] ++ [(a.row.length : Int)]).getD 0 0) 230 b1) ([] ++ [(a.row.length : Int)])).bind some)
       (cX W .b .ref qcomes.n [.rdr 0, .sl .int [26]] q3 fun (x17 : Bool) (p18 : QS) =>
       if (!x17) then
       some (.tup [.int (c + 1), .bool true], p18)
       else
       cX W .u .ref qTake.n [.rdr 0] p18 fun _ (p20 : QS) =>
       qunion.l0 W lim n0 (c + 1) p20) PU := by
      refine Rq.comes (by decide) k2 hgd (fun hc => ?_) (fun hc => ?_) <;> (try simp only [go, taken, done, List.map_nil, qn, reduceIte, Int.reduceEq, if_true, if_false, ne_eq, qm])
      ·refine Rq.take k2 hgd fun d q4 hdt hd4 hq4 hl4 => ?_
       exact Rq.tailF (next _ q3 hgd k2 (hcomes _ hc) (by rw [hcr]; have := hk.2; omega) d q4 hdt hd4 hq4)
      ·refine Rq.ret (Rq.fin k2 ⟨c + 1, true, rfl, by simp⟩)
     exact this r z hx
    exact key r z hx
  ·intro r z hx
   rw [wi _ (by omega) (by omega)]
   simp only [runM] at hx
   cases hcl : callN n .Type a (List.map (fun h => ([] ++ [(a.row.length : Int)]).getD h 0) []) with
   | none => rw [hcl] at hx; cases hx
   | some rb =>
    obtain ⟨r1, b1⟩ := rb
    rw [hcl] at hx
    obtain ⟨w, q2, g1, _, g2⟩ := ih _ _ _ (by rfl : rf .Type = _) _ _ hg hq r1 b1 hcl
    rw [cX_u g1]
    have hk := callN_good n .Type a _ _ _ hg hcl
    have : Rq ((runM (callN n) (taken [26] fun u => if u then .call (.unionL true) [] .ret else .ret (if more then 1 else 0)) b1 ([] ++ [(a.row.length : Int)])).bind some)
      (cX W .b .ref qcomes.n [.rdr 0, .sl .int [26]] q2 fun (x17 : Bool) (p18 : QS) =>
      if (!x17) then
      some (.tup [.int (c + 1), .bool false], p18)
      else
      cX W .u .ref qTake.n [.rdr 0] p18 fun _ (p20 : QS) =>
      qunion.l0 W lim n0 (c + 1) p20) PU := by
     refine Rq.comes (by decide) g2 hk.1 (fun hc => ?_) (fun hc => ?_) <;> (try simp only [go, taken, done, List.map_nil, qn, reduceIte, Int.reduceEq, if_true, if_false, ne_eq, qm])
     ·refine Rq.take g2 hk.1 fun d q4 hdt hd4 hq4 hl4 => ?_
      exact Rq.tailF (next _ q2 hk.1 g2 (hcomes _ hc) hk.2 d q4 hdt hd4 hq4)
     ·refine Rq.ret (Rq.fin g2 ⟨c + 1, false, rfl, ?_⟩)
      cases more with
      | true => have := hm.1 rfl; simp; omega
      | false => have : ¬ 1 ≤ c := (fun h => by cases hm.2 h); simp; omega
    exact this r z hx
section
variable {n : Nat} {a : A} {q : QS}
theorem q_union (ih : IHQ n) (hg : a.good) (hq : RelQ q a) : Rq (runM (callN n) (body .union) a []) (W .ref qunion.n [.rdr 0] q) PU := by
 refine Rq.fix qunion.fd (n + 1) (Rq.start ?_)
 rw [qunion_eq]; simp only [body]
 have := hg.len
 exact Rq.tailF (q_unionL n ih a q false 0 _ _ hg hq (by decide) (by simp) (by omega) (by omega))
theorem q_items (ih : IHQ n) (pr : Proc) (w : Bool) (f : Nat) (hf : rf pr = some (f, [.rdr 0])) (hw : (pr = .field ∧ w = true ∧ f = qfield.n) ∨ (pr = .element ∧ w = false ∧ f = qelement.n)) (hg : a.good) (hq : RelQ q a) : Rq (runM (callN n) (body (.items pr)) a []) (W .ref qitems.n [.rdr 0, .bool w] q) P0 := by
 refine Rq.fix qitems.fd (n + 1) (Rq.start ?_)
 rw [qitems_eq]; simp only [body]
 refine Rq.expect (by decide) hq hg (fun b q' hb hq' hl => ?_) (fun b q' hb hq' hl => ?_)
 ·exact Rq.tailF (q_itemsL pr w f hf hw n ih b q' _ _ hb hq' (by omega))
 ·exact Rq.tailF (q_itemsL pr w f hf hw n ih b q' _ _ hb hq' (by omega))
theorem q_field (ih : IHQ n) (hg : a.good) (hq : RelQ q a) : Rq (runM (callN n) (body .field) a []) (W .ref qfield.n [.rdr 0] q) P0 := by
 refine Rq.fix qfield.fd (n + 1) (Rq.start ?_)
 rw [qfield_eq]; simp only [body, qfield.j0]
 refine Rq.mark hq fun m hm _ _ => ?_
 refine Rq.comes (by decide) hq hg (fun hc => ?_) (fun hc => ?_)
 ·(try simp only [go, taken, done, List.map_nil, qn, reduceIte, Int.reduceEq, if_true, if_false, ne_eq, qm])
  repeat' ((try simp only [go, taken, done, List.map_nil, qn, reduceIte, Int.reduceEq, if_true, if_false, ne_eq, qm]); first | ((with_reducible refine Rq.fin ‹_› ?_); first | trivial | rfl) | with_reducible (first | refine Rq.ret ?_ | refine Rq.fk ?_ | refine Rq.fc ?_ | refine Rq.comes (by decide) ‹_› ‹_› (fun hc => ?_) fun hc => ?_ | refine Rq.take ‹_› ‹_› fun b q' hbt hb hq' hl => ?_ | refine Rq.expect (by decide) ‹_› ‹_› (fun b q' hb hq' hl => ?_) fun b q' hb hq' hl => ?_ | refine Rq.fail ‹_› ‹_› fun b q' hb hq' hd => ?_ | refine Rq.none_ ‹_› ‹_› fun b q' hb hq' hl => ?_ | refine Rq.up ‹_› ‹_› fun b q' hb hq' hl => ?_ | refine Rq.dead ‹_› (fun hd => ?_) fun hd => ?_) | ((with_reducible refine Rq.close ?_ ‹_› ‹_› fun b q' hb hq' hl => ?_); (focus ((intro hal; first | (refine (hm ?_).trans rfl; solve_by_elim (maxDepth := 20)) | (refine (hm2 ?_).trans rfl; solve_by_elim (maxDepth := 20))); done))) | ((with_reducible refine Rq.callU0 ‹_› (ih _ _ _ ?_ _ _ ‹_› ‹_›) fun r b q' hb hq' hl => ?_); (focus (rfl; done))) | exact Rq.stop ‹_› (by repeat (first | exact SF.some | exact SF.Fc | exact SF.Fk | refine SF.bind ?_)) ‹_› fun _ => by first | trivial | rfl)
 rw [if_neg (by decide), if_neg (by decide)]
 refine Rq.xlookB ?_
 have emb : Rq ((runM (callN n) (go .qualified (.close 0 226 done)) a ([] ++ [(a.row.length : Int)])).bind some) (cX W .u .ref qqualified.n [.rdr 0] q fun _ (p18 : QS) =>
   cX W .u .ref qClose.n [.rdr 0, .int m, .int 226] p18 fun _ (p20 : QS) =>
   some (.undef, p20)) P0 := by
  (try simp only [go, taken, done, List.map_nil, qn, reduceIte, Int.reduceEq, if_true, if_false, ne_eq, qm])
  repeat' ((try simp only [go, taken, done, List.map_nil, qn, reduceIte, Int.reduceEq, if_true, if_false, ne_eq, qm]); first | ((with_reducible refine Rq.fin ‹_› ?_); first | trivial | rfl) | with_reducible (first | refine Rq.ret ?_ | refine Rq.fk ?_ | refine Rq.fc ?_ | refine Rq.comes (by decide) ‹_› ‹_› (fun hc => ?_) fun hc => ?_ | refine Rq.take ‹_› ‹_› fun b q' hbt hb hq' hl => ?_ | refine Rq.expect (by decide) ‹_› ‹_› (fun b q' hb hq' hl => ?_) fun b q' hb hq' hl => ?_ | refine Rq.fail ‹_› ‹_› fun b q' hb hq' hd => ?_ | refine Rq.none_ ‹_› ‹_› fun b q' hb hq' hl => ?_ | refine Rq.up ‹_› ‹_› fun b q' hb hq' hl => ?_ | refine Rq.dead ‹_› (fun hd => ?_) fun hd => ?_) | ((with_reducible refine Rq.close ?_ ‹_› ‹_› fun b q' hb hq' hl => ?_); (focus ((intro hal; first | (refine (hm ?_).trans rfl; solve_by_elim (maxDepth := 20)) | (refine (hm2 ?_).trans rfl; solve_by_elim (maxDepth := 20))); done))) | ((with_reducible refine Rq.callU0 ‹_› (ih _ _ _ ?_ _ _ ‹_› ‹_›) fun r b q' hb hq' hl => ?_); (focus (rfl; done))) | exact Rq.stop ‹_› (by repeat (first | exact SF.some | exact SF.Fc | exact SF.Fk | refine SF.bind ?_)) ‹_› fun _ => by first | trivial | rfl)
 have nam : Rq ((runM (callN n) (go .Name (.call .fieldL [0] .ret)) a ([] ++ [(a.row.length : Int)])).bind some) (cX W .u .ref qName.n [.rdr 0] q fun _ (p23 : QS) =>
   qfield.l1 W (n + 1) (n + 1) m p23) P0 := by
  simp only [go]
  refine Rq.callU0 hg (ih _ _ _ (by rfl) _ _ hg hq) fun r b q' hb hq' hl => ?_
  exact Rq.tailF (q_fieldL n ih b q' _ m _ _ hb hq' (fun hal => (hm (hl hal)).trans rfl) (by omega))
 by_cases h10 : a.kinds.getD 0 0 = 10
 rotate_left
 ·refine Rq.tcN (by decide) (by rw [comes1 (by decide), decide_eq_false h10]) hq hg ?_
  have : embF a.kinds = false := by unfold embF; rw [decide_eq_false h10]; simp
  rw [this, if_neg (by decide), if_neg (by decide)]
  exact nam
 refine Rq.tcY (by decide) (by rw [comes1 (by decide), decide_eq_true h10]) hq hg ?_
 rw [if_pos rfl, cX_i (show W .ref qAhead.n [.rdr 0, .int 1] q = _ from W_qAhead' hq hg.took 1 (by decide))]
 have he : embF a.kinds = (decide (a.kinds.getD 1 0 = 15) || decide (a.kinds.getD 1 0 = 16) || decide (a.kinds.getD 1 0 = 64) || decide (a.kinds.getD 1 0 = 61)) := by
  unfold embF; rw [decide_eq_true h10, Bool.and_true]
 rw [he]
 generalize a.kinds.getD 1 0 = x
 by_cases h1 : x = 15
 ·subst h1; exact emb
 by_cases h2 : x = 16
 ·subst h2; exact emb
 by_cases h3 : x = 64
 ·subst h3; exact emb
 by_cases h4 : x = 61
 ·subst h4; exact emb
 simp only [h1, h2, h3, h4, decide_false, Bool.or_self, Bool.false_eq_true, if_false]
 exact nam
theorem callT2 {f : Nat} {args : List AV} {p q : QS} {R : Type} {c : Int} {t : Bool} {K : (Int × Bool) → QS → Option R} (h : W .ref f args p = some (.tup [.int c, .bool t], q)) : cX W (.t2 .i .b) .ref f args p K = K (c, t) q := by
 unfold cX; rw [h]; rfl
theorem Rq.callT {ms : List Int} {e : Int → AV → Prop} {F : Int × A → Option (Int × A)} {pr : Proc} {k : Int → M} {f : Nat} {args : List AV} {K : (Int × Bool) → QS → Option (AV × QS)} (hg : a.good) (H : Rq (callN n pr a []) (W .ref f args q) PU)
  (h : ∀ r b q' (c : Int) (t : Bool), (r ≠ 0 ↔ (c > 1 ∨ t = true)) → b.good → RelQ q' b → (b.dead = false → a.dead = false) → Rq ((runM (callN n) (k r) b ms).bind F) (K (c, t) q') e) : Rq ((runM (callN n) (.call pr [] k) a ms).bind F) (cX W (.t2 .i .b) .ref f args q K) e := by
 intro r b hx
 simp only [runM, List.map_nil] at hx
 split at hx
 ·rename_i r1 b1 hc
  obtain ⟨w, q', h1, ⟨c, t, h3, h4⟩, h2⟩ := H _ _ hc
  rw [h3] at h1
  rw [callT2 h1]
  exact h _ _ q' c t h4 (callN_good n pr a _ _ _ hg hc).1 h2 (live_of_call hc) r b hx
 ·cases hx
theorem q_element (ih : IHQ n) (hg : a.good) (hq : RelQ q a) : Rq (runM (callN n) (body .element) a []) (W .ref qelement.n [.rdr 0] q) P0 := by
 refine Rq.fix qelement.fd n (Rq.start ?_)
 rw [qelement_eq]; simp only [body]
 refine Rq.mark hq fun m hm _ _ => ?_
 refine Rq.xlookB ?_
 have uni : Rq ((runM (callN n) (go .union (.close 0 229 done)) a ([] ++ [(a.row.length : Int)])).bind some) (cX W (.t2 .i .b) .ref qunion.n [.rdr 0] q fun (x13 : (Int × Bool)) (p14 : QS) =>
   cX W .u .ref qClose.n [.rdr 0, .int m, .int 229] p14 fun _ (p16 : QS) =>
   some (.undef, p16)) P0 := by
  simp only [go]
  refine Rq.callT hg (ih _ _ _ (by rfl) _ _ hg hq) fun r b q' c t _ hb hq' hl => ?_
  (try simp only [go, taken, done, List.map_nil, qn, reduceIte, Int.reduceEq, if_true, if_false, ne_eq, qm])
  repeat' ((try simp only [go, taken, done, List.map_nil, qn, reduceIte, Int.reduceEq, if_true, if_false, ne_eq, qm]); first | ((with_reducible refine Rq.fin ‹_› ?_); first | trivial | rfl) | with_reducible (first | refine Rq.ret ?_ | refine Rq.fk ?_ | refine Rq.fc ?_ | refine Rq.comes (by decide) ‹_› ‹_› (fun hc => ?_) fun hc => ?_ | refine Rq.take ‹_› ‹_› fun b q' hbt hb hq' hl => ?_ | refine Rq.expect (by decide) ‹_› ‹_› (fun b q' hb hq' hl => ?_) fun b q' hb hq' hl => ?_ | refine Rq.fail ‹_› ‹_› fun b q' hb hq' hd => ?_ | refine Rq.none_ ‹_› ‹_› fun b q' hb hq' hl => ?_ | refine Rq.up ‹_› ‹_› fun b q' hb hq' hl => ?_ | refine Rq.dead ‹_› (fun hd => ?_) fun hd => ?_) | ((with_reducible refine Rq.close ?_ ‹_› ‹_› fun b q' hb hq' hl => ?_); (focus ((intro hal; first | (refine (hm ?_).trans rfl; solve_by_elim (maxDepth := 20)) | (refine (hm2 ?_).trans rfl; solve_by_elim (maxDepth := 20))); done))) | ((with_reducible refine Rq.callU0 ‹_› (ih _ _ _ ?_ _ _ ‹_› ‹_›) fun r b q' hb hq' hl => ?_); (focus (rfl; done))) | exact Rq.stop ‹_› (by repeat (first | exact SF.some | exact SF.Fc | exact SF.Fk | refine SF.bind ?_)) ‹_› fun _ => by first | trivial | rfl)
 by_cases h10 : a.kinds.getD 0 0 = 10
 rotate_left
 ·refine Rq.tcN (by decide) (by rw [comes1 (by decide), decide_eq_false h10]) hq hg ?_
  rw [decide_eq_false h10, Bool.false_and, if_neg (by decide), if_neg (by decide)]
  exact uni
 refine Rq.tcY (by decide) (by rw [comes1 (by decide), decide_eq_true h10]) hq hg ?_
 rw [if_pos rfl, cX_i (show W .ref qAhead.n [.rdr 0, .int 1] q = _ from W_qAhead' hq hg.took 1 (by decide)), decide_eq_true h10, Bool.true_and]
 by_cases h1 : a.kinds.getD 1 0 = 57
 ·rw [decide_eq_true h1]
  (try simp only [go, taken, done, List.map_nil, qn, reduceIte, Int.reduceEq, if_true, if_false, ne_eq, qm])
  repeat' ((try simp only [go, taken, done, List.map_nil, qn, reduceIte, Int.reduceEq, if_true, if_false, ne_eq, qm]); first | ((with_reducible refine Rq.fin ‹_› ?_); first | trivial | rfl) | with_reducible (first | refine Rq.ret ?_ | refine Rq.fk ?_ | refine Rq.fc ?_ | refine Rq.comes (by decide) ‹_› ‹_› (fun hc => ?_) fun hc => ?_ | refine Rq.take ‹_› ‹_› fun b q' hbt hb hq' hl => ?_ | refine Rq.expect (by decide) ‹_› ‹_› (fun b q' hb hq' hl => ?_) fun b q' hb hq' hl => ?_ | refine Rq.fail ‹_› ‹_› fun b q' hb hq' hd => ?_ | refine Rq.none_ ‹_› ‹_› fun b q' hb hq' hl => ?_ | refine Rq.up ‹_› ‹_› fun b q' hb hq' hl => ?_ | refine Rq.dead ‹_› (fun hd => ?_) fun hd => ?_) | ((with_reducible refine Rq.close ?_ ‹_› ‹_› fun b q' hb hq' hl => ?_); (focus ((intro hal; first | (refine (hm ?_).trans rfl; solve_by_elim (maxDepth := 20)) | (refine (hm2 ?_).trans rfl; solve_by_elim (maxDepth := 20))); done))) | ((with_reducible refine Rq.callU0 ‹_› (ih _ _ _ ?_ _ _ ‹_› ‹_›) fun r b q' hb hq' hl => ?_); (focus (rfl; done))) | exact Rq.stop ‹_› (by repeat (first | exact SF.some | exact SF.Fc | exact SF.Fk | refine SF.bind ?_)) ‹_› fun _ => by first | trivial | rfl)
 ·rw [decide_eq_false h1, if_neg (by decide), if_neg (by decide)]
  exact uni
theorem q_Sig (ih : IHQ n) (hg : a.good) (hq : RelQ q a) : Rq (runM (callN n) (body .Sig) a []) (W .ref qSig.n [.rdr 0] q) P0 := by
 refine Rq.fix qSig.fd n (Rq.start ?_)
 rw [qSig_eq]; simp only [body, go]
 refine Rq.inl ?_; simp only [body, go]
 refine Rq.mark hq fun m hm _ _ => ?_
 refine Rq.inl ?_; simp only [body, go]
 refine Rq.callU0 hg (ih _ _ _ (by rfl) _ _ hg hq) fun r b q' hb hq' hl => ?_
 refine Rq.xkind ?_
 have hcm : comesF [10, 22, 58, 83, 87, 82, 79] b.kinds = decide (b.kinds.getD 0 0 = 10 ∨ b.kinds.getD 0 0 = 22 ∨ b.kinds.getD 0 0 = 58 ∨ b.kinds.getD 0 0 = 83 ∨ b.kinds.getD 0 0 = 87 ∨ b.kinds.getD 0 0 = 82 ∨ b.kinds.getD 0 0 = 79) := by
  unfold comesF
  generalize b.kinds.getD 0 0 = x
  by_cases h1 : x = 0
  ·subst h1; rfl
  ·rw [decide_eq_true h1]; simp [List.contains_cons, Bool.decide_or]
 by_cases h57 : b.kinds.getD 0 0 = 57
 ·refine Rq.tcY (by decide) (by rw [comes1 (by decide), decide_eq_true h57]) hq' hb ?_
  rw [if_pos h57]
  (try simp only [go, taken, done, List.map_nil, qn, reduceIte, Int.reduceEq, if_true, if_false, ne_eq, qm])
  repeat' ((try simp only [go, taken, done, List.map_nil, qn, reduceIte, Int.reduceEq, if_true, if_false, ne_eq, qm]); first | ((with_reducible refine Rq.fin ‹_› ?_); first | trivial | rfl) | with_reducible (first | refine Rq.ret ?_ | refine Rq.fk ?_ | refine Rq.fc ?_ | refine Rq.comes (by decide) ‹_› ‹_› (fun hc => ?_) fun hc => ?_ | refine Rq.take ‹_› ‹_› fun b q' hbt hb hq' hl => ?_ | refine Rq.expect (by decide) ‹_› ‹_› (fun b q' hb hq' hl => ?_) fun b q' hb hq' hl => ?_ | refine Rq.fail ‹_› ‹_› fun b q' hb hq' hd => ?_ | refine Rq.none_ ‹_› ‹_› fun b q' hb hq' hl => ?_ | refine Rq.up ‹_› ‹_› fun b q' hb hq' hl => ?_ | refine Rq.dead ‹_› (fun hd => ?_) fun hd => ?_) | ((with_reducible refine Rq.close ?_ ‹_› ‹_› fun b q' hb hq' hl => ?_); (focus ((intro hal; first | (refine (hm ?_).trans rfl; solve_by_elim (maxDepth := 20)) | (refine (hm2 ?_).trans rfl; solve_by_elim (maxDepth := 20))); done))) | ((with_reducible refine Rq.callU0 ‹_› (ih _ _ _ ?_ _ _ ‹_› ‹_›) fun r b q' hb hq' hl => ?_); (focus (rfl; done))) | exact Rq.stop ‹_› (by repeat (first | exact SF.some | exact SF.Fc | exact SF.Fk | refine SF.bind ?_)) ‹_› fun _ => by first | trivial | rfl)
 refine Rq.tcN (by decide) (by rw [comes1 (by decide), decide_eq_false h57]) hq' hb ?_
 rw [if_neg h57, if_neg (c := false = true) (by decide)]
 by_cases hx : b.kinds.getD 0 0 = 10 ∨ b.kinds.getD 0 0 = 22 ∨ b.kinds.getD 0 0 = 58 ∨ b.kinds.getD 0 0 = 83 ∨ b.kinds.getD 0 0 = 87 ∨ b.kinds.getD 0 0 = 82 ∨ b.kinds.getD 0 0 = 79
 ·refine Rq.tcY (by decide) (by rw [hcm]; exact decide_eq_true hx) hq' hb ?_
  rw [if_pos hx]
  (try simp only [go, taken, done, List.map_nil, qn, reduceIte, Int.reduceEq, if_true, if_false, ne_eq, qm])
  repeat' ((try simp only [go, taken, done, List.map_nil, qn, reduceIte, Int.reduceEq, if_true, if_false, ne_eq, qm]); first | ((with_reducible refine Rq.fin ‹_› ?_); first | trivial | rfl) | with_reducible (first | refine Rq.ret ?_ | refine Rq.fk ?_ | refine Rq.fc ?_ | refine Rq.comes (by decide) ‹_› ‹_› (fun hc => ?_) fun hc => ?_ | refine Rq.take ‹_› ‹_› fun b q' hbt hb hq' hl => ?_ | refine Rq.expect (by decide) ‹_› ‹_› (fun b q' hb hq' hl => ?_) fun b q' hb hq' hl => ?_ | refine Rq.fail ‹_› ‹_› fun b q' hb hq' hd => ?_ | refine Rq.none_ ‹_› ‹_› fun b q' hb hq' hl => ?_ | refine Rq.up ‹_› ‹_› fun b q' hb hq' hl => ?_ | refine Rq.dead ‹_› (fun hd => ?_) fun hd => ?_) | ((with_reducible refine Rq.close ?_ ‹_› ‹_› fun b q' hb hq' hl => ?_); (focus ((intro hal; first | (refine (hm ?_).trans rfl; solve_by_elim (maxDepth := 20)) | (refine (hm2 ?_).trans rfl; solve_by_elim (maxDepth := 20))); done))) | ((with_reducible refine Rq.callU0 ‹_› (ih _ _ _ ?_ _ _ ‹_› ‹_›) fun r b q' hb hq' hl => ?_); (focus (rfl; done))) | exact Rq.stop ‹_› (by repeat (first | exact SF.some | exact SF.Fc | exact SF.Fk | refine SF.bind ?_)) ‹_› fun _ => by first | trivial | rfl)
 ·refine Rq.tcN (by decide) (by rw [hcm]; exact decide_eq_false hx) hq' hb ?_
  rw [if_neg hx]
  (try simp only [go, taken, done, List.map_nil, qn, reduceIte, Int.reduceEq, if_true, if_false, ne_eq, qm])
  repeat' ((try simp only [go, taken, done, List.map_nil, qn, reduceIte, Int.reduceEq, if_true, if_false, ne_eq, qm]); first | ((with_reducible refine Rq.fin ‹_› ?_); first | trivial | rfl) | with_reducible (first | refine Rq.ret ?_ | refine Rq.fk ?_ | refine Rq.fc ?_ | refine Rq.comes (by decide) ‹_› ‹_› (fun hc => ?_) fun hc => ?_ | refine Rq.take ‹_› ‹_› fun b q' hbt hb hq' hl => ?_ | refine Rq.expect (by decide) ‹_› ‹_› (fun b q' hb hq' hl => ?_) fun b q' hb hq' hl => ?_ | refine Rq.fail ‹_› ‹_› fun b q' hb hq' hd => ?_ | refine Rq.none_ ‹_› ‹_› fun b q' hb hq' hl => ?_ | refine Rq.up ‹_› ‹_› fun b q' hb hq' hl => ?_ | refine Rq.dead ‹_› (fun hd => ?_) fun hd => ?_) | ((with_reducible refine Rq.close ?_ ‹_› ‹_› fun b q' hb hq' hl => ?_); (focus ((intro hal; first | (refine (hm ?_).trans rfl; solve_by_elim (maxDepth := 20)) | (refine (hm2 ?_).trans rfl; solve_by_elim (maxDepth := 20))); done))) | ((with_reducible refine Rq.callU0 ‹_› (ih _ _ _ ?_ _ _ ‹_› ‹_›) fun r b q' hb hq' hl => ?_); (focus (rfl; done))) | exact Rq.stop ‹_› (by repeat (first | exact SF.some | exact SF.Fc | exact SF.Fk | refine SF.bind ?_)) ‹_› fun _ => by first | trivial | rfl)
theorem q_entryJ (ih : IHQ n) (lim : Nat) (v : Int) (w : Bool) (hv : w = decide (v ≠ 0)) (hg : a.good) (hq : RelQ q a) : Rq ((runM (callN n) (entryM v) a []).bind some) (qentry.j0 W lim w q) PB := by
 unfold entryM qentry.j0
 refine Rq.comes (by decide) hq hg (fun hc => ?_) (fun hc => ?_) <;> (try simp only [go, taken, done, List.map_nil, qn, reduceIte, Int.reduceEq, if_true, if_false, ne_eq, qm])
 ·refine Rq.inl ?_; simp only [body, go]
  refine Rq.mark hq fun m hm _ _ => ?_
  refine Rq.inl ?_; simp only [body, go]
  refine Rq.take hq hg fun b q' hbt hb hq' hl => ?_
  refine Rq.callU0 hb (ih _ _ _ (by rfl) _ _ hb hq') fun r c q2 hc2 hq2 hl2 => ?_
  (try simp only [go, taken, done, List.map_nil, qn, reduceIte, Int.reduceEq, if_true, if_false, ne_eq, qm])
  refine Rq.ret ?_
  refine Rq.close (fun hal => (hm (hl (hl2 hal))).trans rfl) hq2 hc2 fun d q3 hd3 hq3 hl3 => ?_
  exact Rq.ret (Rq.ret (Rq.fin hq3 (by rw [hv])))
 ·refine Rq.callU0 hg (ih _ _ _ (by rfl) _ _ hg hq) fun r c q2 hc2 hq2 hl2 => ?_
  exact Rq.ret (Rq.fin hq2 (by rw [hv]))
theorem q_entry (ih : IHQ n) (hg : a.good) (hq : RelQ q a) : Rq (runM (callN n) (body .entry) a []) (W .ref qentry.n [.rdr 0] q) PB := by
 refine Rq.fix qentry.fd n (Rq.start ?_)
 rw [qentry_eq]; simp only [body]
 refine Rq.xlookB ?_
 rw [cX_b (W_qisNamed hq hg.took)]
 cases hasNameF a.kinds with
 | true =>
  rw [if_pos rfl, if_pos rfl]
  simp only [go]
  refine Rq.callU0 hg (ih _ _ _ (by rfl) _ _ hg hq) fun r c q2 hc2 hq2 hl2 => ?_
  exact q_entryJ ih n 1 true (by decide) hc2 hq2
 | false =>
  rw [if_neg (by decide), if_neg (by decide)]
  exact q_entryJ ih n 0 false (by decide) hg hq
end
end Go.AI.Rd
namespace Go.AI.Rd
def msok' (ms : List Int) : Prop := ∀ m ∈ ms, 0 ≤ m
theorem entsOf_named : ∀ (ms : List Int) (ns : List Bool), ms.length = 2 * ns.length → (entsOf ms ns).map (·.named) = ns
 | [], [], _ => rfl
 | [], _ :: _, h => by simp at h
 | [_], ns, h => by simp at h; omega
 | _ :: _ :: ms, [], h => by simp at h
 | x :: y :: ms, c :: ns, h => by
  simp only [entsOf, List.map_cons]
  rw [entsOf_named ms ns (by simp only [List.length_cons] at h; omega)]
theorem entsOf_snoc' : ∀ (ms : List Int) (ns : List Bool) (f t : Int) (b : Bool), ms.length = 2 * ns.length → entsOf (ms ++ [f, t]) (ns ++ [b]) = entsOf ms ns ++ [⟨f, t, b⟩]
 | [], [], f, t, b, _ => rfl
 | [], _ :: _, f, t, b, h => by simp at h
 | [_], ns, f, t, b, h => by simp at h; omega
 | _ :: _ :: ms, [], f, t, b, h => by simp at h
 | x :: y :: ms, c :: ns, f, t, b, h => by
  simp only [List.cons_append, entsOf]
  rw [entsOf_snoc' ms ns f t b (by simp only [List.length_cons] at h; omega)]
theorem entsOf_from : ∀ (ms : List Int) (ns : List Bool), msok' ms → ∀ e ∈ entsOf ms ns, 0 ≤ e.from_
 | [], _, _ => fun e he => by simp [entsOf] at he
 | [_], _, _ => fun e he => by simp [entsOf] at he
 | _ :: _ :: _, [], _ => fun e he => by simp [entsOf] at he
 | f :: t :: ms, b :: ns, h => fun e he => by
  simp only [entsOf, List.mem_cons] at he
  rcases he with rfl | he
  ·exact h f (by simp)
  ·exact entsOf_from ms ns (fun m hm => h m (by simp [hm])) e he
theorem range_getD' (l : List Int) (k : Nat) (h : l.length = k) : (List.range k).map (fun i => l.getD i 0) = l := by
 subst h
 apply List.ext_getElem
 ·simp
 ·intro i h1 h2
  simp only [List.getElem_map, List.getElem_range, List.getD_eq_getElem?_getD, List.getElem?_eq_getElem h2]; rfl
section
variable {n : Nat} {a : A} {q : QS}
theorem bad_last : ∀ (l : List Ent), badEnts a l = false → l ≠ [] → (l.getD (l.length - 1) (El.dflt .ent)).named = true
 | [], _, h => absurd rfl h
 | [e], h, _ => by
  rw [badEnts_cons] at h
  simp only [List.isEmpty_nil, Bool.true_or, Bool.and_true, Bool.or_eq_false_iff] at h
  simpa using h.1
 | e :: f :: r, h, _ => by
  rw [badEnts_cons] at h
  simp only [Bool.or_eq_false_iff] at h
  have := bad_last (f :: r) h.2 (by simp)
  simpa using this
noncomputable def tailP (m : Int) (l21 l22 : List Int) (l23 : List Bool) (a24 : Bool) (p : QS) : Option (AV × QS) :=
 cX W .u .ref qgroup.n [.rdr 0, .sl .int l21, .sl .int l22, .sl .bool l23, .bool a24] p fun _ (p33 : QS) =>
 cX W .b .ref qExpect.n [.rdr 0, .int 62] p33 fun (x34 : Bool) (p35 : QS) =>
 cX W .u .ref qClose.n [.rdr 0, .int m, .int 232] p35 fun _ (p37 : QS) =>
 some (.undef, p37)
theorem q_l2 (hq : RelQ q a) (hg : a.good) (hlv : a.dead = false) (l : List Ent) (hl : l.length < 4294967280) (hp : ∀ e ∈ l, 0 ≤ e.from_) (lim : Nat) (m : Int) (any : Bool) (T : List Int) : ∀ (d i n2 : Nat), i + d = l.length → d < n2 →
  qParams.l2 W lim n2 m (l.map (·.from_)) T (l.map (·.named)) any i q = if badEnts a (l.drop i) = true then (cX W .u .ref qFail.n [.rdr 0, .int 201] q fun _ (p : QS) => some (.undef, p)) else tailP m (l.map (·.from_)) T (l.map (·.named)) any q
 | _, i, 0, h1, h2 => by omega
 | 0, i, n2 + 1, h1, h2 => by
  rw [qParams.l2_succ, if_neg (by simp; omega), List.drop_of_length_le (by omega)]; rfl
 | d + 1, i, n2 + 1, h1, h2 => by
  have hx := ent_getD (l := l) (i := i) (by omega)
  have he := hp _ (ent_mem (l := l) (i := i) (by omega))
  have ih := q_l2 hq hg hlv l hl hp lim m any T d (i + 1) n2 (by omega) (by omega)
  rw [Int.natCast_add, Int.natCast_one] at ih
  rw [qParams.l2_succ, if_pos (by simp; omega), if_pos (by omega), if_pos (by simp; omega), Int.toNat_natCast, getD_from, getD_named, hx, badEnts_cons]
  generalize hee : l.getD i (El.dflt .ent) = e at he ⊢
  have hlast : decide ((i : Int) = IntKind.i64.wrap (((l.map (·.named)).length : Int) - 1)) = (l.drop (i + 1)).isEmpty := by
   rw [List.length_map, wi _ (by omega) (by omega)]
   by_cases hz : d = 0
   ·rw [List.drop_of_length_le (by omega), decide_eq_true (by omega)]; rfl
   ·rw [decide_eq_false (by omega), ent_getD (by omega)]; rfl
  have hW := W_qlast hq hg.took hlv e.from_ he
  have fin : ∀ (k : Int), (decide (k = 201)) = (match a.first e.from_ with | some x => decide (Node.k x.n = 201) | none => false) →
    (if 0 ≤ (i : Int) then
     if (i : Int) < (((l.map (·.named))).length : Int) then
     if (!e.named) then
     if (decide ((i : Int) = (IntKind.i64.wrap (((l.map (·.named)).length : Int) - 1)))) then
     cX W .u .ref qFail.n [.rdr 0, .int 201] q fun _ (p29 : QS) =>
     some (AV.undef, p29)
     else
     if (decide (k ≠ 201)) then
     cX W .u .ref qFail.n [.rdr 0, .int 201] q fun _ (p31 : QS) =>
     some (.undef, p31)
     else
     qParams.l2 W lim n2 m (l.map (·.from_)) T (l.map (·.named)) any (IntKind.i64.wrap ((i : Int) + 1)) q
     else
     qParams.l2 W lim n2 m (l.map (·.from_)) T (l.map (·.named)) any (IntKind.i64.wrap ((i : Int) + 1)) q
     else none
     else none) = if ((!e.named && ((l.drop (i + 1)).isEmpty || !(match a.first e.from_ with | some x => decide (Node.k x.n = 201) | none => false))) || badEnts a (l.drop (i + 1))) = true then (cX W .u .ref qFail.n [.rdr 0, .int 201] q fun _ (p : QS) => some (.undef, p)) else tailP m (l.map (·.from_)) T (l.map (·.named)) any q := by
   intro k hk
   rw [if_pos (by omega), if_pos (by simp; omega), hlast, wi _ (by omega) (by omega), ← hk, ih]
   cases e.named with
   | true => simp
   | false =>
    cases (l.drop (i + 1)).isEmpty with
    | true => simp
    | false =>
     by_cases h201 : k = 201
     ·simp [h201]
     ·simp [h201]
  cases hf : a.first e.from_ with
  | some x =>
   rw [hf] at hW
   rw [cX_node hW]
   have := fin (Node.k x.n) (by rw [hf])
   rw [hf] at this
   exact this
  | none =>
   rw [hf] at hW
   rw [cX_node0 hW]
   have := fin 0 (by rw [hf]; rfl)
   rw [hf] at this
   exact this
theorem q_tailP (n N : Nat) (ns : List Bool) (any : Bool) (ms ms0 : List Int) (m : Int) (hq : RelQ q a) (hg : a.good) (hlv : a.dead = false) (hm : a.dead = false → m = ms0.getD 0 0) (hl : ms.length = 2 * ns.length) (hlast : entsOf ms ns ≠ [] → any = true → ((entsOf ms ns).getD ((entsOf ms ns).length - 1) (El.dflt .ent)).named = true) :
  Rq ((runM (callN n) (.group ns any (expect 62 done)) a ms).bind (Fc N 232 ms0)) (tailP m ((entsOf ms ns).map (·.from_)) ((entsOf ms ns).map (·.to_)) ns any q) P0 := by
 intro r b hx
 simp only [runM] at hx
 split at hx
 rotate_left
 ·cases hx
 rename_i hc
 simp only [Bool.and_eq_true, Bool.or_eq_true, decide_eq_true_eq] at hc
 obtain ⟨hc1, hr, hok⟩ := hc.resolve_left (by rw [hlv]; decide)
 have hll := entsOf_length ms ns
 have hr' := hr
 rw [room_iff] at hr'
 have hlast' : any = true → ((entsOf ms ns).getD ((entsOf ms ns).length - 1) (El.dflt .ent)).named = true ∨ entsOf ms ns = [] := by
  intro ha
  by_cases hz : entsOf ms ns = []
  ·exact .inr hz
  ·exact .inl (hlast hz ha)
 have hW : ∃ q', W .ref qgroup.n [.rdr 0, .sl .int ((entsOf ms ns).map (·.from_)), .sl .int ((entsOf ms ns).map (·.to_)), .sl .bool ((entsOf ms ns).map (·.named)), .bool any] q = some (.undef, q') ∧ RelQ q' (a.group any (entsOf ms ns)) := by
  by_cases hz : entsOf ms ns = []
  ·rw [hz]
   refine ⟨q, ?_, ?_⟩
   ·refine fx qgroup.fd 0 ?_
    rw [qgroup_eq, if_pos (by simp)]
   ·have : a.group any [] = a := by unfold A.group; rw [dg_live hlv]; rfl
    rw [this]; exact hq
  ·exact W_qgroup a q hq hg hlv hr (by omega) hok (by omega) (hlast hz)
 rw [entsOf_named ms ns hl] at hW
 obtain ⟨q', g1, g2⟩ := hW
 unfold tailP
 rw [cX_u g1]
 have hgd := (group_good hg any (entsOf ms ns) (by omega) (.inr ⟨hr, hok⟩)).1
 have hm2 : (a.group any (entsOf ms ns)).dead = false → m = ms0.getD 0 0 := fun _ => hm hlv
 clear hm
 have : Rq ((runM (callN n) (expect 62 done) (a.group any (entsOf ms ns)) ms).bind (Fc N 232 ms0)) (cX W .b .ref qExpect.n [.rdr 0, .int 62] q' fun (x34 : Bool) (p35 : QS) =>
   cX W .u .ref qClose.n [.rdr 0, .int m, .int 232] p35 fun _ (p37 : QS) =>
   some (.undef, p37)) P0 := by
  (try simp only [go, taken, done, List.map_nil, qn, reduceIte, Int.reduceEq, if_true, if_false, ne_eq, qm])
  repeat' ((try simp only [go, taken, done, List.map_nil, qn, reduceIte, Int.reduceEq, if_true, if_false, ne_eq, qm]); first | ((with_reducible refine Rq.fin ‹_› ?_); first | trivial | rfl) | with_reducible (first | refine Rq.ret ?_ | refine Rq.fk ?_ | refine Rq.fc ?_ | refine Rq.comes (by decide) ‹_› ‹_› (fun hc => ?_) fun hc => ?_ | refine Rq.take ‹_› ‹_› fun b q' hbt hb hq' hl => ?_ | refine Rq.expect (by decide) ‹_› ‹_› (fun b q' hb hq' hl => ?_) fun b q' hb hq' hl => ?_ | refine Rq.fail ‹_› ‹_› fun b q' hb hq' hd => ?_ | refine Rq.none_ ‹_› ‹_› fun b q' hb hq' hl => ?_ | refine Rq.up ‹_› ‹_› fun b q' hb hq' hl => ?_ | refine Rq.dead ‹_› (fun hd => ?_) fun hd => ?_) | ((with_reducible refine Rq.close ?_ ‹_› ‹_› fun b q' hb hq' hl => ?_); (focus ((intro hal; first | (refine (hm ?_).trans rfl; solve_by_elim (maxDepth := 20)) | (refine (hm2 ?_).trans rfl; solve_by_elim (maxDepth := 20))); done))) | ((with_reducible refine Rq.callU0 ‹_› (ih _ _ _ ?_ _ _ ‹_› ‹_›) fun r b q' hb hq' hl => ?_); (focus (rfl; done))) | exact Rq.stop ‹_› (by repeat (first | exact SF.some | exact SF.Fc | exact SF.Fk | refine SF.bind ?_)) ‹_› fun _ => by first | trivial | rfl)
 exact this r b hx
theorem q_groupM (n N lim : Nat) (ns : List Bool) (any : Bool) (ha : any = ns.any id) (ms ms0 : List Int) (m : Int) (hq : RelQ q a) (hg : a.good) (hlv : a.dead = false) (hm : a.dead = false → m = ms0.getD 0 0) (hl : ms.length = 2 * ns.length) (hns : ns.length < 4294967200) (hms : msok' ms) (hlim : ns.length < lim) :
  Rq ((runM (callN n) (groupM ns) a ms).bind (Fc N 232 ms0)) (if any then qParams.l2 W lim lim m ((entsOf ms ns).map (·.from_)) ((entsOf ms ns).map (·.to_)) ns any 0 q else tailP m ((entsOf ms ns).map (·.from_)) ((entsOf ms ns).map (·.to_)) ns any q) P0 := by
 unfold groupM
 rw [← ha]
 cases any with
 | false =>
  rw [if_neg (by decide), if_neg (by decide)]
  exact q_tailP n N ns false ms ms0 m hq hg hlv hm hl (fun _ h => by cases h)
 | true =>
  rw [if_pos rfl, if_pos rfl]
  have hll := entsOf_length ms ns
  have hl2 := q_l2 hq hg hlv (entsOf ms ns) (by omega) (entsOf_from ms ns hms) lim m true ((entsOf ms ns).map (·.to_)) (entsOf ms ns).length 0 lim (by omega) (by omega)
  rw [entsOf_named ms ns hl, List.drop_zero] at hl2
  rw [Int.natCast_zero] at hl2
  rw [hl2]
  intro r b hx
  simp only [runM] at hx
  split at hx
  rotate_left
  ·cases hx
  cases hbad : badEnts a (entsOf ms ns) with
  | true =>
   rw [if_pos rfl]
   have hnm : a.names (entsOf ms ns) = a.fail 201 := by unfold A.names; rw [hbad]; rfl
   rw [hnm] at hx
   obtain ⟨q', g1, g2⟩ := W_qFail hq hg.took 201
   rw [cX_u g1]
   have hdd := fail_dead' (a := a) 201
   have : Rq ((runM (callN n) (.group ns true (expect 62 done)) (a.fail 201) ms).bind (Fc N 232 ms0)) (some (.undef, q')) P0 :=
    Rq.stop hdd SF.Fc g2 (fun _ => trivial)
   exact this r b hx
  | false =>
   rw [if_neg (by decide)]
   have hnm : a.names (entsOf ms ns) = a := by unfold A.names; rw [hbad]; rfl
   rw [hnm] at hx
   exact q_tailP n N ns true ms ms0 m hq hg hlv hm hl (fun hz _ => bad_last _ hbad hz) r b hx
end
theorem q_ParamsL : ∀ (n : Nat), IHQ n → ∀ (a : A) (q : QS) (ns : List Bool) (ms ms0 : List Int) (m : Int) (l6 l7 : List Int) (N lim n0 : Nat), a.good → RelQ q a → (a.dead = false → m = ms0.getD 0 0) →
  (a.dead = false → l6 = (entsOf ms ns).map (·.from_) ∧ l7 = (entsOf ms ns).map (·.to_)) → l6.length = ns.length → l7.length = ns.length → ms.length = 2 * ns.length → ns.length < 4294967200 → msok' ms → n < n0 → 4294967200 < lim →
  Rq ((callN n (.ParamsL ns) a ms).bind (Fc N 232 ms0)) (qParams.l0 W lim n0 m l6 l7 ns (ns.any id) q) P0
 | 0, ih, a, q, ns, ms, ms0, m, l6, l7, N, lim, n0, hg, hq, hm, hll, h6, h7, hl, hns, hms, hn, hlim => Rq.zero
 | n + 1, ih, a, q, ns, ms, ms0, m, l6, l7, N, lim, 0, hg, hq, hm, hll, h6, h7, hl, hns, hms, hn, hlim => by omega
 | n + 1, ih0, a, q, ns, ms, ms0, m, l6, l7, N, lim, n0 + 1, hg, hq, hm, hll, h6, h7, hl, hns, hms, hn, hlim => by
  have ih := ih0.le (Nat.le_succ n)
  show Rq ((runM (callN n) (body (.ParamsL ns)) a ms).bind (Fc N 232 ms0)) _ _
  rw [qParams.l0_succ]; simp only [body]
  refine Rq.dead hq (fun hd => ?_) (fun hd => ?_)
  rotate_left
  ·rw [if_pos rfl, if_pos (by rw [hq.f]; exact hd)]
   exact Rq.stop hd SF.Fc hq (fun _ => trivial)
  rw [if_neg (by decide)]
  have hll' := hll hd
  refine Rq.comes (by decide) hq hg (fun hc => ?_) (fun hc => ?_)
  ·rw [if_pos rfl, if_neg (by decide), if_neg (by rw [hq.f, hd]; decide), hll'.1, hll'.2]
   exact q_groupM n N lim ns _ rfl ms ms0 m hq hg hd hm hl hns hms (by omega)
  rw [if_neg (by decide), if_pos (by decide)]
  refine Rq.mark hq fun x12 hx12 hx12' hml0 => ?_
  have hml := hml0 hd
  rw [if_pos (by simp only [List.length_singleton]; unfold maxRow; omega)]
  intro r b hx
  simp only [runM] at hx
  cases hcall : callN n .entry a (List.map (fun h => (ms ++ [(a.row.length : Int)]).getD h 0) []) with
  | none => rw [hcall] at hx; cases hx
  | some vc =>
   obtain ⟨v, c⟩ := vc
   rw [hcall] at hx
   simp only at hx
   obtain ⟨w, q2, g1, g3, g2⟩ := ih _ _ _ (by rfl : rf .entry = _) _ _ hg hq v c hcall
   have g3' : w = .bool (decide (v ≠ 0)) := g3
   rw [g3'] at g1
   rw [cX_b g1, cX_i (W_qMark q2)]
   have hk := callN_good n .entry a _ _ _ hg hcall
   have hlc := live_of_call hcall
   have hml2 := len_of g2
   split at hx
   rotate_left
   ·cases hx
   rw [if_pos (by simp only [List.length_singleton]; unfold maxRow; omega), if_pos (by simp only [List.length_singleton]; unfold maxRow; omega)]
   have hms' : ms ++ [(a.row.length : Int)] ++ [(c.row.length : Int)] = ms ++ [(a.row.length : Int), (c.row.length : Int)] := by simp
   rw [hms'] at hx
   have hents := entsOf_snoc' ms ns a.row.length c.row.length (decide (v ≠ 0)) hl
   have hmsok : msok' (ms ++ [(a.row.length : Int), (c.row.length : Int)]) := by
    intro y hy
    simp only [List.mem_append, List.mem_cons, List.not_mem_nil, or_false] at hy
    rcases hy with hy | rfl | rfl
    ·exact hms y hy
    ·omega
    ·omega
   have hmlen2 : (ms ++ [(a.row.length : Int), (c.row.length : Int)]).length = 2 * (ns ++ [decide (v ≠ 0)]).length := by simp; omega
   have hmlen3 : (ms ++ [(a.row.length : Int), (c.row.length : Int)]).length = 2 * ns.length + 2 := by simp; omega
   have hany : (ns ++ [decide (v ≠ 0)]).any id = (ns.any id || decide (v ≠ 0)) := by simp
   have hlists : c.dead = false → l6 ++ [x12] = (entsOf (ms ++ [(a.row.length : Int), (c.row.length : Int)]) (ns ++ [decide (v ≠ 0)])).map (·.from_) ∧ l7 ++ [(q2.row.length : Int)] = (entsOf (ms ++ [(a.row.length : Int), (c.row.length : Int)]) (ns ++ [decide (v ≠ 0)])).map (·.to_) := by
    intro hcd
    rw [hents, hll'.1, hll'.2, hx12 hd, hml2 hcd]
    simp
   have hbeh : ∀ any : Bool, any = (ns ++ [decide (v ≠ 0)]).any id → Rq ((runM (callN n) (taken [60] fun t => if t then .call (.ParamsL (ns ++ [decide (v ≠ 0)])) (List.range (2 * ns.length + 2)) .ret else groupM (ns ++ [decide (v ≠ 0)])) c (ms ++ [(a.row.length : Int), (c.row.length : Int)])).bind (Fc N 232 ms0))
     (cX W .b .ref qcomes.n [.rdr 0, .sl .int [60]] q2 fun (x40 : Bool) (p41 : QS) =>
      if (!x40) then
      if p41.failed then
      some (.undef, p41)
      else
      if any then
      qParams.l2 W lim lim m (l6 ++ [x12]) (l7 ++ [(q2.row.length : Int)]) (ns ++ [decide (v ≠ 0)]) any 0 p41
      else
      tailP m (l6 ++ [x12]) (l7 ++ [(q2.row.length : Int)]) (ns ++ [decide (v ≠ 0)]) any p41
      else
      cX W .u .ref qTake.n [.rdr 0] p41 fun _ (p49 : QS) =>
      qParams.l0 W lim n0 m (l6 ++ [x12]) (l7 ++ [(q2.row.length : Int)]) (ns ++ [decide (v ≠ 0)]) any p49) P0 := by
    intro any hae
    unfold taken
    refine Rq.comes (by decide) g2 hk.1 (fun hc => ?_) (fun hc => ?_)
    ·simp only [reduceIte, Bool.not_true, Bool.not_false, Bool.false_eq_true]
     refine Rq.take g2 hk.1 fun d q3 hdt hd3 hq3 hl3 => ?_
     refine Rq.tailF ?_
     rw [range_getD' _ _ hmlen3, hae]
     exact q_ParamsL n ih d q3 (ns ++ [decide (v ≠ 0)]) _ ms0 m _ _ N lim n0 hd3 hq3 (fun hal => hm (hlc (hl3 hal))) (fun hal => hlists (hl3 hal)) (by simp; omega) (by simp; omega) hmlen2 (by simp; omega) hmsok (by omega) hlim
    ·simp only [reduceIte, Bool.not_true, Bool.not_false, Bool.false_eq_true]
     refine Rq.tdead' g2 (fun hdd => ?_) (fun hdd => ?_)
     ·exact Rq.stop hdd SF.Fc g2 (fun _ => trivial)
     ·obtain ⟨e1, e2⟩ := hlists hdd
      rw [e1, e2]
      exact q_groupM n N lim _ any hae _ ms0 m g2 hk.1 hdd (fun hal => hm (hlc hal)) hmlen2 (by simp; omega) hmsok (by simp; omega)
   cases hna : ns.any id with
   | true =>
    rw [if_pos rfl]
    have := hbeh true (by rw [hany, hna]; rfl) r b hx
    exact this
   | false =>
    rw [if_neg (by decide)]
    exact hbeh (decide (v ≠ 0)) (by rw [hany, hna]; rfl) r b hx
section
variable {n : Nat} {a : A} {q : QS}
theorem Fc_done (N : Nat) (kd : Int) (ms : List Int) : (fun rb : Int × A => (runM (callN N) (.close 0 kd done) rb.2 ms).bind fun rb => (runM (callN N) done rb.2 []).bind some) = Fc N kd ms := by
 funext rb
 simp only [Fc, done, runM]
 split <;> rfl
theorem q_Params (ih : IHQ n) (hg : a.good) (hq : RelQ q a) : Rq (runM (callN n) (body .Params) a []) (W .ref qParams.n [.rdr 0] q) P0 := by
 refine Rq.fix qParams.fd (n + 4294967300) (Rq.start ?_)
 rw [qParams_eq]; simp only [body, go]
 refine Rq.inl ?_; simp only [body, go]
 refine Rq.mark hq fun m hm _ _ => ?_
 refine Rq.inl ?_; simp only [body]
 have nil' : ∀ b : A, b.dead = false → ([] : List Int) = (entsOf [] []).map (·.from_) ∧ ([] : List Int) = (entsOf [] []).map (·.to_) := fun _ _ => ⟨rfl, rfl⟩
 refine Rq.expect (by decide) hq hg (fun b q' hb hq' hl => ?_) (fun b q' hb hq' hl => ?_)
 ·have := q_ParamsL n ih b q' [] [] ([] ++ [(a.row.length : Int)]) m [] [] n (n + 4294967300) (n + 4294967300) hb hq' (fun hal => (hm (hl hal)).trans rfl) (nil' b) rfl rfl rfl (by decide) (fun y hy => by cases hy) (by omega) (by omega)
  rw [← Fc_done] at this
  exact Rq.tailF this
 ·have := q_ParamsL n ih b q' [] [] ([] ++ [(a.row.length : Int)]) m [] [] n (n + 4294967300) (n + 4294967300) hb hq' (fun hal => (hm (hl hal)).trans rfl) (nil' b) rfl rfl rfl (by decide) (fun y hy => by cases hy) (by omega) (by omega)
  rw [← Fc_done] at this
  exact Rq.tailF this
end
theorem refsQ : ∀ n, IHQ n
 | 0 => fun pr f args hr a q hg hq r b h => by simp [callN] at h
 | n + 1 => by
  have ih := refsQ n
  intro pr f args hr a q hg hq
  show Rq (runM (callN n) (body pr) a []) _ _
  cases pr with
  | X h => cases hr; exact q_X ih h hg hq
  | binary p h => cases hr; exact q_binary ih p h hg hq
  | unary h => cases hr; exact q_unary ih h hg hq
  | primary h => cases hr; exact q_primary ih h hg hq
  | value => cases hr; exact q_value ih hg hq
  | values => cases hr; exact q_values ih hg hq
  | operand => cases hr; exact q_operand ih hg hq
  | Name => cases hr; exact q_Name ih hg hq
  | «Type» => cases hr; exact q_Type ih hg hq
  | qualified => cases hr; exact q_qualified ih hg hq
  | field => cases hr; exact q_field ih hg hq
  | element => cases hr; exact q_element ih hg hq
  | union => cases hr; exact q_union ih hg hq
  | Sig => cases hr; exact q_Sig ih hg hq
  | Params => cases hr; exact q_Params ih hg hq
  | entry => cases hr; exact q_entry ih hg hq
  | items pr =>
   cases pr with
   | field => cases hr; exact q_items ih .field true _ rfl (.inl ⟨rfl, rfl, rfl⟩) hg hq
   | element => cases hr; exact q_items ih .element false _ rfl (.inr ⟨rfl, rfl, rfl⟩) hg hq
   | _ => cases hr
  | _ => cases hr
end Go.AI.Rd
namespace Go.AI.Rd
def finA (a : A) : A := if a.kinds.getD 0 0 ≠ 0 then a.fail 201 else a
structure Out where
 row : List Node
 d : Diag
 ok : Bool
def outA (a : A) : Out := match (finA a).dg with | some d => ⟨[], d, false⟩ | none => ⟨(finA a).row.map (·.n) ++ a.rest.map (fun t => (leaf t).n), ⟨0, 0, 0⟩, true⟩
def rowAV (o : Out) : AV := if o.ok then .sl .node o.row else .nil
def outAV (o : Out) : AV := .tup [rowAV o, .agg [.int o.d.c, .int o.d.f, .int o.d.t], .bool o.ok]
theorem finA_rest (a : A) : (finA a).rest = a.rest := by unfold finA; split; exact fail_rest _; rfl
theorem finA_pre (a : A) : (finA a).pre = a.pre := by unfold finA; split; exact (fail_dg 201).1; rfl
theorem finA_row (a : A) : (finA a).row = a.row := by unfold finA; split; exact (fail_dg 201).2.2.1; rfl
theorem finA_good {a : A} (h : a.good) : (finA a).good := by unfold finA; split; exact good_fail h _; exact h
theorem W_leavesAll {a : A} (hd : a.dg = none) (hl : a.pre.length + a.rest.length < 1099511627776) (hr : a.row.length + a.rest.length + 8 < 4294967264) :
  W .prog leaves.n [.rdr 0, .int ((toP a).l.length : Int)] (toP a) = some (.undef, { toP a with row := a.row ++ a.rest.map leaf, read := ((toP a).l.length : Int) }) := by
 refine fx leaves.fd (a.rest.length + 1) ?_
 have e0 : (toP a).l = a.pre ++ a.rest := rfl
 have e1 : (toP a).read = a.pre.length := rfl
 have e2 : ((toP a).l.length : Int) = a.pre.length + a.rest.length := by rw [e0]; simp
 rw [leaves_eq, if_pos (by omega), if_pos (by omega), if_pos (by rw [e1]; omega), if_pos (by rw [e1]; omega)]
 have e3 : List.drop (Int.toNat (toP a).read) (List.take (Int.toNat ((toP a).l.length : Int)) (toP a).l) = a.rest := by
  rw [Int.toNat_natCast, List.take_length, e0, e1, Int.toNat_natCast, List.drop_left']; rfl
 rw [e3]
 have := leaves_l0 (a.rest.length + 1) ((toP a).l.length : Int) a.rest (toP a) a.rest.length 0 (a.rest.length + 1) a.row (by omega) (by omega) (by omega) (by omega)
 exact this
theorem Done_l0 (lim : Nat) (l8 : List Made) (x y z : Int) (p : PS) (hl : l8.length < 4294967290) : ∀ (d i n0 : Nat) (l7 : List Node), i + d = l8.length → d < n0 → l7.length + d < 4294967290 →
  Done.l0 W lim n0 l7 l8 l8.length i x y z p = some (.tup [.sl .node (l7 ++ (l8.drop i).map (·.n)), .agg [.int 0, .int 0, .int 0], .bool true], p)
 | _, i, 0, l7, hi, hn, h7 => by omega
 | 0, i, n0 + 1, l7, hi, hn, h7 => by
  rw [Done.l0_succ, if_neg (by simp; omega), List.drop_of_length_le (by omega)]; simp
 | d + 1, i, n0 + 1, l7, hi, hn, h7 => by
  rw [Done.l0_succ, if_pos (by simp; omega), if_pos (by omega), if_pos (by omega), if_pos (by simp only [List.length_singleton]; unfold maxRow; omega), wi _ (by omega) (by omega), Node.eta]
  have := Done_l0 lim l8 x y z p hl d (i + 1) n0 (l7 ++ [(List.getD l8 i (El.dflt .made)).n]) (by omega) (by omega) (by simp; omega)
  rw [Int.natCast_add, Int.natCast_one] at this
  rw [Int.toNat_natCast]
  refine Eq.trans this ?_
  have hx : l8.drop i = l8.getD i (El.dflt .made) :: l8.drop (i + 1) := by
   rw [List.drop_eq_getElem_cons (by omega), List.getD_eq_getElem?_getD, List.getElem?_eq_getElem (by omega)]; rfl
  rw [hx]
  simp
theorem W_Done {a : A} (h : a.good) (hr : a.row.length + a.rest.length + 8 < 4294967264) : ∃ p, W .prog Done.n [.rdr 0] (toP a) = some (outAV (outA a), p) := by
 have key : ∀ (b : A), b.good → b.rest = a.rest → b.row = a.row → outA a = (match b.dg with | some d => ⟨[], d, false⟩ | none => ⟨b.row.map (·.n) ++ b.rest.map (fun t => (leaf t).n), ⟨0, 0, 0⟩, true⟩) → ∀ lim, a.row.length + a.rest.length < lim →
   ∃ p, (if (toP b).failed then some (AV.tup [.nil, .agg [.int (toP b).dc, .int (toP b).df, .int (toP b).dt], .bool false], toP b)
    else cX W .u .prog leaves.n [.rdr 0, .int ((toP b).l.length : Int)] (toP b) fun _ (p6 : PS) => Done.l0 W lim lim [] p6.row ((p6.row).length : Int) 0 0 0 0 p6) = some (outAV (outA a), p) := by
  intro b hb h1 h2 h3 lim hlim
  rw [h3]
  cases hd : b.dg with
  | some d =>
   rw [if_pos (toP_dead d hd)]
   refine ⟨toP b, ?_⟩
   simp [outAV, rowAV, toP, hd]
  | none =>
   have hf : (toP b).failed = false := live_of hd
   rw [if_neg (by rw [hf]; decide), cX_u (W_leavesAll hd hb.len (by rw [h1, h2]; omega))]
   refine ⟨{ toP b with row := b.row ++ b.rest.map leaf, read := ((toP b).l.length : Int) }, ?_⟩
   have := Done_l0 lim (b.row ++ b.rest.map leaf) 0 0 0 { toP b with row := b.row ++ b.rest.map leaf, read := ((toP b).l.length : Int) } (by simp [h1, h2]; omega) (b.row ++ b.rest.map leaf).length 0 lim [] (by omega) (by simp [h1, h2]; omega) (by simp [h1, h2]; omega)
   refine Eq.trans this ?_
   simp [outAV, rowAV]
 have hrun : ∀ lim, a.row.length + a.rest.length < lim → ∃ p, evalBody T0 W .prog lim Done.I [.rdr 0] (toP a) = some (outAV (outA a), p) := by
  intro lim hlim
  rw [Done_eq, cX_i (W_Kind h.took)]
  by_cases hk : a.kinds.getD 0 0 ≠ 0
  ·rw [if_pos (by simpa using hk), cX_u (W_Fail h.took 201)]
   have e : finA a = a.fail 201 := if_pos hk
   exact key (a.fail 201) (good_fail h _) (fail_rest _) (fail_dg 201).2.2.1 (by unfold outA; rw [e, fail_rest]) lim hlim
  ·rw [if_neg (by simpa using hk)]
   have e : finA a = a := if_neg hk
   exact key a h rfl rfl (by unfold outA; rw [e]) lim hlim
 obtain ⟨p, hp⟩ := hrun (a.row.length + a.rest.length + 1) (by omega)
 exact ⟨p, fx Done.fd _ hp⟩
theorem qDone_l0 (lim : Nat) (x y z : Int) : ∀ (d n0 : Nat) (i : Nat) (q : QS), q.at_ = i → i + d = q.l.length → d < n0 → q.l.length < 1099511627776 → q.row.length + d < 4294967290 → q.high.length + d < 4294967290 →
  ∃ q', qDone.l0 W lim n0 x y z q = some (.tup [.sl .node (q.row ++ (q.l.drop i).map (fun t => (leaf t).n)), .agg [.int 0, .int 0, .int 0], .bool true], q')
 | _, 0, i, q, h0, hi, hn, hl, h1, h2 => by omega
 | 0, n0 + 1, i, q, h0, hi, hn, hl, h1, h2 => by
  rw [qDone.l0_succ, if_neg (by simp [h0]; omega), if_pos (by unfold maxRow; omega), List.drop_of_length_le (by omega)]
  exact ⟨q, by simp⟩
 | d + 1, n0 + 1, i, q, h0, hi, hn, hl, h1, h2 => by
  rw [qDone.l0_succ, if_pos (by simp [h0]; omega), if_pos (by omega), if_pos (by omega), cX_u (W_qpush0 q _ _ _ 0 (by omega) (by omega))]
  have hw : IntKind.i64.wrap (q.at_ + 1) = ((i + 1 : Nat) : Int) := by rw [h0, wi _ (by omega) (by omega)]; omega
  simp only
  rw [hw]
  obtain ⟨q', hq'⟩ := qDone_l0 lim x y z d n0 (i + 1) { q with row := q.row ++ [.mk (List.getD q.l (Int.toNat q.at_) (⟨0, 0, 0⟩ : Tok)).k (List.getD q.l (Int.toNat q.at_) (⟨0, 0, 0⟩ : Tok)).f (List.getD q.l (Int.toNat q.at_) (⟨0, 0, 0⟩ : Tok)).t []], high := q.high ++ [0], at_ := ((i + 1 : Nat) : Int) } rfl (by show i + 1 + d = q.l.length; omega) (by omega) hl (by simp; omega) (by simp; omega)
  refine ⟨q', hq'.trans ?_⟩
  have hx : q.l.drop i = q.l.getD i ⟨0, 0, 0⟩ :: q.l.drop (i + 1) := by
   rw [List.drop_eq_getElem_cons (by omega), List.getD_eq_getElem?_getD, List.getElem?_eq_getElem (by omega)]; rfl
  rw [h0, Int.toNat_natCast, hx]
  simp [leaf]
theorem W_qDone {a : A} {q : QS} (hq : RelQ q a) (h : a.good) (hr : a.row.length + a.rest.length + 8 < 4294967264) : ∃ p, W .ref qDone.n [.rdr 0] q = some (outAV (outA a), p) := by
 have key : ∀ (b : A) (q : QS), b.good → RelQ q b → b.rest = a.rest → b.row = a.row → outA a = (match b.dg with | some d => ⟨[], d, false⟩ | none => ⟨b.row.map (·.n) ++ b.rest.map (fun t => (leaf t).n), ⟨0, 0, 0⟩, true⟩) → ∀ lim, a.rest.length < lim →
   ∃ p, (if q.failed then some (AV.tup [.nil, .agg [.int q.dc, .int q.df, .int q.dt], .bool false], q)
    else qDone.l0 W lim lim 0 0 0 q) = some (outAV (outA a), p) := by
  intro b q hb hq h1 h2 h3 lim hlim
  rw [h3]
  cases hd : b.dg with
  | some d =>
   obtain ⟨d1, d2, d3⟩ := hq.dd d hd
   rw [if_pos (by rw [hq.f]; exact toP_dead d hd)]
   exact ⟨q, by simp [outAV, rowAV, d1, d2, d3]⟩
  | none =>
   have hlv := live_of hd
   rw [if_neg (by rw [hq.f, hlv]; decide)]
   have e := hq.live hlv
   subst e
   have hlen := hb.len
   obtain ⟨p, hp⟩ := qDone_l0 lim 0 0 0 b.rest.length lim b.pre.length (toQ b) rfl (by show _ = (b.pre ++ b.rest).length; simp) (by rw [h1]; exact hlim) (by show (b.pre ++ b.rest).length < _; simp; omega) (by simp [toQ, h1, h2]; omega) (by simp [toQ, h1, h2]; omega)
   refine ⟨p, hp.trans ?_⟩
   simp [outAV, rowAV, toQ]
 have hrun : ∀ lim, a.rest.length < lim → ∃ p, evalBody T0 W .ref lim qDone.I [.rdr 0] q = some (outAV (outA a), p) := by
  intro lim hlim
  rw [qDone_eq, cX_i (W_qKind hq h.took)]
  by_cases hk : a.kinds.getD 0 0 ≠ 0
  ·obtain ⟨q', h1, h2⟩ := W_qFail hq h.took 201
   rw [if_pos (by simpa using hk), cX_u h1]
   have e : finA a = a.fail 201 := if_pos hk
   exact key (a.fail 201) q' (good_fail h _) h2 (fail_rest _) (fail_dg 201).2.2.1 (by unfold outA; rw [e, fail_rest]) lim hlim
  ·rw [if_neg (by simpa using hk)]
   have e : finA a = a := if_neg hk
   exact key a q h hq rfl rfl (by unfold outA; rw [e]) lim hlim
 obtain ⟨p, hp⟩ := hrun (a.rest.length + 1) (by omega)
 exact ⟨p, fx qDone.fd _ hp⟩
def a0 (l : List Tok) : A := ⟨[], l, [], 0, none⟩
theorem a0_good {l : List Tok} (hl : l.length ≤ 500000000) : (a0 l).good := by
 refine ⟨⟨fun t ht => by simp [a0] at ht, by simp [a0]; omega, by simp [a0], fun x hx => by simp [a0] at hx, by simp [a0]⟩, fun _ x hx => by simp [a0] at hx⟩
structure Res where
 n : Option Node
 d : Diag
 ok : Bool
def resOf (o : Out) : Res := ⟨if o.ok then o.row.find? (fun n => decide (10 ≤ Node.k n)) else none, o.d, o.ok⟩
def nodeAV : Option Node → AV
 | some n => .agg [.int (Node.k n), .int (Node.f n), .int (Node.t n), .sl .node (Node.kids n)]
 | none => .agg [.int 0, .int 0, .int 0, .nil]
def resAV (r : Res) : AV := .tup [nodeAV r.n, .agg [.int r.d.c, .int r.d.f, .int r.d.t], .bool r.ok]
theorem cX_done {c : Call1} {τ : STy} {f : Nat} {args : List AV} {p q : τ.T} {R : Type} {o : Out} {K : (List Node × Diag × Bool) → τ.T → Option R} (h : c τ f args p = some (outAV o, q)) (ho : o.ok = false → o.row = []) : cX c (.t3 (.s .node) (.e .diag) .b) τ f args p K = K (o.row, o.d, o.ok) q := by
 unfold cX; rw [h]
 obtain ⟨row, d, ok⟩ := o
 cases ok with
 | true => rfl
 | false => have := ho rfl; simp only at this; subst this; rfl
theorem outA_row (a : A) : (outA a).ok = false → (outA a).row = [] := by
 unfold outA; split
 ·intro _; rfl
 ·intro h; cases h
theorem Parse_l0 (c : Call1) (lim : Nat) (ok : Bool) (l : List Node) (x1 x2 x3 x4 x5 x6 dc df dt : Int) (hl : l.length < 1099511627776) : ∀ (d i n0 : Nat), i + d = l.length → d < n0 →
  Parse.l0 c lim n0 ok l l.length i x1 x2 x3 x4 x5 x6 dc df dt () = some (.tup [nodeAV ((l.drop i).find? (fun n => decide (10 ≤ Node.k n))), .agg [.int dc, .int df, .int dt], .bool ok], ())
 | _, i, 0, hi, hn => by omega
 | 0, i, n0 + 1, hi, hn => by
  rw [Parse.l0_succ, if_neg (by simp; omega), List.drop_of_length_le (by omega)]; rfl
 | d + 1, i, n0 + 1, hi, hn => by
  have hx : l.drop i = l.getD i (El.dflt .node) :: l.drop (i + 1) := by
   rw [List.drop_eq_getElem_cons (by omega), List.getD_eq_getElem?_getD, List.getElem?_eq_getElem (by omega)]; rfl
  rw [Parse.l0_succ, if_pos (by simp; omega), if_pos (by omega), if_pos (by omega), Int.toNat_natCast, hx]
  by_cases hk : 10 ≤ Node.k (l.getD i (El.dflt .node))
  ·rw [if_pos (by simpa using hk), List.find?_cons_of_pos (by simpa using hk)]; rfl
  ·rw [if_neg (by simpa using hk), List.find?_cons_of_neg (by simpa using hk), wi _ (by omega) (by omega)]
   have := Parse_l0 c lim ok l x1 x2 x3 x4 x5 x6 dc df dt hl d (i + 1) n0 (by omega) (by omega)
   rw [Int.natCast_add, Int.natCast_one] at this
   exact this
theorem qParse_l0 (c : Call1) (lim : Nat) (l : List Node) (x1 x2 x3 x4 x5 x6 dc df dt : Int) (hl : l.length < 1099511627776) : ∀ (d i n0 : Nat), i + d = l.length → d < n0 →
  qParse.l0 c lim n0 l i x1 x2 x3 x4 x5 x6 dc df dt () = some (.tup [nodeAV ((l.drop i).find? (fun n => decide (10 ≤ Node.k n))), .agg [.int dc, .int df, .int dt], .bool true], ())
 | _, i, 0, hi, hn => by omega
 | 0, i, n0 + 1, hi, hn => by
  rw [qParse.l0_succ, if_neg (by simp; omega), List.drop_of_length_le (by omega)]; rfl
 | d + 1, i, n0 + 1, hi, hn => by
  have hx : l.drop i = l.getD i (El.dflt .node) :: l.drop (i + 1) := by
   rw [List.drop_eq_getElem_cons (by omega), List.getD_eq_getElem?_getD, List.getElem?_eq_getElem (by omega)]; rfl
  rw [qParse.l0_succ, if_pos (by simp; omega), if_pos (by omega), if_pos (by omega), Int.toNat_natCast, hx]
  by_cases hk : 10 ≤ Node.k (l.getD i (El.dflt .node))
  ·rw [if_pos (by simpa using hk), if_pos (by omega), if_pos (by omega), List.find?_cons_of_pos (by simpa using hk)]; rfl
  ·rw [if_neg (by simpa using hk), List.find?_cons_of_neg (by simpa using hk), wi _ (by omega) (by omega)]
   have := qParse_l0 c lim l x1 x2 x3 x4 x5 x6 dc df dt hl d (i + 1) n0 (by omega) (by omega)
   rw [Int.natCast_add, Int.natCast_one] at this
   exact this
theorem both {l : List Tok} (hl : l.length ≤ 500000000) : ∃ b q p1 u1, b.good ∧ SM b.row ∧ b.row.length + 8 * b.rest.length ≤ 4294967000 ∧ RelQ q b ∧
  W .prog X.n [.rdr 0, .bool false] (toP (a0 l)) = some (p1, toP b) ∧ W .ref qX.n [.rdr 0, .bool false] (toQ (a0 l)) = some (u1, q) := by
 have hg := a0_good hl
 obtain ⟨n, r, b, h1, h2, _⟩ := ends (B := 4294967000) (Nat.le_refl _) (.X false) (a := a0 l) (ms := []) ⟨rfl, by simp [a0], by simp [a0], by simp only [slack, a0, List.length_nil]; omega, rfl⟩
 have hb := callN_good n _ _ _ _ _ hg h1
 have hP := (refs n).1 (.X false) (a0 l) rfl hg r b h1
 obtain ⟨u, q, h3, _, h5⟩ := refsQ n (.X false) qX.n [.rdr 0, .bool false] rfl (a0 l) (toQ (a0 l)) hg (RelQ.toQ _) r b h1
 exact ⟨b, q, _, u, hb.1, callN_small n _ _ _ _ _ (fun x hx => by cases hx) h1, h2, h5, hP, h3⟩
end Go.AI.Rd
