/- DERIVED. THE READER: a list that is cloned; readers that are made; whole readings by the program's and the reference's functions. -/
import Derived.Test.YtoppjmglhddleaaGreatKj
import Derived.Test.YtoppjmglhddleaaGreatKd
import Derived.Deep.Slices
import Derived.Deep.Strs
set_option linter.unusedVariables false
set_option linter.unusedSimpArgs false
set_option maxRecDepth 100000
namespace Go.AI.Rd
noncomputable abbrev PG : Program := Go.Proofs.Tryz.prog
theorem tabT : TabOK PG T0 := tabOK_of tys_ok eqs_ok
theorem W_ok : CallsOK T0.tid PG W := Wc_ok tabT mix_ok (fnsOK_of fns_ok)
noncomputable def Clone.I : FnI := { fn := Go.Proofs.Tryz.f19, masks := [] }
theorem Clone.ok : FnOK PG 19 Clone.I := ⟨Go.Proofs.Tryz.func19, by kernel_rfl, ⟨_, rfl⟩, by kernel_rfl⟩
noncomputable abbrev cc : Code := Func.code Clone.I.fn
/-- A list's pointer, or none. -/
theorem sl_value {w : World} {S : Nat → Nat → Prop} {g : Nat} {e : El} {l : List e.T} {v : Value} (h : FRel w S g (.sl e l) v) : ∃ a n m, v = .slice a n m ∧ (a = none → l = []) := by
  cases h with
  | sl0 e a c => exact ⟨a, 0, c, rfl, fun _ => rfl⟩
  | sl e xs b off c V hc hn _ _ => exact ⟨_, _, _, rfl, fun h => by cases h⟩
theorem clone_ok {w : World} {S : Nat → Nat → Prop} {g : Nat} {κ : Nat → Option Nat} {l : List Tok} {v : Value} (hl : l.length < maxRow) (hs : SRep T0.tid .unit w S g κ ()) (hC : CR w S g [.sl .tok l] [v]) :
    Calls PG 19 [v].toArray w (RetOK T0.tid .unit w S g κ (.sl .tok l, ())) := by
  refine calls_of_wp Clone.ok.fn (c := cc) rfl ?_
  have h0 := start_ok (τ := .unit) (n := Clone.I.fn.ntmps) (p := ()) hs hC
  generalize hN : ([v].toArray ++ Array.replicate (Clone.I.fn.ntmps - [v].toArray.size) Go.undef).size = N at h0
  have hNle : Clone.I.fn.ntmps ≤ N := by rw [← hN]; simp; omega
  have hco : ∀ co, codeOK Clone.I.fn.ntmps co = true → codeOK N co = true := fun co h => codeOK_mono hNle co h
  refine wp_seq (segm tabT W_ok mix_ok (τ := .unit) (masks := FnI.mask Clone.I) (lim := 0) (bid := 0) (hco _ (by kernel_rfl)) h0 rfl fun c1 a1 w1 h1 => ?_)
  refine wp_seq (wp_seq ?_)
  refine region_hand_at tabT W_ok (τ := .unit) 1 rfl (hco (.region 0 _ false) (by kernel_rfl)) rfl rfl h1 rfl fun c2 a2 w2 h2 => ?_
  have hv : FRel c2.w c2.S c2.g (.sl .tok l) (a2.eval (.tmp 3)) := (h2.getO (.tmp 3)).to_F T0.tid rfl
  obtain ⟨p, n, m, hp, hpn⟩ := sl_value hv
  refine eqnil_wp rfl (show PG.underlying _ = some (.slice _) from rfl) hp ?_
  have h3 := h2.put (d := some 4) (x := .bool p.isNone) (v := .bool p.isNone) (fun x hx => by cases hx; exact Nat.lt_of_lt_of_le (by decide) hNle) (AR.of_F T0.tid (.bool _))
  refine region_rest_at tabT W_ok (τ := .unit) 1 (by decide) (hco (.region 0 _ false) (by kernel_rfl)) h3 rfl fun c4 a4 w4 h4 => ?_
  cases p with
  | none =>
    have := hpn rfl
    subst this
    refine segm tabT W_ok mix_ok (τ := .unit) (masks := FnI.mask Clone.I) (lim := 0) (bid := 0) (hco _ (by kernel_rfl)) h4 rfl fun c5 a5 w5 h5 => ?_
    exact bodyPost.mono (fun e w => ret_nil .tok) (fin_ok tabT (ex := .ret) (fi := Clone.I) (r := (.nil, ())) h5 rfl)
  | some ad =>
    refine segm tabT W_ok mix_ok (τ := .unit) (masks := FnI.mask Clone.I) (lim := 0) (bid := 0) (hco _ (by kernel_rfl)) h4 rfl fun c5 a5 w5 h5 => ?_
    exact exec_ok (τ := .unit) tabT W_ok mix_ok (FnI.mask Clone.I) 0 _ 0 _ (fin T0 .unit Clone.I) _ _ _ _ (hco _ (by kernel_rfl)) h5 (if_pos hl) fun ex σ' c' a' w'' h' hk => fin_ok tabT h' hk
/-! ### Calls by hand among the others -/
def ov (c : Call1) (f0 : Nat) (g : Call1) : Call1 := fun τ f args p => if f = f0 then g τ f args p else c τ f args p
theorem ov_ok {c g : Call1} {f0 : Nat} (hc : CallsOK T0.tid PG c) (hg : ∀ τ args p r, g τ f0 args p = some r → Goes PG f0 ∧ ∀ w S gb κ vs, SRep T0.tid τ w S gb κ p → CR w S gb args vs → Calls PG f0 vs.toArray w (RetOK T0.tid τ w S gb κ r)) : CallsOK T0.tid PG (ov c f0 g) := by
  intro τ f args p r h
  unfold ov at h
  split at h
  · rename_i hf; subst hf; exact hg τ args p r h
  · exact hc τ f args p r h
theorem ov_ne {c g : Call1} {f0 f : Nat} {τ : STy} {args : List AV} {p : τ.T} (h : f ≠ f0) : ov c f0 g τ f args p = c τ f args p := if_neg h
theorem ov_eq {c g : Call1} {f0 : Nat} {τ : STy} {args : List AV} {p : τ.T} : ov c f0 g τ f0 args p = g τ f0 args p := if_pos rfl
/-- A function that is reckoned over other calls. -/
noncomputable def byBody (c : Call1) (lim : Nat) (fi : FnI) : Call1 := fun τ f args p => evalBody T0 c τ lim fi args p
theorem byBody_ok {c : Call1} (hc : CallsOK T0.tid PG c) {lim f : Nat} {fi : FnI} (hf : FnOK PG f fi) : ∀ τ args p r, byBody c lim fi τ f args p = some r → Goes PG f ∧ ∀ w S gb κ vs, SRep T0.tid τ w S gb κ p → CR w S gb args vs → Calls PG f vs.toArray w (RetOK T0.tid τ w S gb κ r) :=
  fun τ args p r h => ⟨hf.goes, fun w S gb κ vs hs hC => evalBody_ok tabT hc mix_ok hf h hs hC⟩
def clG : Call1 := fun τ _ args p =>
  match τ, args, p with
  | .unit, [.sl .tok l], _ => if l.length < maxRow then some (.sl .tok l, ()) else none
  | _, _, _ => none
def Clone.n : Nat := 19
noncomputable def W1 : Call1 := ov W Clone.n clG
theorem W1_ok : CallsOK T0.tid PG W1 := by
  refine ov_ok W_ok fun τ args p r h => ?_
  unfold clG at h
  split at h
  · rename_i l _
    split at h
    · rename_i hl
      simp only [Option.some.injEq] at h
      subst h
      refine ⟨Clone.ok.goes, fun w S gb κ vs hs hC => ?_⟩
      obtain ⟨v, rfl⟩ : ∃ v, vs = [v] := by
        match vs, hC.1 with
        | [v], _ => exact ⟨v, rfl⟩
      exact clone_ok hl hs hC
    · cases h
  · cases h
def LIM : Nat := 4294967296
noncomputable def W2 : Call1 := ov W1 NewReader.n (byBody W1 LIM NewReader.I)
theorem W2_ok : CallsOK T0.tid PG W2 := ov_ok W1_ok (byBody_ok W1_ok NewReader.ok)
noncomputable def W3 : Call1 := ov W2 Parse.n (byBody W2 LIM Parse.I)
theorem W3_ok : CallsOK T0.tid PG W3 := ov_ok W2_ok (byBody_ok W2_ok Parse.ok)
/-! ### A reader is made -/
theorem NewReader_l0 (c : Call1) (lim : Nat) (l l5 : List Tok) (x7 x8 x9 x10 x11 x12 : Int) (x13 : Bool) (hl : l.length < 4294967290) : ∀ (d i n0 : Nat) (l6 : List Int), i + d = l.length → d < n0 → l6.length ≤ i →
    NewReader.l0 c lim n0 l l.length i l5 l6 x7 x8 x9 x10 x11 x12 x13 () = some (.new [.sl .tok l5, .sl .int (l6 ++ sigIx i (l.drop i)), .int x7, .int x8, .nil, .int x9, .int x10, .int x11, .int x12, .bool x13], ())
  | _, i, 0, l6, hi, hn, h6 => by omega
  | 0, i, n0 + 1, l6, hi, hn, h6 => by
    rw [NewReader.l0_succ, if_neg (by simp; omega), List.drop_of_length_le (by omega)]; simp [sigIx]
  | d + 1, i, n0 + 1, l6, hi, hn, h6 => by
    have hx : l.drop i = l.getD i ⟨0, 0, 0⟩ :: l.drop (i + 1) := by
      rw [List.drop_eq_getElem_cons (by omega), List.getD_eq_getElem?_getD, List.getElem?_eq_getElem (by omega)]; rfl
    rw [NewReader.l0_succ, if_pos (by simp; omega), if_pos (by omega), if_pos (by omega), Int.toNat_natCast, hx]
    have hw : IntKind.i64.wrap ((i : Int) + 1) = ((i + 1 : Nat) : Int) := by rw [wi _ (by omega) (by omega)]; omega
    rw [hw]
    clear hx
    generalize l.getD i ⟨0, 0, 0⟩ = t
    by_cases hk : 10 ≤ t.k
    · have hsg : sg t = true := by unfold sg; exact decide_eq_true hk
      rw [if_pos (by simpa using hk), if_pos (by simp only [List.length_singleton]; unfold maxRow; omega), NewReader_l0 c lim l l5 x7 x8 x9 x10 x11 x12 x13 hl d (i + 1) n0 _ (by omega) (by omega) (by simp; omega)]
      simp [sigIx, hsg]
    · have hsg : sg t = false := by unfold sg; exact decide_eq_false hk
      rw [if_neg (by simpa using hk), NewReader_l0 c lim l l5 x7 x8 x9 x10 x11 x12 x13 hl d (i + 1) n0 l6 (by omega) (by omega) (by omega)]
      simp [sigIx, hsg]
theorem W2_NewReader {l : List Tok} (hl : l.length < 4294967290) : W2 .unit NewReader.n [.sl .tok l] () = some (.new [.sl .tok l, .sl .int (sigIx 0 l), .int 0, .int 0, .nil, .int 0, .int 0, .int 0, .int 0, .bool false], ()) := by
  unfold W2
  rw [ov_eq]
  show evalBody T0 W1 .unit LIM NewReader.I [.sl .tok l] () = _
  rw [NewReader_eq]
  have h1 : W1 .unit Clone.n [.sl .tok l] () = some (.sl .tok l, ()) := by
    unfold W1; rw [ov_eq]; exact if_pos (by unfold maxRow; omega)
  have h2 : cX W1 (.s .tok) .unit Clone.n [.sl .tok l] () (fun (x1 : List Tok) _ => NewReader.l0 W1 LIM LIM l ((l).length : Int) 0 x1 [] 0 0 0 0 0 0 false ()) = NewReader.l0 W1 LIM LIM l ((l).length : Int) 0 l [] 0 0 0 0 0 0 false () := by
    unfold cX; rw [h1]; rfl
  refine h2.trans ?_
  have := NewReader_l0 W1 LIM l l 0 0 0 0 0 0 false hl l.length 0 LIM [] (by omega) (by unfold LIM; omega) (by simp)
  exact this
theorem cX_c {h : Sh} {c : Call1} {τ : STy} {f : Nat} {args : List AV} {p q : τ.T} {R : Type} {a : AV} {x : h.T} {K : h.T → τ.T → Option R} (hc : c τ f args p = some (a, q)) (hd : h.dec a = some x) : cX c h τ f args p K = K x q := by
  unfold cX; rw [hc]; unfold shaped; simp [hd]
/-- WHAT THE PROGRAM READS. -/
theorem outA_small {b : A} (h : SM b.row) : ∀ n ∈ (outA b).row, Small n := by
  intro n hn
  unfold outA at hn
  split at hn
  · cases hn
  · rcases List.mem_append.1 hn with hn | hn
    · obtain ⟨x, hx, rfl⟩ := List.mem_map.1 hn
      rw [finA_row] at hx
      exact h x hx
    · obtain ⟨t, _, rfl⟩ := List.mem_map.1 hn
      exact Small.none_ _ _ _
theorem W3_Parse {l : List Tok} (hl : l.length ≤ 500000000) : ∃ r : Res, (∀ n, r.n = some n → Small n) ∧ W3 .unit Parse.n [.sl .tok l] () = some (resAV r, ()) ∧ W .unit qParse.n [.sl .tok l] () = some (resAV r, ()) := by
  obtain ⟨b, q, p1, u1, hg, hsm, hB, hq, hX, hqX⟩ := both hl
  have hr : b.row.length + b.rest.length + 8 < 4294967264 := by omega
  obtain ⟨pd, hD⟩ := W_Done hg hr
  obtain ⟨qd, hqD⟩ := W_qDone hq hg hr
  have hrow : (outA b).row.length < 1099511627776 := by
    unfold outA
    split
    · simp
    · simp only [List.length_append, List.length_map]
      rw [finA_row]; omega
  have hrow2 : (outA b).row.length < 4294967296 := by
    unfold outA
    split
    · simp
    · simp only [List.length_append, List.length_map]
      rw [finA_row]; omega
  refine ⟨resOf (outA b), fun n hn => ?_, ?_, ?_⟩
  · unfold resOf at hn
    simp only at hn
    split at hn
    · exact outA_small hsm n (List.mem_of_find?_eq_some hn)
    · cases hn
  · unfold W3
    rw [ov_eq]
    show evalBody T0 W2 .unit LIM Parse.I [.sl .tok l] () = _
    rw [Parse_eq, cX_c (h := .n .prog) (x := toP (a0 l)) (W2_NewReader (by omega)) rfl]
    have e1 : W2 .prog X.n [.rdr 0, .bool false] (toP (a0 l)) = some (p1, toP b) := by
      unfold W2 W1; rw [ov_ne (by decide), ov_ne (by decide)]; exact hX
    have e2 : W2 .prog Done.n [.rdr 0] (toP b) = some (outAV (outA b), pd) := by
      unfold W2 W1; rw [ov_ne (by decide), ov_ne (by decide)]; exact hD
    rw [cX_c (h := .u) (x := ()) e1 rfl, cX_done e2 (outA_row b)]
    have := Parse_l0 W2 LIM (outA b).ok (outA b).row 0 0 0 0 0 0 (outA b).d.c (outA b).d.f (outA b).d.t hrow (outA b).row.length 0 LIM (by omega) (by unfold LIM; omega)
    refine Eq.trans this ?_
    have hok := outA_row b
    unfold resOf resAV
    cases ho : (outA b).ok with
    | true => simp
    | false => simp [hok ho]
  · refine fx qParse.fd LIM ?_
    have e0 : W .unit qNewReader.n [.sl .tok l] () = some (.new [.sl .tok l, .int 0, .nil, .nil, .int 0, .int 0, .int 0, .int 0, .bool false], ()) := by
      refine fx qNewReader.fd 0 ?_
      rw [qNewReader_eq, if_pos (by unfold maxRow; omega)]
    rw [qParse_eq, cX_c (h := .n .ref) (x := toQ (a0 l)) e0 rfl, cX_c (h := .u) (x := ()) hqX rfl, cX_done hqD (outA_row b)]
    have hok := outA_row b
    unfold resOf resAV
    cases ho : (outA b).ok with
    | true =>
      have := qParse_l0 W LIM (outA b).row 0 0 0 0 0 0 (outA b).d.c (outA b).d.f (outA b).d.t hrow (outA b).row.length 0 LIM (by omega) (by unfold LIM; omega)
      simp only [Bool.not_true, Bool.false_eq_true, if_false, if_true]
      refine Eq.trans this ?_
      simp
    | false => simp [nodeAV]
end Go.AI.Rd
/- DERIVED. THE LAWS: a list that is lent, and whether it is still what it was. -/
set_option maxRecDepth 100000
namespace Go.AI.Rd
/-! ### Still -/
def lentL (l : List Tok) : List Tok := l ++ [(⟨(-7), 0, 0⟩ : Tok), (⟨(-8), 0, 0⟩ : Tok)]
theorem still_l2 (lim : Nat) : ∀ (d i n2 : Nat) (l6 : List Tok), i + d = l6.length → d < n2 → l6.length < 1099511627776 → still.l2 W lim n2 l6 true i () = some (.bool true, ())
  | _, i, 0, l6, hi, hn, hl => by omega
  | 0, i, n2 + 1, l6, hi, hn, hl => by rw [still.l2_succ, if_neg (by simp; omega)]
  | d + 1, i, n2 + 1, l6, hi, hn, hl => by
    have hw : IntKind.i64.wrap ((i : Int) + 1) = ((i + 1 : Nat) : Int) := by rw [wi _ (by omega) (by omega)]; omega
    rw [still.l2_succ, if_pos (by simp; omega), if_pos (by omega), if_pos (by omega), hw]
    exact still_l2 lim d (i + 1) n2 _ (by simp; omega) (by omega) (by simpa using hl)
theorem still_l0 (lim : Nat) (l : List Tok) (hl : l.length < 1073741824) (hlim : l.length + 2 < lim) : ∀ (d i n0 : Nat), i + d = l.length → d < n0 → still.l0 W lim n0 (lentL l) l l.length true i () = some (.bool true, ())
  | _, i, 0, hi, hn => by omega
  | 0, i, n0 + 1, hi, hn => by
    rw [still.l0_succ, if_neg (by simp; omega)]
    exact still_l2 lim (lentL l).length 0 lim _ (by omega) (by simp [lentL]; omega) (by simp [lentL]; omega)
  | d + 1, i, n0 + 1, hi, hn => by
    have hw : IntKind.i64.wrap ((i : Int) + 1) = ((i + 1 : Nat) : Int) := by rw [wi _ (by omega) (by omega)]; omega
    have he : List.getD (lentL l) i (⟨0, 0, 0⟩ : Tok) = List.getD l i (⟨0, 0, 0⟩ : Tok) := by
      unfold lentL; exact getD_append_left _ _ _ _ (by omega)
    rw [still.l0_succ, if_pos (by simp; omega), if_pos rfl, if_pos (by omega), if_pos (by simp [lentL]; omega), if_pos (by omega), if_pos (by omega), Int.toNat_natCast, he, hw, decide_eq_true rfl]
    exact still_l0 lim l hl hlim d (i + 1) n0 (by omega) (by omega)
theorem still_val {l : List Tok} (hl : l.length < 1073741824) : evalBody T0 W .unit LIM still.I [.own 0 0 .tok (lentL l), .sl .tok l] () = some (.bool true, ()) := by
  have hlen : (lentL l).length = l.length + 2 := by simp [lentL]
  have hw : IntKind.i64.wrap ((l.length : Int) + 1) = ((l.length + 1 : Nat) : Int) := by rw [wi _ (by omega) (by omega)]; omega
  have e1 : List.getD (lentL l) l.length (⟨0, 0, 0⟩ : Tok) = ⟨-7, 0, 0⟩ := by
    unfold lentL; rw [getD_append_right _ _ _ _ (Nat.le_refl _), Nat.sub_self]; rfl
  have e2 : List.getD (lentL l) (l.length + 1) (⟨0, 0, 0⟩ : Tok) = ⟨-8, 0, 0⟩ := by
    unfold lentL; rw [getD_append_right _ _ _ _ (by omega), show l.length + 1 - l.length = 1 by omega]; rfl
  rw [still_eq, if_pos (by omega), if_pos (by omega), Int.toNat_natCast, e1, if_pos (by decide), hw, if_pos (by omega), if_pos (by omega), Int.toNat_natCast, e2]
  exact still_l0 LIM l hl (by unfold LIM; omega) l.length 0 LIM (by omega) (by unfold LIM; omega)
theorem outs_bool {σ σ' : St} {a : AV} {x : Bool} (h : outs σ [a] = some (.bool x, σ')) : a = .bool x := by
  have key : ∀ a : AV, freeze σ a = some (.bool x, σ') → a = .bool x := by
    intro a h
    cases a with
    | agg l => simp only [freeze] at h; split at h <;> simp at h
    | own k ver e l => simp only [freeze, freeze1] at h; split at h <;> simp at h
    | bool b => simp only [freeze, freeze1] at h; cases h; rfl
    | _ => simp only [freeze, freeze1] at h; split at h <;> simp at h
  unfold outs at h
  split at h
  · simp at *
  · split at h <;> simp at h
  · rename_i b hne; simp only [List.cons.injEq, and_true] at *
    first | exact key _ h | (rename_i hb; subst hb; exact key _ h)
  · rename_i hne; split at h <;> simp at h
theorem fin_some {tab : Tab} {τ : STy} {fi : FnI} {ex : Ex} {σ : St} {r : AV × τ.T} (h : fin tab τ fi ex σ = some r) : ∃ l y σ' q, resAll tab σ fi.fn.results.toList = some l ∧ outs σ l = some (y, σ') ∧ r = (y, q) ∧ (ex = .normal ∨ ex = .ret) := by
  have split : (match resAll tab σ fi.fn.results.toList with
      | some l => match outs σ l with | some (a, σ') => (match τ.dec σ'.v σ'.fr σ'.s with | some p => some (a, p) | none => none) | none => none
      | none => none) = some r → ∃ l y σ' q, resAll tab σ fi.fn.results.toList = some l ∧ outs σ l = some (y, σ') ∧ r = (y, q) := by
    intro hq
    split at hq
    rotate_left
    · cases hq
    rename_i l h1
    split at hq
    rotate_left
    · cases hq
    rename_i y σ' h2
    split at hq
    rotate_left
    · cases hq
    simp only [Option.some.injEq] at hq
    exact ⟨l, y, σ', _, h1, h2, hq.symm⟩
  cases ex with
  | exit i => simp [fin] at h
  | normal => obtain ⟨l, y, σ', q, h1, h2, h3⟩ := split h; exact ⟨l, y, σ', q, h1, h2, h3, .inl rfl⟩
  | ret => obtain ⟨l, y, σ', q, h1, h2, h3⟩ := split h; exact ⟨l, y, σ', q, h1, h2, h3, .inr rfl⟩
theorem encTok_int {l : List Tok} {i : Nat} (hi : i < (encL .tok l).length) : ∃ n, (encL .tok l).getD i .undef = .int n := by
  have : ∀ a ∈ encL .tok l, ∃ n, a = AV.int n := by
    intro a ha
    unfold encL at ha
    obtain ⟨t, _, ht⟩ := List.mem_flatMap.1 ha
    simp only [El.enc, List.mem_cons, List.not_mem_nil, or_false] at ht
    rcases ht with rfl | rfl | rfl <;> exact ⟨_, rfl⟩
  refine this _ ?_
  rw [List.getD_eq_getElem?_getD, List.getElem?_eq_getElem hi]
  exact List.getElem_mem _
theorem CR_tok {l : List Tok} {w : World} {S : Nat → Nat → Prop} {g : Nat} {vs : List Value} (h : CR w S g (encL .tok l) vs) (w' : World) (S' : Nat → Nat → Prop) (g' : Nat) : CR w' S' g' (encL .tok l) vs := by
  refine ⟨h.1, fun i hi => ?_⟩
  have := h.2 i hi
  obtain ⟨n, hn⟩ := encTok_int hi
  rw [hn] at this ⊢
  generalize vs.getD i Go.undef = v at this ⊢
  cases this
  exact .int n
/-- A frame that was handed a list to write into. -/
theorem start_own {w : World} {S : Nat → Nat → Prop} {g b : Nat} {e : El} {xs : List e.T} {y : AV} {xv lv : Value} {vs : List Value} (n : Nat) (hlv : FRel w S g y lv) (hob : xv.ownBlock = some b) (hown : w.ownsRow 0 (T0.tid e) e.sz xv xs.length vs)
    (hC : CR w S g (encL e xs) vs) (hb : b < w.heap.size) (hbS : ∀ o, ¬ S b o) (hst : ∀ b o, S b o → b < w.heap.size) :
    Rel T0.tid ⟨w, fun x => x = b, S, g⟩ (#[xv, lv] ++ Array.replicate (n - #[xv, lv].size) Go.undef).size ⟨w, S, g, fun k => if k = 0 then some b else none, fun _ => 0⟩ (start [.own 0 0 e xs, y] [])
      { tmps := #[xv, lv] ++ Array.replicate (n - #[xv, lv].size) Go.undef, defers := [] } w := by
  have hnb : ∀ k, getB (start [.own 0 0 e xs, y] []).b k = [] := fun _ => rfl
  have hns : (start [.own 0 0 e xs, y] []).s = [] := rfl
  refine { hw := rfl, ds := ⟨rfl, rfl⟩, n := rfl, t := fun i => ?_, b := fun k hk => absurd (hnb k) hk, s := fun hne => absurd hns hne, ver := fun k => Nat.le_refl _, fz := fun k b hk => (by simp [start] at hk), own := fun k b' _ hk => ?_, inj := fun k k' b' _ _ h1 h2 => ?_, box := fun k hk => absurd (hnb k) hk, gg := fun hne => absurd hns hne, old := fun b o h => .inl h, grow := fun b o h => h, stsz := hst, keep := Keep.refl w _ }
  · match i with
    | 0 =>
      have : (#[xv, lv] ++ Array.replicate (n - #[xv, lv].size) Go.undef).getD 0 Go.undef = xv := by simp [Array.getD]
      show AR T0.tid _ _ (.own 0 0 e xs) ((#[xv, lv] ++ Array.replicate (n - #[xv, lv].size) Go.undef).getD 0 Go.undef)
      rw [this]
      refine ⟨?_, Nat.le_refl _, fun _ => .inr ⟨b, vs, rfl, hob, hown, hC⟩⟩
      cases xv <;> first | exact ⟨_, _, _, rfl⟩ | simp [Value.ownBlock] at hob
    | 1 =>
      have : (#[xv, lv] ++ Array.replicate (n - #[xv, lv].size) Go.undef).getD 1 Go.undef = lv := by simp [Array.getD]; intro h; omega
      show AR T0.tid _ _ y ((#[xv, lv] ++ Array.replicate (n - #[xv, lv].size) Go.undef).getD 1 Go.undef)
      rw [this]
      exact AR.of_F T0.tid hlv
    | n + 2 => exact FRel.undef _
  · simp only at hk
    split at hk
    · cases hk
      exact ⟨.inl rfl, hb, hbS, fun h => absurd hns h, fun j hj => absurd (hnb j) hj⟩
    · cases hk
  · simp only at h1 h2
    split at h1
    · split at h2
      · omega
      · cases h2
    · cases h1
/-- 'still' is true, and writes over what was lent alone. -/
theorem still_calls {w : World} {S : Nat → Nat → Prop} {g b : Nat} {l : List Tok} {xv lv : Value} {vs : List Value} (hl : l.length < 1073741824) (hlv : FRel w S g (.sl .tok l) lv) (hob : xv.ownBlock = some b) (hown : w.ownsRow 0 (T0.tid .tok) 3 xv (lentL l).length vs)
    (hC : CR w S g (encL .tok (lentL l)) vs) (hb : b < w.heap.size) (hbS : ∀ o, ¬ S b o) (hst : ∀ b o, S b o → b < w.heap.size) :
    Calls PG still.n #[xv, lv] w (fun e w' => match e with | .returned u => u = .bool true ∧ Keep w (fun x => x = b) w' | _ => False) := by
  refine calls_of_wp still.ok.fn (c := Func.code still.I.fn) rfl ?_
  have h0 := start_own (e := .tok) (xs := lentL l) still.I.fn.ntmps hlv hob hown hC hb hbS hst
  refine exec_ok tabT W_ok mix_ok (FnI.mask still.I) LIM _ 0 _ (fin T0 .unit still.I) _ _ w _ (codeOK_mono (N := still.I.fn.ntmps) (by simp only [Array.size_append, Array.size_replicate]; omega) _ still.ok.code) h0 (still_val hl) fun ex σ c a w' h hfin => ?_
  have main : ∀ {l' : List AV} {y : AV} {σ' : St} {q : Unit}, resAll T0 σ still.I.fn.results.toList = some l' → outs σ l' = some (y, σ') → (AV.bool true, ()) = (y, q) →
      a.defers = [] ∧ ∃ v, (results still.I.fn a.tmps).run PG w' = .ok v w' ∧ (v = .bool true ∧ Keep w (fun x => x = b) w') := by
    intro l' y σ' q h1 h2 h3
    cases h3
    obtain ⟨us, g1, g2, g3⟩ := resAll_ok tabT h h1
    have hl' : l' = [getT σ.t 4] := by
      have : resAll T0 σ still.I.fn.results.toList = some [getT σ.t 4] := rfl
      rw [this] at h1; exact (Option.some.inj h1).symm
    subst hl'
    obtain ⟨u, rfl⟩ : ∃ u, us = [u] := by
      match us, g2 with
      | [u], _ => exact ⟨u, rfl⟩
    have hu := g3 0 (by simp)
    simp only [List.getD_cons_zero] at hu
    rw [outs_bool h2] at hu
    have hu' : u = .bool true := by cases hu.to_F T0.tid rfl; rfl
    subst hu'
    refine ⟨h.ds.1, .bool true, ?_, rfl, h.keep⟩
    unfold results
    rw [Array.mapM_eq_mapM_toList]
    simp only [Sem.run_bind, Sem.run_map, Sem.run_pure]
    exact congrArg (fun q : Result (List Value) => (q.andThen fun a w' => Result.ok a.toArray w').andThen fun a w' => Result.ok (if h : a.size = 1 then a[0] else Value.tuple a) w') g1
  obtain ⟨l', y, σ', q, f1, f2, f3, f4⟩ := fin_some hfin
  rcases f4 with rfl | rfl
  · exact main f1 f2 f3
  · exact main f1 f2 f3
/-! ### Lent -/
theorem lent_exec {l : List Tok} (hl : l.length < 1073741824) : exec T0 W .unit (FnI.mask lent.I) 0 (Func.code lent.I.fn) 0 (start [.sl .tok l] []) (fun ex σ => some (ex, getT σ.t 2, getV σ.v 7, σ.fr)) = some (.ret, .own 7 2 .tok (lentL l), 2, []) := by
  have e : exec T0 W .unit (FnI.mask lent.I) 0 (Func.code lent.I.fn) 0 (start [.sl .tok l] []) (fun ex σ => some (ex, getT σ.t 2, getV σ.v 7, σ.fr)) =
      if l.length < maxRow then if l.length + ([(⟨(-7), 0, 0⟩ : Tok), (⟨(-8), 0, 0⟩ : Tok)]).length < maxRow then some (.ret, .own 7 2 .tok (l ++ [(⟨(-7), 0, 0⟩ : Tok), (⟨(-8), 0, 0⟩ : Tok)]), 2, []) else none else none := by kernel_rfl
  rw [e, if_pos (by unfold maxRow; omega), if_pos (by simp only [List.length_cons, List.length_nil]; unfold maxRow; omega)]
  rfl
/-- 'lent' hands back a list of its own. -/
theorem lent_calls {w : World} {S : Nat → Nat → Prop} {g : Nat} {l : List Tok} {lv : Value} (hl : l.length < 1073741824) (hlv : FRel w S g (.sl .tok l) lv) (hst : ∀ b o, S b o → b < w.heap.size) :
    Calls PG lent.n #[lv] w (fun e w' => match e with
      | .returned u => ∃ b vs, w.heap.size ≤ b ∧ b < w'.heap.size ∧ u.ownBlock = some b ∧ w'.ownsRow 0 (T0.tid .tok) 3 u (lentL l).length vs ∧ (∀ w S g, CR w S g (encL .tok (lentL l)) vs) ∧ Keep w (fun _ => False) w'
      | _ => False) := by
  refine calls_of_wp lent.ok.fn (c := Func.code lent.I.fn) rfl ?_
  have hs : SRep T0.tid .unit w S g (fun _ => none) () := ⟨fun h => absurd rfl h, hst, fun h => absurd rfl h, fun k b hk => (by cases hk), fun k k' b hk => (by cases hk)⟩
  have hC : CR w S g [.sl .tok l] [lv] := ⟨rfl, fun i hi => by
    match i, hi with
    | 0, _ => exact hlv⟩
  have h0 := start_ok (τ := .unit) (n := lent.I.fn.ntmps) (p := ()) hs hC
  refine exec_ok tabT W_ok mix_ok (FnI.mask lent.I) 0 _ 0 _ (fun ex σ => some (ex, getT σ.t 2, getV σ.v 7, σ.fr)) _ _ w _ (codeOK_mono (N := lent.I.fn.ntmps) (by simp only [Array.size_append, Array.size_replicate]; omega) _ lent.ok.code) h0 (lent_exec hl) fun ex σ c a w' h hk => ?_
  simp only [Option.some.injEq, Prod.mk.injEq] at hk
  obtain ⟨rfl, h2, h7, hfr⟩ := hk
  have ht := h.t 2
  rw [h2] at ht
  obtain ⟨hsl, _, hO⟩ := ht
  obtain ⟨us, g1, g2, g3⟩ := resAll_ok tabT h (xs := lent.I.fn.results.toList) (l := [getT σ.t 2]) rfl
  have hw := h.hw
  rcases hO h7.symm with ⟨h0, _⟩ | ⟨b, vs, k1, k2, k3, k4⟩
  · simp [lentL] at h0
  · have ho := h.own 7 b (by rw [hfr]; simp) k1
    refine ⟨h.ds.1, a.tmps.getD 2 Go.undef, ?_, b, vs, ?_, ho.2.1, k2, by rw [← hw]; exact k3, fun w S g => CR_tok k4 w S g, ?_⟩
    · unfold results
      rw [Array.mapM_eq_mapM_toList]
      simp only [Sem.run_bind, Sem.run_map, Sem.run_pure]
      rfl
    · rcases ho.1 with hF | hF
      · rcases hF with ⟨hF, _⟩ | ⟨k, hF⟩
        · exact absurd rfl hF
        · cases hF
      · exact hF
    · have hk := h.keep
      refine ⟨hk.os, hk.tape, hk.output, hk.size, fun b hb _ => hk.block b hb ?_⟩
      intro hF
      rcases hF with ⟨hF, _⟩ | ⟨k, hF⟩
      · exact absurd rfl hF
      · cases hF
end Go.AI.Rd
/- DERIVED. THE LAWS: steps of a law by hand: a list is lent, read, looked at again. -/
set_option maxRecDepth 100000
namespace Go.AI.Rd
/-- A tree does not lie where tokens lie. -/
theorem FRel_cut {w : World} {S : Nat → Nat → Prop} {g bx : Nat} (hint : ∀ o v, S bx o → w.cell? ⟨bx, o, none⟩ = some v → ∃ n, v = .int .i64 n) {a : AV} {v : Value} (h : FRel w S g a v) :
    (∀ kids, a = .sl .node kids → FRel w (fun b o => S b o ∧ b ≠ bx) g a v) ∧ (∀ n, a = .int n → FRel w (fun b o => S b o ∧ b ≠ bx) g a v) := by
  induction h with
  | int n => exact ⟨fun k h => (by cases h), fun _ _ => .int n⟩
  | sl0 e a c => exact ⟨fun _ _ => .sl0 e a c, fun n h => (by cases h)⟩
  | sl e xs b off c V hc hn hV hm ih =>
    refine ⟨fun kids h => ?_, fun n h => (by cases h)⟩
    have he : e = .node := by injection h
    subst he
    have hb : b ≠ bx := by
      intro hb
      subst hb
      obtain ⟨n, hn'⟩ := hint _ _ (hm 0 3 hn (by decide)).1 (hm 0 3 hn (by decide)).2
      have h3 := hV 0 3 hn (by decide)
      rw [hn'] at h3
      have h4 : FRel w S g (.sl .node (Node.kids (xs.getD 0 (El.dflt .node)))) (.int .i64 n) := h3
      generalize Node.kids (xs.getD 0 (El.dflt .node)) = K at h4
      cases h4
    refine .sl .node xs b off c V hc hn (fun i j hi hj => ?_) fun i j hi hj => ⟨⟨(hm i j hi hj).1, hb⟩, (hm i j hi hj).2⟩
    have := ih i j hi hj
    match j, hj with
    | 0, _ => exact this.2 _ rfl
    | 1, _ => exact this.2 _ rfl
    | 2, _ => exact this.2 _ rfl
    | 3, _ => exact this.1 _ rfl
  | _ => exact ⟨fun k h => (by cases h), fun n h => (by cases h)⟩
def nodeD (o : Option Node) : Node := match o with | some n => n | none => .mk 0 0 0 []
def resAV' (r : Res) : AV := .tup [ndAV (nodeD r.n), .agg [.int r.d.c, .int r.d.f, .int r.d.t], .bool r.ok]
theorem res_cut {w : World} {S : Nat → Nat → Prop} {g bx : Nat} (hint : ∀ o v, S bx o → w.cell? ⟨bx, o, none⟩ = some v → ∃ n, v = .int .i64 n) {r : Res} {v : Value} (h : FRel w S g (resAV r) v) : FRel w (fun b o => S b o ∧ b ≠ bx) g (resAV' r) v := by
  unfold resAV at h
  cases h with
  | tup l vs hl hA =>
    obtain ⟨v0, v1, v2, rfl⟩ : ∃ v0 v1 v2, vs = [v0, v1, v2] := by
      match vs, hl with
      | [v0, v1, v2], _ => exact ⟨v0, v1, v2, rfl⟩
    have h0 := hA 0 (by simp)
    have h1 := hA 1 (by simp)
    have h2 := hA 2 (by simp)
    simp only [List.getD_cons_zero, List.getD_cons_succ] at h0 h1 h2
    refine .tup _ [v0, v1, v2] rfl fun i hi => ?_
    match i, hi with
    | 0, _ =>
      show FRel w _ g (ndAV (nodeD r.n)) v0
      cases hr : r.n with
      | some n =>
        rw [hr] at h0
        unfold nodeAV at h0
        simp only at h0
        cases h0 with
        | agg _ us hl2 ho2 hB =>
          refine .agg _ us hl2 (by rfl) fun i hi => ?_
          have := FRel_cut hint (hB i hi)
          match i, hi with
          | 0, _ => exact this.2 _ rfl
          | 1, _ => exact this.2 _ rfl
          | 2, _ => exact this.2 _ rfl
          | 3, _ => exact this.1 _ rfl
      | none =>
        rw [hr] at h0
        unfold nodeAV at h0
        simp only at h0
        cases h0 with
        | agg _ us hl2 ho2 hB =>
          refine .agg _ us hl2 (by rfl) fun i hi => ?_
          have hi' := hB i hi
          match i, hi with
          | 0, _ => exact (FRel_cut hint hi').2 _ rfl
          | 1, _ => exact (FRel_cut hint hi').2 _ rfl
          | 2, _ => exact (FRel_cut hint hi').2 _ rfl
          | 3, _ =>
            have h3 : FRel w S g .nil (us.getD 3 Go.undef) := hi'
            generalize us.getD 3 Go.undef = u at h3 ⊢
            cases h3
            exact .sl0 _ _ _
    | 1, _ =>
      show FRel w _ g (.agg [.int r.d.c, .int r.d.f, .int r.d.t]) v1
      cases h1 with
      | agg _ us hl2 ho2 hB =>
        refine .agg _ us hl2 (by rfl) fun i hi => ?_
        have := FRel_cut hint (hB i hi)
        match i, hi with
        | 0, _ => exact this.2 _ rfl
        | 1, _ => exact this.2 _ rfl
        | 2, _ => exact this.2 _ rfl
    | 2, _ =>
      show FRel w _ g (.bool r.ok) v2
      cases h2
      exact .bool _
theorem frel_of_cells {w : World} {S : Nat → Nat → Prop} {g b m : Nat} {e : El} {l : List e.T} {vs : List Value} (hlen : l.length ≤ m) (hcells : CellsAt w b 0 vs) (hC : CR w S g (encL e l) vs) (hS : ∀ o, o < l.length * e.sz → S b o) : FRel w S g (.sl e l) (.slice (some ⟨b, 0, none⟩) l.length m) := by
  by_cases h0 : l = []
  · subst h0; exact .sl0 e _ _
  · have hn : 0 < l.length := List.length_pos_iff.2 h0
    have hlt : ∀ i j, i < l.length → j < e.sz → i * e.sz + j < l.length * e.sz := by
      intro i j hi hj
      have : (i + 1) * e.sz ≤ l.length * e.sz := Nat.mul_le_mul_right _ hi
      rw [Nat.add_mul, Nat.one_mul] at this
      omega
    refine .sl e l b 0 m (fun i j => vs.getD (i * e.sz + j) Go.undef) hlen hn (fun i j hi hj => ?_) fun i j hi hj => ⟨hS _ (by have := hlt i j hi hj; omega), ?_⟩
    · rw [← encL_getD e l i j hi hj]
      exact hC.2 _ (by rw [encL_length]; exact hlt i j hi hj)
    · have hl2 : i * e.sz + j < vs.length := by rw [← hC.1, encL_length]; exact hlt i j hi hj
      have := hcells (i * e.sz + j) _ (get?_of_lt Go.undef hl2)
      rw [Nat.add_assoc]
      exact this
/-! ### What a frame knows, behind a call by hand -/
section
variable {tid : El → Nat} {B : Base} {N : Nat} {c : Cx} {σ : St} {a : Act} {w w' : World}
theorem box_lt (h : Rel tid B N c σ a w) {j : Nat} (hj : getB σ.b j ≠ []) : c.β j < w.heap.size := by
  obtain ⟨vs, T, hB, _⟩ := h.b j hj
  have := hB.lt
  rw [h.hw] at this
  exact this
/-- What is not needed any more. -/
theorem Rel_drop {σ' : St} (h : Rel tid B N c σ a w) (ht : ∀ i, getT σ'.t i = getT σ.t i ∨ getT σ'.t i = .undef) (hb : ∀ k, getB σ'.b k = getB σ.b k) (hs : σ'.s = σ.s) (hv : σ'.v = σ.v) (hc : σ'.c = σ.c) (hfr : σ'.fr = σ.fr) : Rel tid B N c σ' a w := by
  have h1 := Rel.eqv (σ := σ) (σ' := { σ' with t := σ.t }) ⟨fun _ => rfl, ⟨hb, hs, hv, hc, hfr⟩⟩ h
  have st : Step c σ c σ' := ⟨rfl, fun _ _ _ _ h => h, fun _ _ h => h, by rw [hc]; exact Nat.le_refl _, fun k hk => ⟨by rw [hb]; exact hk, rfl⟩, fun k => .inl ⟨by rw [hv], rfl, fun _ _ => rfl⟩⟩
  have st1 : Step c { σ' with t := σ.t } c σ' := ⟨rfl, fun _ _ _ _ h => h, fun _ _ h => h, Nat.le_refl _, fun k hk => ⟨hk, rfl⟩, fun k => .inl ⟨rfl, rfl, fun _ _ => rfl⟩⟩
  refine { hw := h1.hw, ds := h1.ds, n := h1.n, t := fun i => ?_, b := fun k hk => (h1.b k hk).step st1 rfl, s := fun hs => (h1.s hs).step st1 rfl, ver := h1.ver, fz := h1.fz, own := h1.own, inj := h1.inj, box := h1.box, gg := h1.gg, old := h1.old, grow := h1.grow, stsz := h1.stsz, keep := h1.keep }
  rcases ht i with e | e
  · rw [e]; exact (h.t i).step st
  · rw [e]; exact FRel.undef _
theorem Rel_gotOwn (h : Rel tid B N c σ a w) (hs : σ.s = []) (hK : Keep w (fun _ => False) w') (k : Nat) {b : Nat} (hb : w.heap.size ≤ b) (hb' : b < w'.heap.size) :
    ∃ c', Rel tid B N c' (σ.fresh k) a w' ∧ c'.κ k = some b ∧ c'.S = c.S ∧ c'.g = c.g ∧ c'.w = w' := by
  have hR := (h.called (w' := w') (S' := c.S) (F := fun _ => False) (κ' := fun k' => if k' = k then some b else none) (Ks := [k]) (σ' := σ.fresh k) hK (fun _ _ h => h) (fun _ _ h => .inl h) (fun b o hS => Nat.lt_of_lt_of_le (h.stsz b o hS) hK.size)
    (fun b hF => hF.elim) (fun b o hF => hF.elim) (fun k b _ _ hF => hF.elim)
    (fun k' b' hk' => by
      split at hk'
      · cases hk'
        exact ⟨.inr hb, hb', fun o hS => by have := h.stsz _ _ hS; omega, fun hne => absurd hs hne, fun j hj => by have := box_lt h hj; omega⟩
      · cases hk')
    (fun k1 k2 b' h1 h2 => by
      split at h1
      · split at h2
        · omega
        · cases h2
      · cases h1)
    rfl (Nat.le_succ _)
    (fun k' hk' => by
      simp only [List.mem_singleton] at hk'
      subst hk'
      simp [St.fresh, getV])
    (fun k' hk' => by
      simp only [List.mem_singleton] at hk'
      simp only [St.fresh, getV]
      have : Nat.beq k k' = false := by
        cases hb : Nat.beq k k' with
        | false => rfl
        | true => exact absurd (Nat.eq_of_beq_eq_true hb).symm hk'
      rw [this])
    (fun k' => by
      simp only [St.fresh, List.mem_filter, List.mem_singleton]
      constructor
      · rintro ⟨h1, h2⟩; exact ⟨h1, fun e => by subst e; simp at h2⟩
      · rintro ⟨h1, h2⟩
        refine ⟨h1, ?_⟩
        cases hb : Nat.beq k' k with
        | false => rfl
        | true => exact absurd (Nat.eq_of_beq_eq_true hb) h2)
    (fun j hj => (h.box j hj).2.1) (fun hne => absurd hs hne) (fun j => Iff.rfl) id (fun _ => ⟨fun j _ => .inl ⟨rfl, id⟩, fun _ => .inl ⟨rfl, id⟩⟩)).1
  exact ⟨_, hR, by simp, rfl, rfl, rfl⟩
theorem Rel_gotS (h : Rel tid B N c σ a w) (hs : σ.s = []) (hK : Keep w (fun _ => False) w') {S' : Nat → Nat → Prop} (hSS : ∀ b o, c.S b o → S' b o) (hSn : ∀ b o, S' b o → c.S b o ∨ w.heap.size ≤ b) (hSz : ∀ b o, S' b o → b < w'.heap.size) :
    ∃ c', Rel tid B N c' σ a w' ∧ c'.κ = c.κ ∧ c'.S = S' ∧ c'.g = c.g ∧ c'.w = w' := by
  have hR := (h.called (w' := w') (S' := S') (F := fun _ => False) (κ' := fun _ => none) (Ks := []) (σ' := σ) hK hSS (fun b o h => (hSn b o h).imp id .inr) hSz
    (fun b hF => hF.elim) (fun b o hF => hF.elim) (fun k b _ _ hF => hF.elim) (fun k' b' hk' => by cases hk') (fun k1 k2 b' h1 h2 => by cases h1) rfl (Nat.le_refl _) (fun k hk => by simp at hk) (fun k _ => rfl) (fun k => by simp)
    (fun j hj o hS => by
      rcases hSn _ _ hS with h1 | h1
      · exact (h.box j hj).2.1 o h1
      · have := box_lt h hj; omega) (fun hne => absurd hs hne) (fun j => Iff.rfl) id (fun _ => ⟨fun j _ => .inl ⟨rfl, id⟩, fun _ => .inl ⟨rfl, id⟩⟩)).1
  exact ⟨_, hR, by funext k; simp, rfl, rfl, rfl⟩
theorem Rel_wrote (h : Rel tid B N c σ a w) (hs : σ.s = []) {k b : Nat} (hk : k ∉ σ.fr) (hκ : c.κ k = some b) (hK : Keep w (fun x => x = b) w') : ∃ c', Rel tid B N c' (σ.bump k) a w' ∧ c'.S = c.S ∧ c'.g = c.g ∧ c'.w = w' := by
  have ho := h.own k b hk hκ
  have hR := (h.called (w' := w') (S' := c.S) (F := fun x => x = b) (κ' := fun _ => none) (Ks := [k]) (σ' := σ.bump k) hK (fun _ _ h => h) (fun _ _ h => .inl h) (fun b o hS => Nat.lt_of_lt_of_le (h.stsz b o hS) hK.size)
    (fun b' hF => by subst hF; exact ho.1) (fun b' o hF => by subst hF; exact ho.2.2.1 o) (fun k' b' hk' hκ' hF => by subst hF; rw [List.mem_singleton]; exact h.inj k' k _ hk' hk hκ' hκ)
    (fun k' b' hk' => by cases hk') (fun k1 k2 b' h1 h2 => by cases h1) rfl (Nat.le_succ _)
    (fun k' hk' => by
      simp only [List.mem_singleton] at hk'
      subst hk'
      simp [St.bump, getV])
    (fun k' hk' => by
      simp only [List.mem_singleton] at hk'
      simp only [St.bump, getV]
      have : Nat.beq k k' = false := by
        cases hb : Nat.beq k k' with
        | false => rfl
        | true => exact absurd (Nat.eq_of_beq_eq_true hb).symm hk'
      rw [this])
    (fun k' => by
      simp only [St.bump, List.mem_singleton]
      exact ⟨fun h1 => ⟨h1, fun e => by subst e; exact hk h1⟩, fun h1 => h1.1⟩)
    (fun j hj => (h.box j hj).2.1) (fun hne => absurd hs hne) (fun j => Iff.rfl) id (fun _ => ⟨fun j hj => .inl ⟨rfl, fun hF => ho.2.2.2.2 j hj hF.symm⟩, fun hne => absurd hs hne⟩)).1
  exact ⟨_, hR, rfl, rfl, rfl⟩
end
theorem call_wp {P : Program} {o : Oper} {f : Nat} {args : Array Operand} {ts : Array Nat} {a : Act} {w : World} {R' : Ending → World → Prop} {next : Act → World → Prop} {Q : Exit → Act → World → Prop} (hop : o.op = .call ⟨.value (.func f), args, ts⟩) (hg : Goes P f)
    (hc : Calls P f (args.toList.map a.eval).toArray w R') (hno : ∀ e w', R' e w' → ∃ v, e = .returned v) (hn : ∀ v w', R' (.returned v) w' → next (a.put o.dst v) w') : o.wp P a w next Q := by
  obtain ⟨dst, op, type, pos, after, guard⟩ := o
  simp only at hop hn
  subst hop
  unfold Oper.wp
  have e1 : (execOp a.eval ⟨dst, .call ⟨.value (.func f), args, ts⟩, type, pos, after, guard⟩).run P w = .ok (.enter f (args.toList.map a.eval).toArray) w := by
    have e2 : args.map a.eval = (args.toList.map a.eval).toArray := by rw [← Array.toList_map, Array.toArray_toList]
    simp [execOp, resolve, Act.eval, Deferred.ofValue, invoke, run_callFunc hg, e2]
  rw [e1]
  refine hc.mono fun e w'' he => ?_
  obtain ⟨v, rfl⟩ := hno e w'' he
  exact hn v w'' he
end Go.AI.Rd
/- DERIVED. THE LAWS: 'ExprParses' is true, whatever list it is handed. -/
set_option maxRecDepth 100000
namespace Go.AI.Rd
noncomputable def LI : FnI := { fn := Go.Proofs.Tryz.f3, masks := [] }
theorem LI.ok : FnOK PG 3 LI := ⟨Go.Proofs.Tryz.func3, by kernel_rfl, ⟨_, rfl⟩, by kernel_rfl⟩
/-- A law's end: true, and the world is as it was. -/
abbrev True' (w : World) : Ending → World → Prop := fun e w' => match e with | .returned u => u = .bool true ∧ Keep w (fun _ => False) w' | _ => False
theorem true_of {w : World} {S : Nat → Nat → Prop} {e : Ending} {w' : World} (h : RetOK T0.tid .unit w S 0 (fun _ => none) (.bool true, ()) e w') : True' w e w' := by
  cases e with
  | returned u =>
    obtain ⟨S', κ', h1, h2, h3, h4, h5, h6⟩ := h
    have h6 : FRel w' S' 0 (.bool true) u := h6
    cases h6
    refine ⟨rfl, h2.os, h2.tape, h2.output, h2.size, fun b hb _ => h2.block b hb ?_⟩
    rintro (⟨hF, _⟩ | ⟨k, hF⟩)
    · exact absurd rfl hF
    · cases hF
  | _ => exact h
theorem lentL_len (l : List Tok) : (lentL l).length = l.length + 2 := by simp [lentL]
theorem W3_W {τ : STy} {f : Nat} {args : List AV} {p : τ.T} (h1 : f ≠ Parse.n) (h2 : f ≠ NewReader.n) (h3 : f ≠ Clone.n) : W3 τ f args p = W τ f args p := by
  unfold W3 W2 W1
  rw [ov_ne h1, ov_ne h2, ov_ne h3]
/-- The frame when the reference is asked. -/
def tailSt (l : List Tok) (n : Node) (d : Diag) (ok : Bool) (v : List (Nat × Nat)) (c : Nat) : St :=
  ⟨[(0, .sl .tok l), (2, .bool false), (4, .lbox 4 0), (5, .lbox 5 0), (6, .bool ok)], [(4, [.int (Node.k n), .int (Node.f n), .int (Node.t n), .sl .node (Node.kids n)]), (5, [.int d.c, .int d.f, .int d.t])], [], v, c, []⟩
theorem tail_eq (call : Call) (l : List Tok) (n : Node) (d : Diag) (ok : Bool) (v : List (Nat × Nat)) (c : Nat) : exec T0 call .unit (FnI.mask LI) 0 (Func.code LI.fn).r1.r1.r1.r1.r1 0 (tailSt l n d ok v c) (fin T0 .unit LI) =
  cX call (.t3 (.e .node) (.e .diag) .b) .unit qParse.n [.sl .tok l] () fun (x4 : Node × Diag × Bool) _ =>
  cX call .b .unit sameNode.n [.agg [.int (Node.k n), .int (Node.f n), .int (Node.t n), .sl .node (Node.kids n)], .agg [.int (Node.k x4.1), .int (Node.f x4.1), .int (Node.t x4.1), .sl .node (Node.kids x4.1)]] () fun (x5 : Bool) _ =>
  if x5 then
  if (decide ((⟨d.c, d.f, d.t⟩ : Tok) = ⟨x4.2.1.c, x4.2.1.f, x4.2.1.t⟩)) then
  some (.bool (ok == x4.2.2), ())
  else
  some (.bool false, ())
  else
  some (.bool false, ()) := by kernel_rfl
theorem dec_res (r : Res) : Sh.dec (.t3 (.e .node) (.e .diag) .b) (resAV r) = some (nodeD r.n, r.d, r.ok) := by
  obtain ⟨n, d, ok⟩ := r
  cases n with
  | none => rfl
  | some n => cases n; rfl
/-- What is left, when the reference is asked. -/
theorem parses_tail {w : World} {S : Nat → Nat → Prop} {l : List Tok} {lv : Value} {r : Res} {N : Nat} {c12 : Cx} {σ : St} {a12 : Act} {w12 : World} (hN : ([lv].toArray ++ Array.replicate (LI.fn.ntmps - [lv].toArray.size) Go.undef).size = N) (hsm : ∀ n, r.n = some n → Small n) (hQ : W .unit qParse.n [.sl .tok l] () = some (resAV r, ()))
    (h12 : Rel T0.tid ⟨w, Foot .unit 0 (fun _ => none), S, 0⟩ N c12 σ a12 w12) (d0 : getT σ.t 0 = .sl .tok l) (d2 : getT σ.t 2 = .bool false) (d4 : getT σ.t 4 = .lbox 4 0) (d5 : getT σ.t 5 = .lbox 5 0) (d6 : getT σ.t 6 = .bool r.ok)
    (hbb : σ.b = [(5, [.int r.d.c, .int r.d.f, .int r.d.t]), (4, [.int (Node.k (nodeD r.n)), .int (Node.f (nodeD r.n)), .int (Node.t (nodeD r.n)), .sl .node (Node.kids (nodeD r.n))]), (5, [.int 0, .int 0, .int 0]), (4, [.int 0, .int 0, .int 0, .nil])]) (hss : σ.s = []) (hfr : σ.fr = []) :
    ((Func.code LI.fn).r1.r1.r1.r1.r1).wp PG (bodyPost PG LI.fn (True' w)) a12 w12 := by
  have hNle : LI.fn.ntmps ≤ N := by rw [← hN]; simp only [Array.size_append, Array.size_replicate]; omega
  have hco : ∀ co, codeOK LI.fn.ntmps co = true → codeOK N co = true := fun co h => codeOK_mono hNle co h
  have fin' : ∀ {ex : Ex} {σ : St} {c : Cx} {a : Act} {w' : World}, Rel T0.tid ⟨w, Foot .unit 0 (fun _ => none), S, 0⟩ N c σ a w' → fin T0 .unit LI ex σ = some (.bool true, ()) → bodyPost PG LI.fn (True' w) (exOf ex) a w' :=
    fun h hf => bodyPost.mono (fun e w' hR => true_of hR) (fin_ok tabT h hf)
  have hsn : Small (nodeD r.n) := by
    cases hr : r.n with
    | some n => exact hsm n hr
    | none => exact Small.none_ _ _ _
  have hX : exec T0 W3 .unit (FnI.mask LI) 0 (Func.code LI.fn).r1.r1.r1.r1.r1 0 (tailSt l (nodeD r.n) r.d r.ok σ.v σ.c) (fin T0 .unit LI) = some (AV.bool true, ()) := by
    rw [tail_eq]
    rw [cX_c (h := .t3 (.e .node) (.e .diag) .b) (x := (nodeD r.n, r.d, r.ok)) ((W3_W (by decide) (by decide) (by decide)).trans hQ) (dec_res r)]
    have hsame := same_ok hsn
    unfold ndAV at hsame
    rw [cX_c (h := .b) (x := true) ((W3_W (by decide) (by decide) (by decide)).trans hsame) rfl]
    simp
  have hb12 : ∀ k, getB (tailSt l (nodeD r.n) r.d r.ok σ.v σ.c).b k = getB σ.b k := by
    intro k
    rw [hbb]
    by_cases k4 : k = 4
    · subst k4; rfl
    by_cases k5 : k = 5
    · subst k5; rfl
    have n4 : Nat.beq 4 k = false := by
      cases hb : Nat.beq 4 k with
      | false => rfl
      | true => exact absurd (Nat.eq_of_beq_eq_true hb).symm k4
    have n5 : Nat.beq 5 k = false := by
      cases hb : Nat.beq 5 k with
      | false => rfl
      | true => exact absurd (Nat.eq_of_beq_eq_true hb).symm k5
    simp only [tailSt, getB, n4, n5]
  have h13 : Rel T0.tid ⟨w, Foot .unit 0 (fun _ => none), S, 0⟩ N c12 (tailSt l (nodeD r.n) r.d r.ok σ.v σ.c) a12 w12 := by
    refine Rel_drop (σ := σ) h12 (fun i => ?_) hb12 hss.symm rfl rfl hfr.symm
    match i with
    | 0 => exact .inl d0.symm
    | 2 => exact .inl d2.symm
    | 4 => exact .inl d4.symm
    | 5 => exact .inl d5.symm
    | 6 => exact .inl d6.symm
    | 1 => exact .inr rfl
    | 3 => exact .inr rfl
    | n + 7 => exact .inr rfl
  exact exec_ok (τ := .unit) tabT W3_ok mix_ok (FnI.mask LI) 0 _ 0 _ (fin T0 .unit LI) _ _ _ _ (hco _ (by kernel_rfl)) h13 hX fun ex σ' c' a' w'' h' hk => fin' h' hk
theorem parses_calls {w : World} {S : Nat → Nat → Prop} {l : List Tok} {lv : Value} (hlv : FRel w S 0 (.sl .tok l) lv) (hst : ∀ b o, S b o → b < w.heap.size) :
    Calls PG 3 #[lv] w (True' w) := by
  refine calls_of_wp LI.ok.fn (c := Func.code LI.fn) rfl ?_
  have hs : SRep T0.tid .unit w S 0 (fun _ => none) () := ⟨fun h => absurd rfl h, hst, fun h => absurd rfl h, fun k b hk => (by cases hk), fun k k' b hk => (by cases hk)⟩
  have hC : CR w S 0 [.sl .tok l] [lv] := ⟨rfl, fun i hi => by
    match i, hi with
    | 0, _ => exact hlv⟩
  have h0 := start_ok (τ := .unit) (n := LI.fn.ntmps) (p := ()) hs hC
  generalize hN : ([lv].toArray ++ Array.replicate (LI.fn.ntmps - [lv].toArray.size) Go.undef).size = N at h0
  have hNle : LI.fn.ntmps ≤ N := by rw [← hN]; simp only [Array.size_append, Array.size_replicate]; omega
  have hco : ∀ co, codeOK LI.fn.ntmps co = true → codeOK N co = true := fun co h => codeOK_mono hNle co h
  have fin' : ∀ {ex : Ex} {σ : St} {c : Cx} {a : Act} {w' : World}, Rel T0.tid ⟨w, Foot .unit 0 (fun _ => none), S, 0⟩ N c σ a w' → fin T0 .unit LI ex σ = some (.bool true, ()) → bodyPost PG LI.fn (True' w) (exOf ex) a w' :=
    fun h hf => bodyPost.mono (fun e w' hR => true_of hR) (fin_ok tabT h hf)
  refine wp_seq (segm tabT W3_ok mix_ok (τ := .unit) (masks := FnI.mask LI) (lim := 0) (bid := 0) (hco _ (by kernel_rfl)) h0 rfl fun c1 a1 w1 h1 => ?_)
  refine wp_seq (wp_seq (segm tabT W3_ok mix_ok (τ := .unit) (masks := FnI.mask LI) (lim := 0) (bid := 0) (hco _ (by kernel_rfl)) h1 rfl fun c2 a2 w2 h2 => ?_))
  have hv : a2.eval (.tmp 12) = .bool (decide ((l.length : Int) > 16384)) := by
    have : FRel c2.w c2.S c2.g (.bool (decide ((l.length : Int) > 16384))) (a2.eval (.tmp 12)) := (h2.getO (.tmp 12)).to_F T0.tid rfl
    generalize a2.eval (.tmp 12) = v at this ⊢
    cases this; rfl
  by_cases hgt : (l.length : Int) > 16384
  · rw [decide_eq_true hgt] at hv
    refine wp_cond_true hv (segm tabT W3_ok mix_ok (τ := .unit) (masks := FnI.mask LI) (lim := 0) (bid := 0) (hco _ (by kernel_rfl)) h2 rfl fun c3 a3 w3 h3 => ?_)
    exact fin' (ex := .ret) h3 rfl
  rw [decide_eq_false hgt] at hv
  have hl : l.length < 1073741824 := by omega
  have hlen := lentL_len l
  refine wp_cond_false hv (wp_skip ?_)
  -- the list is lent
  refine wp_seq (region_hand_at tabT W3_ok (τ := .unit) 1 rfl (hco (.region 0 _ false) (by kernel_rfl)) rfl rfl h2 rfl fun c4 a4 w4 h4 => ?_)
  have hx4 : FRel c4.w c4.S c4.g (.sl .tok l) (a4.eval (.tmp 13)) := (h4.getO (.tmp 13)).to_F T0.tid rfl
  rw [h4.hw] at hx4
  refine call_wp rfl lent.ok.goes (lent_calls hl hx4 h4.stsz) (fun e w' he => ?_) fun xv w5 he => ?_
  · cases e <;> first | exact ⟨_, rfl⟩ | exact he.elim
  obtain ⟨b, vs, e1, e2, e3, e4, e5, e6⟩ := he
  obtain ⟨c5, h5, k1, k2, k3, k4⟩ := Rel_gotOwn h4 rfl e6 14 e1 e2
  have hsl : ∃ a n m, xv = .slice a n m := by cases xv <;> first | exact ⟨_, _, _, rfl⟩ | simp [Value.ownBlock] at e3
  have h5' := h5.put (d := some 14) (x := .own 14 1 .tok (lentL l)) (v := xv) (fun x hx => by cases hx; exact Nat.lt_of_lt_of_le (by decide) hNle) ⟨hsl, Nat.le_refl _, fun _ => .inr ⟨b, vs, k1, e3, by rw [k4]; exact e4, e5 _ _ _⟩⟩
  refine region_rest_at tabT W3_ok (τ := .unit) 1 (by decide) (hco (.region 0 _ false) (by kernel_rfl)) h5' rfl fun c6 a6 w6 h6 => ?_
  -- the program reads it
  have hle : (l.length : Int) ≤ ((lentL l).length : Int) := by omega
  refine wp_seq (region_hand_at tabT W3_ok (τ := .unit) 4 rfl (hco (.region 0 _ false) (by kernel_rfl)) rfl rfl h6 (Eq.trans (if_pos (c := 0 ≤ (l.length : Int)) (e := (none : Option St)) (by omega)) (if_pos (c := (l.length : Int) ≤ ((lentL l).length : Int)) (e := (none : Option St)) hle)) fun c7 a7 w7 h7 => ?_)
  have hw7 := h7.hw
  obtain ⟨_, _, hO3⟩ : AR T0.tid c7 _ (.own 14 1 .tok (lentL l)) (a7.eval (.tmp 3)) := h7.getO (.tmp 3)
  rcases (hO3 rfl).cells with ⟨h0', _⟩ | ⟨b7, m7, vs7, q1, q2, q3, q4, q5⟩
  · simp [lentL] at h0'
  obtain ⟨_, _, hO19⟩ : AR T0.tid c7 _ (.own 14 1 .tok (List.take (Int.toNat (l.length : Int)) (lentL l))) (a7.eval (.tmp 19)) := h7.getO (.tmp 19)
  have htk : List.take (Int.toNat (l.length : Int)) (lentL l) = l := by rw [Int.toNat_natCast]; unfold lentL; simp
  have ho7 := h7.own 14 b7 (fun hh => absurd (show (14 : Nat) ∈ ([] : List Nat) from hh) (by simp)) q1
  have hF7 : FRel w7 (fun b' o => c7.S b' o ∨ (b' = b7 ∧ o < l.length * 3)) 0 (.sl .tok l) (a7.eval (.tmp 19)) := by
    rcases (hO19 rfl).cells with ⟨h0', a', hv'⟩ | ⟨b', m', vs', p1, p2, p3, p4, p5⟩
    · rw [htk] at h0'
      rw [hv', h0']
      exact .sl0 _ _ _
    · rw [q1] at p1
      have hbb := Option.some.inj p1
      subst hbb
      rw [htk] at p2 p3 p5
      rw [hw7] at p4
      rw [p2]
      exact frel_of_cells p3 p4 (CR_tok p5 _ _ _) (fun o ho => .inr ⟨rfl, ho⟩)
  have hst7 : ∀ b' o, (c7.S b' o ∨ (b' = b7 ∧ o < l.length * 3)) → b' < w7.heap.size := by
    rintro b' o (hS | ⟨rfl, _⟩)
    · exact h7.stsz _ _ hS
    · exact ho7.2.1
  obtain ⟨r, hsm, hP, hQ⟩ := W3_Parse (l := l) (by omega)
  obtain ⟨hgo, hcalls⟩ := W3_ok _ _ _ _ _ hP
  refine call_wp rfl hgo (hcalls w7 (fun b' o => c7.S b' o ∨ (b' = b7 ∧ o < l.length * 3)) 0 (fun _ => none) [a7.eval (.tmp 19)] ⟨fun h => absurd rfl h, hst7, fun h => absurd rfl h, fun k b hk => (by cases hk), fun k k' b hk => (by cases hk)⟩
    ⟨rfl, fun i hi => by
      match i, hi with
      | 0, _ => exact hF7⟩) (fun e w' he => ?_) fun u w8 he => ?_
  · cases e <;> first | exact ⟨_, rfl⟩ | exact he.elim
  obtain ⟨S8, κ8, r1, r2, r3, r4, r5, r6⟩ := he
  have hK8 : Keep w7 (fun _ => False) w8 := ⟨r2.os, r2.tape, r2.output, r2.size, fun b hb _ => r2.block b hb (by
    rintro (⟨hF, _⟩ | ⟨k, hF⟩)
    · exact absurd rfl hF
    · cases hF)⟩
  have hnF : ∀ b', ¬ Foot .unit 0 (fun _ => none) b' := by
    rintro b' (⟨hF, _⟩ | ⟨k, hF⟩)
    · exact absurd rfl hF
    · cases hF
  have r6' : FRel w8 S8 0 (resAV r) u := r6
  have hcut := res_cut (bx := b7) (fun o v hS hc => by
    rcases r4 _ _ hS with (hS | ⟨_, ho⟩) | hF | hF
    · exact absurd hS (ho7.2.2.1 o)
    · have hblk := hK8.block b7 ho7.2.1 id
      have hc7 : w7.cell? ⟨b7, o, none⟩ = some v := (World.cell?_of_block (w := w7) (a := ⟨b7, o, none⟩) hblk).symm.trans hc
      have hvl : o < vs7.length := by rw [← q5.1, encL_length, hlen]; show o < (l.length + 2) * 3; omega
      have := q4 o _ (get?_of_lt Go.undef hvl)
      rw [Nat.zero_add, hw7, hc7] at this
      have hi := q5.2 o (by rw [encL_length, hlen]; show o < (l.length + 2) * 3; omega)
      obtain ⟨n, hn⟩ := encTok_int (l := lentL l) (i := o) (by rw [encL_length, hlen]; show o < (l.length + 2) * 3; omega)
      rw [hn, ← Option.some.inj this] at hi
      cases hi
      exact ⟨n, rfl⟩
    · exact absurd hF (hnF _)
    · have := ho7.2.1; omega) r6'
  obtain ⟨c8, h8, k81, k82, k83, k84⟩ := Rel_gotS (S' := fun b' o => S8 b' o ∧ b' ≠ b7) h7 rfl hK8 (fun b' o hS => ⟨r3 _ _ (.inl hS), fun hb => by subst hb; exact ho7.2.2.1 o hS⟩)
    (fun b' o hS => by
      rcases r4 _ _ hS.1 with (h1 | ⟨h1, _⟩) | h1 | h1
      · exact .inl h1
      · exact absurd h1 hS.2
      · exact absurd h1 (hnF _)
      · exact .inr h1) (fun b' o hS => r1.st _ _ hS.1)
  have h8' := h8.put (d := some 20) (x := resAV' r) (v := u) (fun x hx => by cases hx; exact Nat.lt_of_lt_of_le (by decide) hNle) (AR.of_F T0.tid (by rw [k84, k82, k83, h7.ds.2]; exact hcut))
  refine region_rest_at tabT W3_ok (τ := .unit) 4 (by decide) (hco (.region 0 _ false) (by kernel_rfl)) h8' rfl fun c9 a9 w9 h9 => ?_
  -- is it still what it was?
  have hfr9 : ∀ {k : Nat}, ¬ k ∈ ([] : List Nat) := fun {k} h => by cases h
  refine wp_seq (wp_seq (region_hand_at tabT W3_ok (τ := .unit) 2 rfl (hco (.region 0 _ false) (by kernel_rfl)) rfl rfl h9 rfl fun c10 a10 w10 h10 => ?_))
  have hw10 := h10.hw
  obtain ⟨_, _, hO10⟩ : AR T0.tid c10 _ (.own 14 1 .tok (lentL l)) (a10.eval (.tmp 24)) := h10.getO (.tmp 24)
  rcases hO10 rfl with ⟨h0', _⟩ | ⟨b10, vs10, t1, t2, t3, t4⟩
  · simp [lentL] at h0'
  have hx25 : FRel c10.w c10.S c10.g (.sl .tok l) (a10.eval (.tmp 25)) := (h10.getO (.tmp 25)).to_F T0.tid rfl
  rw [hw10] at hx25 t3 t4
  have ho10 := h10.own 14 b10 (fun hh => absurd (show (14 : Nat) ∈ ([] : List Nat) from hh) (by simp)) t1
  refine call_wp rfl still.ok.goes (still_calls hl hx25 t2 t3 t4 ho10.2.1 ho10.2.2.1 h10.stsz) (fun e w' he => ?_) fun u w11 he => ?_
  · cases e <;> first | exact ⟨_, rfl⟩ | exact he.elim
  obtain ⟨he1, he2⟩ := he
  subst he1
  obtain ⟨c11, h11, _, _, _⟩ := Rel_wrote h10 rfl (fun hh => absurd (show (14 : Nat) ∈ ([] : List Nat) from hh) (by simp)) t1 he2
  have h11' := h11.put (d := some 26) (x := .bool true) (v := .bool true) (fun x hx => by cases hx; exact Nat.lt_of_lt_of_le (by decide) hNle) (AR.of_F T0.tid (.bool _))
  refine region_rest_at tabT W3_ok (τ := .unit) 2 (by decide) (hco (.region 0 _ false) (by kernel_rfl)) h11' rfl fun c12 a12 w12 h12 => ?_
  have hv12 : a12.eval (.tmp 27) = .bool false := by
    have : FRel c12.w c12.S c12.g (.bool false) (a12.eval (.tmp 27)) := (h12.getO (.tmp 27)).to_F T0.tid rfl
    generalize a12.eval (.tmp 27) = v at this ⊢
    cases this; rfl
  refine wp_cond_false hv12 (wp_skip ?_)
  -- the reference reads it; both are the same
  exact parses_tail hN hsm hQ h12 (by with_unfolding_all rfl) (by with_unfolding_all rfl) (by with_unfolding_all rfl) (by with_unfolding_all rfl) (by with_unfolding_all rfl) (by with_unfolding_all rfl) (by with_unfolding_all rfl) (by with_unfolding_all rfl)
end Go.AI.Rd
/- DERIVED. THE LAWS: a list of tokens that came in, as the reader's. -/
namespace Go.AI.Rd
theorem drop_take_one {cs : List Value} {o : Nat} {v : Value} (h : (cs.drop o).take 1 = [v]) : cs[o]? = some v := by
  have : ((cs.drop o).take 1)[0]? = some v := by rw [h]; rfl
  rw [List.getElem?_take] at this
  simpa using this
theorem cell_lt {w : World} {a : Addr} {v : Value} (h : w.cell? a = some v) : a.block < w.heap.size := by
  unfold World.cell? at h
  cases hh : w.heap[a.block]? with
  | none => simp [hh] at h
  | some o => exact (Array.getElem?_eq_some_iff.1 hh).1
theorem frel_toks {H : Type} {enc : TypeId × Value → H} {P : Program} {w : World} {sp : Nat → Bool} {held : Bool} {T E : TypeId} {f0 f1 f2 : Field} (hT : P.underlying T = some (.slice E)) (hE : P.underlying E = some (.struct #[f0, f1, f2])) (hc : P.cellsOf E = 3)
    (h0 : P.underlying f0.type = some (.int .i64)) (h1 : P.underlying f1.type = some (.int .i64)) (h2 : P.underlying f2.type = some (.int .i64)) (o0 : f0.offset = 0) (o1 : f1.offset = 1) (o2 : f2.offset = 2)
    (c0 : P.cellsOf f0.type = 1) (c1 : P.cellsOf f1.type = 1) (c2 : P.cellsOf f2.type = 1) {fuel : Nat} {v : Value} {x : DataW H × List MemPlace} (hf : DataW.trod enc P w 0 sp held fuel T [v] = some x) :
    ∃ l : List Tok, FRel w (fun b _ => b < w.heap.size) 0 (.sl .tok l) v := by
  rcases Go.Deep.open_slice hT hf with ⟨hcs, _⟩ | ⟨a, len, cap, m, n, D, Pl, hcs, hb, hle, hm, hmm, hx, hall⟩
  · simp only [List.cons.injEq, and_true] at hcs
    subst hcs
    exact ⟨[], .sl0 _ _ _⟩
  · simp only [List.cons.injEq, and_true] at hcs
    subst hcs
    have hlm : len ≤ m := by rw [hmm]; split <;> omega
    by_cases hz : len = 0
    · subst hz; exact ⟨[], .sl0 _ _ _⟩
    have hspot : a.spot = none := by
      obtain ⟨cs', hcell, htr⟩ := hall 0 (by omega)
      rw [hc] at hcell
      obtain ⟨_, hl3, hcc⟩ := World.cells?_some hcell
      have h0' := hcc 0 (by omega)
      have hs : ∃ u, cs'[0]? = some u := ⟨_, List.getElem?_eq_getElem (by omega)⟩
      obtain ⟨u, hu⟩ := hs
      rw [hu, Nat.zero_mul] at h0'
      have := World.cell?_spot h0'
      simpa [Addr.add] using this
    obtain ⟨b, off, spot⟩ := a
    simp only at hspot
    subst hspot
    have each : ∀ i, i < len → ∃ t : Tok, ∀ j, j < 3 → w.cell? ((⟨b, off, none⟩ : Addr).add (i * 3 + j)) = some ([Value.int .i64 t.k, .int .i64 t.f, .int .i64 t.t].getD j Go.undef) := by
      intro i hi
      obtain ⟨cs', hcell, htr⟩ := hall i (by omega)
      rw [hc] at hcell
      obtain ⟨y0, y1, y2, n', _, hl3, g0, g1, g2⟩ := Go.Deep.trod_struct3 hE htr
      obtain ⟨n0, e0, _⟩ := DataW.trod_int h0 g0
      obtain ⟨n1, e1, _⟩ := DataW.trod_int h1 g1
      obtain ⟨n2, e2, _⟩ := DataW.trod_int h2 g2
      rw [o0, c0] at e0
      rw [o1, c1] at e1
      rw [o2, c2] at e2
      have r0 := drop_take_one e0
      have r1 := drop_take_one e1
      have r2 := drop_take_one e2
      obtain ⟨_, _, hcc⟩ := World.cells?_some hcell
      refine ⟨⟨n0, n1, n2⟩, fun j hj => ?_⟩
      have hj' := hcc j hj
      have hadd : ((⟨b, off, none⟩ : Addr).add (i * 3)).add j = (⟨b, off, none⟩ : Addr).add (i * 3 + j) := by
        rw [Addr.add_at, Addr.add_at, Addr.add_at, Nat.add_assoc]
      rw [hadd] at hj'
      rw [hj']
      match j, hj with
      | 0, _ => exact r0
      | 1, _ => exact r1
      | 2, _ => exact r2
    obtain ⟨F, hF⟩ : ∃ F : Nat → Tok, ∀ i, i < len → ∀ j, j < 3 → w.cell? ((⟨b, off, none⟩ : Addr).add (i * 3 + j)) = some ([Value.int .i64 (F i).k, .int .i64 (F i).f, .int .i64 (F i).t].getD j Go.undef) := by
      refine ⟨fun i => if h : i < len then Classical.choose (each i h) else default, fun i hi => ?_⟩
      simp only [hi, dif_pos]
      exact Classical.choose_spec (each i hi)
    have hlen : ((List.range len).map F).length = len := by simp
    have hb' : b < w.heap.size := by
      have := hF 0 (by omega) 0 (by omega)
      rw [Addr.add_at] at this
      exact cell_lt this
    refine ⟨(List.range len).map F, ?_⟩
    have hget : ∀ i, i < len → ((List.range len).map F).getD i (El.dflt .tok) = F i := by
      intro i hi
      rw [List.getD_eq_getElem?_getD]
      simp [hi]
    have := FRel.sl (w := w) (S := fun b _ => b < w.heap.size) (g := 0) .tok ((List.range len).map F) b off cap (fun i j => [Value.int .i64 (F i).k, .int .i64 (F i).f, .int .i64 (F i).t].getD j Go.undef) (by rw [hlen]; exact hle) (by rw [hlen]; omega)
      (fun i j hi hj => by
        rw [hlen] at hi
        rw [hget i hi]
        match j, hj with
        | 0, _ => exact .int _
        | 1, _ => exact .int _
        | 2, _ => exact .int _)
      (fun i j hi hj => by
        rw [hlen] at hi
        refine ⟨hb', ?_⟩
        have := hF i hi j hj
        rw [Addr.add_at] at this
        rw [Nat.add_assoc]
        exact this)
    rw [hlen] at this
    exact this
end Go.AI.Rd
