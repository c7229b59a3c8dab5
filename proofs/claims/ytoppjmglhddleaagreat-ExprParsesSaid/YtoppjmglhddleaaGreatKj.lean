/- DERIVED. THE READER: a plain run ends. -/
import Derived.Test.YtoppjmglhddleaaGreatKh
import Derived.Test.YtoppjmglhddleaaGreatKg
import Derived.Test.YtoppjmglhddleaaGreatKi
set_option linter.unusedVariables false
set_option linter.unusedSimpArgs false
namespace Go.AI.Rd
/-- A run ends, and what it ends in. -/
def Wp (m : M) (a : A) (ms : List Int) (Q : Int → A → Prop) : Prop := ∃ n r b, runM (callN n) m a ms = some (r, b) ∧ Q r b
theorem Wp.mono {m : M} {a : A} {ms : List Int} {Q Q' : Int → A → Prop} (h : Wp m a ms Q) (hq : ∀ r b, Q r b → Q' r b) : Wp m a ms Q' := by
  obtain ⟨n, r, b, h1, h2⟩ := h
  exact ⟨n, r, b, h1, hq r b h2⟩
theorem runM_le {n k : Nat} (h : n ≤ k) {m : M} {a : A} {ms : List Int} {r : Int × A} (hr : runM (callN n) m a ms = some r) : runM (callN k) m a ms = some r :=
  runM_mono (fun pr a ms r hc => callN_mono h hc) m a ms r hr
section
variable {a : A} {ms : List Int} {Q : Int → A → Prop}
theorem Wp.ret {v : Int} (h : Q v a) : Wp (.ret v) a ms Q := ⟨0, v, a, rfl, h⟩
theorem Wp.look {f : List Int → Int} {k : Int → M} (h : Wp (k (f a.kinds)) a ms Q) : Wp (.look f k) a ms Q := h
theorem Wp.lookB {f : List Int → Bool} {k : Bool → M} (h : Wp (k (f a.kinds)) a ms Q) : Wp (.lookB f k) a ms Q := h
theorem Wp.deadq {k : Bool → M} (h : Wp (k a.dead) a ms Q) : Wp (.dead k) a ms Q := h
theorem Wp.last {k : Int → M} (h : Wp (k a.last) a ms Q) : Wp (.last k) a ms Q := h
theorem Wp.take {k : M} (hr : a.room = true) (h : Wp k a.take ms Q) : Wp (.take k) a ms Q := by
  obtain ⟨n, r, b, h1, h2⟩ := h
  exact ⟨n, r, b, by simp only [runM, hr, if_true]; exact h1, h2⟩
theorem Wp.none_ {k : M} (hr : a.room = true) (h : Wp k a.none_ ms Q) : Wp (.none_ k) a ms Q := by
  obtain ⟨n, r, b, h1, h2⟩ := h
  exact ⟨n, r, b, by simp only [runM, hr, if_true]; exact h1, h2⟩
theorem Wp.mark {k : M} (hr : a.dead = true ∨ ms.length < 4294967264) (h : Wp k a (ms ++ [(a.row.length : Int)]) Q) : Wp (.mark k) a ms Q := by
  obtain ⟨n, r, b, h1, h2⟩ := h
  refine ⟨n, r, b, ?_, h2⟩
  simp only [runM]
  rw [if_pos (by rcases hr with hr | hr <;> simp [hr])]
  exact h1
theorem Wp.close {hh : Nat} {kd : Int} {k : M} (hr : a.room = true) (h : Wp k (a.close (ms.getD hh 0) kd) ms Q) : Wp (.close hh kd k) a ms Q := by
  obtain ⟨n, r, b, h1, h2⟩ := h
  exact ⟨n, r, b, by simp only [runM, hr, if_true]; exact h1, h2⟩
theorem Wp.gap {hh : Nat} {k : M} (hr : a.room = true) (h : Wp k (a.gap (ms.getD hh 0)) ms Q) : Wp (.gap hh k) a ms Q := by
  obtain ⟨n, r, b, h1, h2⟩ := h
  exact ⟨n, r, b, by simp only [runM, hr, if_true]; exact h1, h2⟩
theorem Wp.down {k : Bool → M} (h : Wp (k a.down.1) a.down.2 ms Q) : Wp (.down k) a ms Q := h
theorem Wp.up {k : M} (h : Wp k a.up ms Q) : Wp (.up k) a ms Q := h
theorem Wp.fail {c : Int} {k : M} (h : Wp k (a.fail c) ms Q) : Wp (.fail c k) a ms Q := h
theorem Wp.lit {hh : Nat} {head : Bool} {k : Bool → M} (hr : a.dead = true ∨ a.litOK (ms.getD hh 0) = true) (h : Wp (k (a.lit (ms.getD hh 0) head)) a ms Q) : Wp (.lit hh head k) a ms Q := by
  obtain ⟨n, r, b, h1, h2⟩ := h
  refine ⟨n, r, b, ?_, h2⟩
  simp only [runM]
  rw [if_pos (by rcases hr with hr | hr <;> rw [hr] <;> simp)]
  exact h1
theorem Wp.names {ns : List Bool} {k : M} (hr : a.dead = true ∨ (ns.length < 4294967264 ∧ entsOK a.row 0 (entsOf ms ns) = true)) (h : Wp k (a.names (entsOf ms ns)) ms Q) : Wp (.names ns k) a ms Q := by
  obtain ⟨n, r, b, h1, h2⟩ := h
  refine ⟨n, r, b, ?_, h2⟩
  simp only [runM]
  rw [if_pos (by rcases hr with hr | hr <;> simp [hr])]
  exact h1
theorem Wp.group {ns : List Bool} {any : Bool} {k : M} (hr : a.dead = true ∨ (ns.length < 4294967264 ∧ a.room = true ∧ entsOK a.row 0 (entsOf ms ns) = true)) (h : Wp k (a.group any (entsOf ms ns)) ms Q) : Wp (.group ns any k) a ms Q := by
  obtain ⟨n, r, b, h1, h2⟩ := h
  refine ⟨n, r, b, ?_, h2⟩
  simp only [runM]
  rw [if_pos (by rcases hr with hr | hr <;> simp [hr])]
  exact h1
theorem Wp.call {pr : Proc} {hs : List Nat} {k : Int → M} (h : Wp (body pr) a (hs.map fun h => ms.getD h 0) fun r b => Wp (k r) b ms Q) : Wp (.call pr hs k) a ms Q := by
  obtain ⟨n, r, b, h1, n2, r2, b2, h3, h4⟩ := h
  refine ⟨max (n + 1) n2, r2, b2, ?_, h4⟩
  simp only [runM]
  have h5 : callN (n + 1) pr a (hs.map fun h => ms.getD h 0) = some (r, b) := h1
  rw [callN_mono (Nat.le_max_left (n + 1) n2) h5]
  exact runM_le (Nat.le_max_right (n + 1) n2) h3
end
/-! ### What has failed -/
def SR (a b : A) : Prop := b.dg = a.dg ∧ b.pre = a.pre ∧ b.rest = a.rest ∧ b.row = a.row
theorem SR.refl (a : A) : SR a a := ⟨rfl, rfl, rfl, rfl⟩
theorem SR.trans {a b c : A} (h : SR a b) (k : SR b c) : SR a c := ⟨k.1.trans h.1, k.2.1.trans h.2.1, k.2.2.1.trans h.2.2.1, k.2.2.2.trans h.2.2.2⟩
theorem SR.dead {a b : A} (h : SR a b) (hd : a.dead = true) : b.dead = true := by unfold A.dead at hd ⊢; rw [h.1]; exact hd
theorem SR.room {a b : A} (h : SR a b) (hr : a.room = true) : b.room = true := by rw [room_iff] at hr ⊢; rw [h.2.2.1, h.2.2.2]; exact hr
def DW (m : M) : Prop := ∀ a ms, a.dead = true → a.room = true → Wp m a ms fun _ b => SR a b
theorem comesF_nil (ks : List Int) : comesF ks [] = false := by unfold comesF; simp
theorem DW.ret {v : Int} : DW (.ret v) := fun a ms _ _ => Wp.ret (SR.refl a)
theorem DW.look {f : List Int → Int} {k : Int → M} (h : DW (k (f []))) : DW (.look f k) := fun a ms hd hr => Wp.look (by rw [kinds_dead hd]; exact h a ms hd hr)
theorem DW.lookB {f : List Int → Bool} {k : Bool → M} (h : DW (k (f []))) : DW (.lookB f k) := fun a ms hd hr => Wp.lookB (by rw [kinds_dead hd]; exact h a ms hd hr)
theorem DW.kind {k : Int → M} (h : DW (k 0)) : DW (kind k) := DW.look h
theorem DW.comes {ks : List Int} {k : Bool → M} (h : DW (k false)) : DW (comes ks k) := DW.lookB (by rw [comesF_nil]; exact h)
theorem DW.deadq {k : Bool → M} (h : DW (k true)) : DW (.dead k) := fun a ms hd hr => Wp.deadq (by rw [hd]; exact h a ms hd hr)
theorem DW.take {k : M} (h : DW k) : DW (.take k) := fun a ms hd hr => Wp.take hr (by rw [take_dead hd]; exact h a ms hd hr)
theorem DW.none_ {k : M} (h : DW k) : DW (.none_ k) := fun a ms hd hr => Wp.none_ hr (by rw [none_dead hd]; exact h a ms hd hr)
theorem DW.mark {k : M} (h : DW k) : DW (.mark k) := fun a ms hd hr => Wp.mark (.inl hd) (h a _ hd hr)
theorem DW.close {hh : Nat} {kd : Int} {k : M} (h : DW k) : DW (.close hh kd k) := fun a ms hd hr => Wp.close hr (by rw [close_dead hd]; exact h a ms hd hr)
theorem DW.down {k : Bool → M} (h : DW (k false)) : DW (.down k) := fun a ms hd hr => Wp.down (by rw [down_dead hd]; exact h a ms hd hr)
theorem DW.up {k : M} (h : DW k) : DW (.up k) := fun a ms hd hr => Wp.up ((h a.up ms hd hr).mono fun r b hb => SR.trans (b := a.up) ⟨rfl, rfl, rfl, rfl⟩ hb)
theorem DW.fail {c : Int} {k : M} (h : DW k) : DW (.fail c k) := fun a ms hd hr => Wp.fail (by rw [fail_dead hd]; exact h a ms hd hr)
theorem DW.lit {hh : Nat} {head : Bool} {k : Bool → M} (h : ∀ c, DW (k c)) : DW (.lit hh head k) := fun a ms hd hr => Wp.lit (.inl hd) (h _ a ms hd hr)
theorem DW.names {ns : List Bool} {k : M} (h : DW k) : DW (.names ns k) := fun a ms hd hr => Wp.names (.inl hd) (by rw [names_dead hd]; exact h a ms hd hr)
theorem DW.group {ns : List Bool} {any : Bool} {k : M} (h : DW k) : DW (.group ns any k) := fun a ms hd hr => Wp.group (.inl hd) (by rw [group_dead hd]; exact h a ms hd hr)
theorem DW.call {pr : Proc} {hs : List Nat} {k : Int → M} (hp : DW (body pr)) (h : ∀ r, DW (k r)) : DW (.call pr hs k) := fun a ms hd hr =>
  Wp.call ((hp a _ hd hr).mono fun r b hb => (h r b ms (hb.dead hd) (hb.room hr)).mono fun r' c hc => hb.trans hc)
theorem DW.expect {c : Int} {k : M} (hc : c ≠ 0) (h : DW k) : DW (expect c k) := DW.kind (by rw [if_neg (Ne.symm hc)]; exact DW.fail h)
theorem DW.taken {ks : List Int} {k : Bool → M} (h : DW (k false)) : DW (taken ks k) := DW.comes (by rw [if_neg (by decide)]; exact h)
theorem DW.go {pr : Proc} {k : M} (hp : DW (body pr)) (h : DW k) : DW (go pr k) := DW.call hp fun _ => h
theorem DW.done : DW done := DW.ret
theorem D_deeper (pr : Proc) : DW (body (.deeper pr)) := by
  simp only [body]; exact DW.down (by rw [if_neg (by decide)]; exact DW.done)
theorem D_X (h : Bool) : DW (body (.X h)) := by simp only [body]; exact DW.go (D_deeper _) DW.done
theorem D_Type : DW (body .Type) := by simp only [body]; exact DW.go (D_deeper _) DW.done
theorem D_takeP : DW (body .takeP) := by simp only [body]; exact DW.take DW.done
theorem D_node (k : Int) {pr : Proc} (h : DW (body pr)) : DW (body (.node k pr)) := by simp only [body]; exact DW.mark (DW.go h (DW.close DW.done))
theorem D_itemsL (pr : Proc) : DW (body (.itemsL pr)) := by simp only [body, itemsM]; exact DW.deadq (by rw [if_pos rfl]; exact DW.expect (by decide) DW.done)
theorem D_items (pr : Proc) : DW (body (.items pr)) := by simp only [body]; exact DW.expect (by decide) (DW.call (D_itemsL pr) fun _ => DW.ret)
theorem D_Name : DW (body .Name) := by simp only [body]; exact DW.kind (by rw [if_neg (by decide)]; exact DW.fail DW.done)
theorem D_operand : DW (body .operand) := by
  simp only [body]
  refine DW.mark (DW.kind ?_)
  rw [if_neg (by decide), if_neg (by decide), if_neg (by decide), if_neg (by decide), if_neg (by decide)]
  exact DW.fail DW.done
theorem D_primaryL (h : Bool) : DW (body (.primaryL h)) := by
  simp only [body]
  refine DW.kind ?_
  rw [if_neg (by decide), if_neg (by decide), if_neg (by decide), if_neg (by decide)]
  exact DW.done
theorem D_primary (h : Bool) : DW (body (.primary h)) := by simp only [body]; exact DW.mark (DW.go D_operand (DW.call (D_primaryL h) fun _ => DW.ret))
theorem D_unary (h : Bool) : DW (body (.unary h)) := by
  simp only [body]
  refine DW.kind ?_
  rw [if_neg (by decide), if_neg (by decide)]
  exact DW.go (D_primary h) DW.done
theorem D_binaryL (p : Int) (h : Bool) : DW (body (.binaryL p h)) := by
  simp only [body]
  refine DW.look ?_
  rw [if_neg (by decide)]
  exact DW.done
theorem D_binary (p : Int) (h : Bool) : DW (body (.binary p h)) := by simp only [body]; exact DW.mark (DW.go (D_unary h) (DW.call (D_binaryL p h) fun _ => DW.ret))
theorem D_X1 (h : Bool) : DW (body (.X1 h)) := by simp only [body]; exact DW.go (D_binary 1 h) DW.done
theorem D_unary1 (h : Bool) : DW (body (.unary1 h)) := by simp only [body]; exact DW.go (D_unary h) DW.done
theorem D_period : DW (body .period) := by
  simp only [body]
  refine DW.kind ?_
  rw [if_neg (by decide)]
  refine DW.expect (by decide) (DW.taken ?_)
  rw [if_neg (by decide)]
  exact DW.go D_Type (DW.expect (by decide) DW.ret)
theorem D_unless (ks : List Int) : DW (body (.unless ks)) := by
  simp only [body]
  refine DW.comes ?_
  rw [if_neg (by decide)]
  exact DW.go (D_X false) DW.done
theorem D_indexL : DW (body .indexL) := by
  simp only [body]
  refine DW.taken ?_
  rw [if_neg (by decide)]
  exact DW.expect (by decide) DW.ret
theorem D_index : DW (body .index) := by
  simp only [body]
  refine DW.go (D_unless _) (DW.taken ?_)
  rw [if_neg (by decide)]
  exact DW.call D_indexL fun _ => DW.ret
theorem D_argsL : DW (body .argsL) := by simp only [body]; exact DW.deadq (by rw [if_pos rfl]; exact DW.expect (by decide) DW.done)
theorem D_arguments : DW (body .arguments) := by simp only [body]; exact DW.call D_argsL fun _ => DW.ret
theorem D_value : DW (body .value) := by
  simp only [body]
  refine DW.kind ?_
  rw [if_neg (by decide)]
  exact DW.go (D_X false) DW.done
theorem D_valuesL : DW (body .valuesL) := by simp only [body]; exact DW.deadq (by rw [if_pos rfl]; exact DW.expect (by decide) DW.done)
theorem D_values : DW (body .values) := by simp only [body]; exact DW.expect (by decide) (DW.call D_valuesL fun _ => DW.ret)
theorem D_value1 : DW (body .value1) := by simp only [body]; exact DW.go (D_node 214 D_values) DW.done
theorem D_flatL (n : Int) : DW (body (.flatL n)) := by
  simp only [body]
  refine DW.kind ?_
  rw [if_pos rfl]
  exact DW.fail DW.done
theorem D_flat : DW (body .flat) := by simp only [body]; exact DW.call (D_flatL 0) fun _ => DW.ret
theorem D_ListL (h : Bool) : DW (body (.ListL h)) := by
  simp only [body]
  refine DW.taken ?_
  rw [if_neg (by decide)]
  exact DW.done
theorem D_List1 (h : Bool) : DW (body (.List1 h)) := by simp only [body]; exact DW.go (D_X h) (DW.call (D_ListL h) fun _ => DW.ret)
theorem D_List (h : Bool) : DW (body (.List h)) := by simp only [body]; exact DW.go (D_node _ (D_List1 h)) DW.done
theorem D_form : DW (body .form) := by
  simp only [body]
  refine DW.mark (DW.kind ?_)
  rw [if_neg (by decide), if_neg (by decide), if_neg (by decide), if_neg (by decide), if_neg (by decide), if_neg (by decide), if_neg (by decide), if_neg (by decide)]
  exact DW.fail DW.done
theorem D_formL : DW (body .formL) := by
  simp only [body]
  refine DW.taken ?_
  rw [if_neg (by decide)]
  exact DW.expect (by decide) (DW.close DW.done)
theorem D_elements : DW (body .elements) := by
  simp only [body, elemsM]
  refine DW.taken ?_
  rw [if_neg (by decide)]
  refine DW.comes ?_
  rw [if_neg (by decide)]
  exact DW.go (D_X false) (DW.expect (by decide) (DW.go D_Type DW.ret))
theorem D_qualified : DW (body .qualified) := by
  simp only [body]
  refine DW.mark (DW.go D_Name (DW.taken ?_))
  rw [if_neg (by decide)]
  exact DW.done
theorem D_fieldL : DW (body .fieldL) := by
  simp only [body]
  refine DW.taken ?_
  rw [if_neg (by decide)]
  exact DW.go D_Type (DW.close DW.done)
theorem D_field : DW (body .field) := by
  simp only [body]
  refine DW.mark (DW.comes ?_)
  rw [if_neg (by decide)]
  refine DW.lookB ?_
  rw [if_neg (by decide)]
  exact DW.go D_Name (DW.call D_fieldL fun _ => DW.ret)
theorem D_unionL (more : Bool) : DW (body (.unionL more)) := by
  simp only [body]
  refine DW.mark (DW.taken ?_)
  rw [if_neg (by decide)]
  refine DW.go D_Type (DW.taken ?_)
  rw [if_neg (by decide)]
  exact DW.ret
theorem D_union : DW (body .union) := by simp only [body]; exact DW.call (D_unionL false) fun _ => DW.ret
theorem D_groupM (ns : List Bool) : DW (groupM ns) := by
  unfold groupM
  split
  · exact DW.names (DW.group (DW.expect (by decide) DW.done))
  · exact DW.group (DW.expect (by decide) DW.done)
theorem D_ParamsL (ns : List Bool) : DW (body (.ParamsL ns)) := by simp only [body]; exact DW.deadq (by rw [if_pos rfl]; exact D_groupM ns)
theorem D_Params1 : DW (body .Params1) := by simp only [body]; exact DW.expect (by decide) (DW.call (D_ParamsL []) fun _ => DW.ret)
theorem D_Params : DW (body .Params) := by simp only [body]; exact DW.go (D_node _ D_Params1) DW.done
theorem D_Sig1 : DW (body .Sig1) := by
  simp only [body]
  refine DW.go D_Params (DW.kind ?_)
  rw [if_neg (by decide), if_neg (by decide)]
  exact DW.none_ DW.done
theorem D_Sig : DW (body .Sig) := by simp only [body]; exact DW.go (D_node _ D_Sig1) DW.done
theorem D_element : DW (body .element) := by
  simp only [body]
  refine DW.mark (DW.lookB ?_)
  rw [if_neg (by decide)]
  exact DW.go D_union (DW.close DW.done)
theorem D_entry1 : DW (body .entry1) := by simp only [body]; exact DW.take (DW.go D_Type DW.done)
theorem D_entry : DW (body .entry) := by
  simp only [body, entryM]
  refine DW.lookB ?_
  rw [if_neg (by decide)]
  refine DW.comes ?_
  rw [if_neg (by decide)]
  exact DW.go D_Type DW.ret
theorem D_TParamsL (more : Bool) : DW (body (.TParamsL more)) := by
  simp only [body]
  split
  · exact DW.deadq (by rw [if_pos rfl]; exact DW.expect (by decide) DW.done)
  · exact DW.expect (by decide) DW.done
theorem D_TParams1 : DW (body .TParams1) := by simp only [body]; exact DW.expect (by decide) (DW.call (D_TParamsL true) fun _ => DW.ret)
theorem D_TParams : DW (body .TParams) := by simp only [body]; exact DW.go (D_node _ D_TParams1) DW.done
theorem D_TParams11L : DW (body .TParams11L) := by
  simp only [body]
  refine DW.taken ?_
  rw [if_neg (by decide)]
  refine DW.mark (DW.call D_union fun r => ?_)
  split
  · exact DW.close DW.done
  · exact DW.done
theorem D_TParams11 : DW (body .TParams11) := by simp only [body]; exact DW.go D_Name (DW.call D_TParams11L fun _ => DW.ret)
theorem D_all : ∀ pr, DW (body pr)
  | .deeper pr => D_deeper pr
  | .node k pr => D_node k (D_all pr)
  | .takeP => D_takeP
  | .items pr => D_items pr
  | .itemsL pr => D_itemsL pr
  | .X h => D_X h
  | .X1 h => D_X1 h
  | .binary q h => D_binary q h
  | .binaryL q h => D_binaryL q h
  | .unary h => D_unary h
  | .unary1 h => D_unary1 h
  | .primary h => D_primary h
  | .primaryL h => D_primaryL h
  | .period => D_period
  | .index => D_index
  | .unless ks => D_unless ks
  | .indexL => D_indexL
  | .arguments => D_arguments
  | .argsL => D_argsL
  | .value => D_value
  | .value1 => D_value1
  | .values => D_values
  | .valuesL => D_valuesL
  | .operand => D_operand
  | .flat => D_flat
  | .flatL n => D_flatL n
  | .Name => D_Name
  | .List h => D_List h
  | .List1 h => D_List1 h
  | .ListL h => D_ListL h
  | .Type => D_Type
  | .form => D_form
  | .formL => D_formL
  | .elements => D_elements
  | .qualified => D_qualified
  | .field => D_field
  | .fieldL => D_fieldL
  | .element => D_element
  | .union => D_union
  | .unionL more => D_unionL more
  | .Sig => D_Sig
  | .Sig1 => D_Sig1
  | .Params => D_Params
  | .Params1 => D_Params1
  | .ParamsL ns => D_ParamsL ns
  | .entry => D_entry
  | .entry1 => D_entry1
  | .TParams => D_TParams
  | .TParams1 => D_TParams1
  | .TParamsL more => D_TParamsL more
  | .TParams11 => D_TParams11
  | .TParams11L => D_TParams11L
/-- What has failed comes to an end, whatever is asked. -/
theorem dead_ends : ∀ m : M, DW m := by
  intro m
  induction m with
  | ret v => exact DW.ret
  | look f k ih => exact DW.look (ih _)
  | lookB f k ih => exact DW.lookB (ih _)
  | dead k ih => exact DW.deadq (ih _)
  | take k ih => exact DW.take ih
  | none_ k ih => exact DW.none_ ih
  | mark k ih => exact DW.mark ih
  | close hh kd k ih => exact DW.close ih
  | gap hh k ih => exact fun a ms hd hr => Wp.gap hr (by rw [gap_dead hd]; exact ih a ms hd hr)
  | last k ih => exact fun a ms hd hr => Wp.last (ih _ a ms hd hr)
  | down k ih => exact DW.down (ih _)
  | up k ih => exact DW.up ih
  | fail c k ih => exact DW.fail ih
  | lit hh head k ih => exact DW.lit fun c => ih c
  | names ns k ih => exact DW.names ih
  | group ns any k ih => exact DW.group ih
  | call pr hs k ih => exact DW.call (D_all pr) fun r => ih r
end Go.AI.Rd
/- DERIVED. THE READER: steps of a run that has not failed: what the row is behind them, how little it grows. -/
namespace Go.AI.Rd
/-- A node that may be the first part of another. -/
def NG (x : Made) : Prop := 200 ≤ Node.k x.n ∧ litOK x.n = true
def N1 (R row : List Made) : Prop := ∃ tr x, row = R ++ (tr ++ [x]) ∧ tr.all triv = true ∧ NG x
def Op (R row : List Made) : Prop := ∃ tr x more, row = R ++ (tr ++ x :: more) ∧ tr.all triv = true ∧ NG x
def Nt (R row : List Made) : Prop := ∃ new, row = R ++ new ∧ new.any (fun x => !triv x) = true
theorem NG.not_triv {x : Made} (h : NG x) : triv x = false := by unfold triv; have := h.1; simp; omega
theorem N1.op {R row : List Made} (h : N1 R row) : Op R row := by obtain ⟨tr, x, h1, h2, h3⟩ := h; exact ⟨tr, x, [], h1, h2, h3⟩
theorem N1.pre {R row : List Made} (h : N1 R row) : R <+: row := by obtain ⟨tr, x, h1, h2, h3⟩ := h; exact ⟨_, h1.symm⟩
theorem Op.pre {R row : List Made} (h : Op R row) : R <+: row := by obtain ⟨tr, x, m, h1, h2, h3⟩ := h; exact ⟨_, h1.symm⟩
theorem Op.trans {R row row' : List Made} (h : Op R row) (hp : row <+: row') : Op R row' := by
  obtain ⟨tr, x, m, h1, h2, h3⟩ := h
  obtain ⟨n, rfl⟩ := hp
  exact ⟨tr, x, m ++ n, by rw [h1]; simp, h2, h3⟩
theorem N1.nt {R row : List Made} (h : N1 R row) : Nt R row := by
  obtain ⟨tr, x, h1, h2, h3⟩ := h
  exact ⟨_, h1, by simp [h3.not_triv]⟩
theorem Nt.trans {R row row' : List Made} (h : Nt R row) (hp : row <+: row') : Nt R row' := by
  obtain ⟨n, h1, h2⟩ := h
  obtain ⟨m, rfl⟩ := hp
  exact ⟨n ++ m, by rw [h1]; simp, by simp only [List.any_append, h2, Bool.true_or]⟩
theorem Op.nt {R row : List Made} (h : Op R row) : Nt R row := by
  obtain ⟨tr, x, m, h1, h2, h3⟩ := h
  exact ⟨_, h1, by simp [h3.not_triv]⟩
/-- A run ends, within bounds; where it has not failed, so. -/
def Wl (B : Nat) (m : M) (a : A) (ms : List Int) (Q : Int → A → Prop) : Prop := Wp m a ms fun r b => b.row.length + 8 * b.rest.length ≤ B ∧ (b.dead = false → Q r b)
section
variable {B : Nat} {a : A} {ms : List Int} {Q : Int → A → Prop}
theorem Wl.dead (hB : B ≤ 4294967000) {m : M} (hd : a.dead = true) (hb : a.row.length + 8 * a.rest.length ≤ B) : Wl B m a ms Q :=
  (dead_ends m a ms hd (by rw [room_iff]; omega)).mono fun r b hb' => ⟨by rw [hb'.2.2.1, hb'.2.2.2]; exact hb, fun h => absurd h (by rw [hb'.dead hd]; decide)⟩
theorem Wl.mono {m : M} {Q' : Int → A → Prop} (h : Wl B m a ms Q) (hq : ∀ r b, b.dead = false → Q r b → Q' r b) : Wl B m a ms Q' :=
  Wp.mono h fun r b hb => ⟨hb.1, fun hd => hq r b hd (hb.2 hd)⟩
theorem Wl.ret {v : Int} (hb : a.row.length + 8 * a.rest.length ≤ B) (h : Q v a) : Wl B (.ret v) a ms Q := Wp.ret ⟨hb, fun _ => h⟩
theorem Wl.kind {k : Int → M} (h : ∀ x, a.kinds.getD 0 0 = x → Wl B (k x) a ms Q) : Wl B (kind k) a ms Q := h _ rfl
theorem Wl.look {f : List Int → Int} {k : Int → M} (h : ∀ x, f a.kinds = x → Wl B (k x) a ms Q) : Wl B (.look f k) a ms Q := h _ rfl
theorem Wl.lookB {f : List Int → Bool} {k : Bool → M} (h1 : f a.kinds = true → Wl B (k true) a ms Q) (h2 : f a.kinds = false → Wl B (k false) a ms Q) : Wl B (.lookB f k) a ms Q := by
  refine Wp.lookB ?_
  cases hc : f a.kinds with
  | true => exact h1 hc
  | false => exact h2 hc
theorem comesF_ne {ks l : List Int} (h : comesF ks l = true) : l.getD 0 0 ≠ 0 := by
  unfold comesF at h; simp only [Bool.and_eq_true, decide_eq_true_eq] at h; exact h.1
theorem comesF_mem {ks l : List Int} (h : comesF ks l = true) : l.getD 0 0 ∈ ks := by
  unfold comesF at h; simp only [Bool.and_eq_true, List.contains_iff_mem] at h; exact h.2
theorem comesF_of {ks l : List Int} (h : l.getD 0 0 ∈ ks) (h0 : l.getD 0 0 ≠ 0) : comesF ks l = true := by
  unfold comesF; simp only [Bool.and_eq_true, decide_eq_true_eq, List.contains_iff_mem]; exact ⟨h0, h⟩
theorem Wl.comes {ks : List Int} {k : Bool → M} (h1 : comesF ks a.kinds = true → a.kinds.getD 0 0 ≠ 0 → Wl B (k true) a ms Q) (h2 : comesF ks a.kinds = false → Wl B (k false) a ms Q) : Wl B (comes ks k) a ms Q :=
  Wl.lookB (fun hc => h1 hc (comesF_ne hc)) h2
theorem Wl.deadq {k : Bool → M} (hd : a.dead = false) (h : Wl B (k false) a ms Q) : Wl B (.dead k) a ms Q := Wp.deadq (by rw [hd]; exact h)
theorem Wl.mark {k : M} (hr : ms.length < 4294967264) (h : Wl B k a (ms ++ [(a.row.length : Int)]) Q) : Wl B (.mark k) a ms Q := Wp.mark (.inr hr) h
theorem Wl.fail (hB : B ≤ 4294967000) {c : Int} {k : M} (hb : a.row.length + 8 * a.rest.length ≤ B) : Wl B (.fail c k) a ms Q := by
  refine Wp.fail (Wl.dead hB (fail_dead' c) ?_)
  obtain ⟨h1, h2, h3, h4⟩ := fail_dg (a := a) c
  rw [h2, h3]; exact hb
theorem take_live (hd : a.dead = false) (hk : a.kinds.getD 0 0 ≠ 0) : a.take.dead = false ∧ a.take.opn = a.opn ∧ a.row <+: a.take.row ∧ a.take.rest.length + 1 ≤ a.rest.length ∧ a.take.row.length + 8 * a.take.rest.length + 7 ≤ a.row.length + 8 * a.rest.length := by
  have hlt := take_lt hk
  have hg : a.dg = none := by unfold A.dead at hd; cases hx : a.dg with | none => rfl | some d => rw [hx] at hd; cases hd
  unfold A.kinds at hk; rw [hg] at hk
  unfold A.take at hlt ⊢
  rw [hg] at hlt ⊢
  cases hc : cutSig a.rest with
  | none => simp only [cutSig_none hc] at hk; exact absurd rfl hk
  | some x =>
    obtain ⟨s, t, r⟩ := x
    obtain ⟨h1, _, _⟩ := cutSig_some hc
    refine ⟨?_, rfl, ⟨_, rfl⟩, ?_, ?_⟩
    · unfold A.dead; simp only [hg]; rfl
    · simp only [h1, List.length_append, List.length_cons]; omega
    · simp only [h1, List.length_append, List.length_cons, List.length_map, List.length_nil]; omega
theorem Wl.take {k : M} (hB : B ≤ 4294967000) (hd : a.dead = false) (hb : a.row.length + 8 * a.rest.length ≤ B) (hk : a.kinds.getD 0 0 ≠ 0)
    (h : ∀ b, b.dead = false → b.opn = a.opn → a.row <+: b.row → b.rest.length + 1 ≤ a.rest.length → b.row.length + 8 * b.rest.length + 7 ≤ a.row.length + 8 * a.rest.length → Wl B k b ms Q) : Wl B (.take k) a ms Q := by
  obtain ⟨h1, h2, h3, h4, h5⟩ := take_live hd hk
  exact Wp.take (by rw [room_iff]; omega) (h _ h1 h2 h3 h4 h5)
theorem Wl.taken {ks : List Int} {k : Bool → M} (hB : B ≤ 4294967000) (hd : a.dead = false) (hb : a.row.length + 8 * a.rest.length ≤ B)
    (h1 : ∀ b, b.dead = false → b.opn = a.opn → a.row <+: b.row → b.rest.length + 1 ≤ a.rest.length → b.row.length + 8 * b.rest.length + 7 ≤ a.row.length + 8 * a.rest.length → Wl B (k true) b ms Q)
    (h2 : comesF ks a.kinds = false → Wl B (k false) a ms Q) : Wl B (taken ks k) a ms Q :=
  Wl.comes (fun hc hk => Wl.take hB hd hb hk h1) h2
theorem Wl.expect {c : Int} {k : M} (hc : c ≠ 0) (hB : B ≤ 4294967000) (hd : a.dead = false) (hb : a.row.length + 8 * a.rest.length ≤ B)
    (h : ∀ b, b.dead = false → b.opn = a.opn → a.row <+: b.row → b.rest.length + 1 ≤ a.rest.length → b.row.length + 8 * b.rest.length + 7 ≤ a.row.length + 8 * a.rest.length → Wl B k b ms Q) : Wl B (expect c k) a ms Q := by
  refine Wl.kind fun x hx => ?_
  split
  · rename_i hc'; exact Wl.take hB hd hb (by rw [hx, hc']; exact hc) h
  · exact Wl.fail hB hb
theorem Wl.ite {c : Prop} [Decidable c] {m1 m2 : M} (h1 : c → Wl B m1 a ms Q) (h2 : ¬ c → Wl B m2 a ms Q) : Wl B (if c then m1 else m2) a ms Q := by
  split
  · exact h1 ‹_›
  · exact h2 ‹_›
theorem none_live (hd : a.dead = false) : a.none_.dead = false ∧ a.none_.opn = a.opn ∧ a.none_.rest = a.rest ∧ N1 a.row a.none_.row ∧ a.none_.row.length = a.row.length + 1 ∧ a.none_.kinds = a.kinds := by
  have hg : a.dg = none := by unfold A.dead at hd; cases hx : a.dg with | none => rfl | some d => rw [hx] at hd; cases hd
  unfold A.none_
  rw [hg]
  refine ⟨?_, rfl, rfl, ⟨[], ⟨.mk 200 a.here a.here [], 0⟩, by simp, rfl, ?_⟩, by simp, ?_⟩
  · rfl
  · exact ⟨by show (200 : Int) ≤ 200; omega, by simp [Rd.litOK, Node.k]⟩
  · unfold A.kinds; rw [hg]
theorem Wl.none_ {k : M} (hB : B ≤ 4294967000) (hd : a.dead = false) (hb : a.row.length + 8 * a.rest.length ≤ B)
    (h : ∀ b, b.dead = false → b.opn = a.opn → b.rest.length = a.rest.length → N1 a.row b.row → b.row.length = a.row.length + 1 → Wl B k b ms Q) : Wl B (.none_ k) a ms Q := by
  obtain ⟨h1, h2, h3, h4, h5, _⟩ := none_live hd
  exact Wp.none_ (by rw [room_iff]; omega) (h _ h1 h2 (by rw [h3]) h4 h5)
theorem litOK_nodeOf (kd hr : Int) (kids : List Made) (h : (kd ≠ 207 ∧ kd ≠ 208) ∨ ∃ x more, kids = x :: more ∧ NG x) : Rd.litOK (nodeOf kd hr kids).n = true := by
  unfold Rd.litOK nodeOf
  rcases h with h | ⟨x, more, rfl, hx, hl⟩
  · simp [Node.k, h.1, h.2]
  · unfold Rd.litOK at hl
    simp only [Bool.and_eq_true] at hl ⊢
    refine ⟨?_, ?_⟩
    · simp only [part0, Node.kids, List.map_cons, Bool.or_eq_true]; right; exact decide_eq_true hx
    · simp only [part0, Node.k, Node.kids, List.map_cons, List.getD_cons_zero, Bool.or_eq_true, Bool.and_eq_true, decide_eq_true_eq]
      right
      refine ⟨decide_eq_true hx, ?_⟩
      have := hl.1
      simp only [Bool.or_eq_true, decide_eq_true_eq] at this
      exact this
theorem dropTriv {tr : List Made} {x : Made} {more : List Made} (ht : tr.all triv = true) (hx : triv x = false) : (tr ++ x :: more).dropWhile triv = x :: more ∧ (tr ++ x :: more).takeWhile triv = tr := by
  have h : ∀ y ∈ tr, triv y = true := by simpa using ht
  refine ⟨?_, ?_⟩
  · rw [List.dropWhile_append_of_pos h, List.dropWhile_cons_of_neg (by rw [hx]; decide)]
  · rw [List.takeWhile_append_of_pos h, List.takeWhile_cons_of_neg (by rw [hx]; decide), List.append_nil]
theorem clamp_prefix {R : List Made} (hp : R <+: a.row) : a.clamp (R.length : Int) = R.length := by
  have := hp.length_le
  unfold A.clamp; omega
theorem Wl.close {hh : Nat} {kd : Int} {k : M} {R : List Made} (hm : ms.getD hh 0 = (R.length : Int)) (hB : B ≤ 4294967000) (hd : a.dead = false) (hb : a.row.length + 8 * a.rest.length + 1 ≤ B) (hp : R <+: a.row) (hk : 200 ≤ kd ∧ ((kd ≠ 207 ∧ kd ≠ 208) ∨ Op R a.row))
    (h : ∀ b, b.dead = false → b.opn = a.opn → b.rest.length = a.rest.length → N1 R b.row → b.row.length ≤ a.row.length + 1 → Wl B k b ms Q) : Wl B (.close hh kd k) a ms Q := by
  have hg : a.dg = none := by unfold A.dead at hd; cases hx : a.dg with | none => rfl | some d => rw [hx] at hd; cases hd
  refine Wp.close (by rw [room_iff]; omega) ?_
  rw [hm]
  obtain ⟨h1, h2, h3, h4⟩ := close_row hg (R.length : Int) kd
  rw [clamp_prefix hp] at h1
  obtain ⟨new, hn⟩ := hp
  have ht : a.row.take R.length = R := by rw [← hn]; simp
  have hdr : a.row.drop R.length = new := by rw [← hn]; simp
  rw [ht, hdr] at h1
  have hl : (a.close (R.length : Int) kd).row.length ≤ a.row.length + 1 := by
    rw [h1, ← hn]
    simp only [List.length_append, List.length_singleton]
    have := List.takeWhile_prefix (l := new) triv |>.length_le
    omega
  cases hdd : (a.close (R.length : Int) kd).dead with
  | true => exact Wl.dead hB hdd (by rw [h3]; omega)
  | false =>
    refine h _ hdd h4 (by rw [h3]) ⟨_, _, h1, ?_, ?_⟩ hl
    · clear h1 hdr hn hl
      induction new with
      | nil => rfl
      | cons y r ih =>
        by_cases hy : triv y = true
        · rw [List.takeWhile_cons_of_pos hy]; simp [hy]
        · rw [List.takeWhile_cons_of_neg hy]; rfl
    · unfold A.closed
      refine ⟨hk.1, litOK_nodeOf _ _ _ (hk.2.imp id fun ho => ?_)⟩
      obtain ⟨tr, x, more, e1, e2, e3⟩ := ho
      have : new = tr ++ x :: more := by rw [← hn] at e1; exact List.append_cancel_left e1
      rw [hdr, this]
      exact ⟨x, more, (dropTriv e2 e3.not_triv).1, e3⟩
theorem Wl.lit {hh : Nat} {head : Bool} {k : Bool → M} {R : List Made} (hm : ms.getD hh 0 = (R.length : Int)) (hn : Op R a.row) (h : ∀ c, Wl B (k c) a ms Q) : Wl B (.lit hh head k) a ms Q := by
  refine Wp.lit (.inr ?_) (h _)
  rw [hm]
  obtain ⟨tr, x, more, e1, e2, e3⟩ := hn
  unfold A.litOK A.first
  have : (a.row.drop ((R.length : Int)).toNat).find? (fun x => !triv x) = some x := by
    rw [e1]
    simp only [Int.toNat_natCast, List.drop_left']
    have ht : tr.find? (fun x => !triv x) = none := by simpa using e2
    rw [List.find?_append, ht]
    simp [e3.not_triv]
  rw [this]
  simp [e3.2]
theorem Wl.tt {m1 m2 : M} (h : Wl B m1 a ms Q) : Wl B (if true = true then m1 else m2) a ms Q := h
theorem Wl.ff {m1 m2 : M} (h : Wl B m2 a ms Q) : Wl B (if false = true then m1 else m2) a ms Q := h
theorem Wl.down {k : Bool → M} (hB : B ≤ 4294967000) (hd : a.dead = false) (hb : a.row.length + 8 * a.rest.length ≤ B) (h1 : a.opn ≠ 100 → Wl B (k true) { a with opn := a.opn + 1 } ms Q) : Wl B (.down k) a ms Q := by
  have hg : a.dg = none := by unfold A.dead at hd; cases hx : a.dg with | none => rfl | some d => rw [hx] at hd; cases hd
  refine Wp.down ?_
  unfold A.down
  rw [hg]
  simp only
  split
  · refine Wl.dead hB (fail_dead' 202) ?_
    obtain ⟨h1, h2, h3, h4⟩ := fail_dg (a := a) 202
    simp only [h2, h3]; exact hb
  · rename_i hc
    have h := h1 hc
    rw [hg] at h
    exact h
theorem Wl.up {k : M} (h : Wl B k a.up ms Q) : Wl B (.up k) a ms Q := h
theorem Wl.call {pr : Proc} {hs : List Nat} {k : Int → M} {Q1 : Int → A → Prop} (h : Wl B (body pr) a (hs.map fun h => ms.getD h 0) Q1) (hB : B ≤ 4294967000) (hk : ∀ r b, b.dead = false → Q1 r b → Wl B (k r) b ms Q) : Wl B (.call pr hs k) a ms Q := by
  refine Wp.call (Wp.mono h fun r b hb => ?_)
  cases hd : b.dead with
  | true => exact Wl.dead hB hd hb.1
  | false => exact hk r b hd (hb.2 hd)
/-! ### Entries -/
theorem entsOK_ext {row : List Made} (new : List Made) : ∀ {l : List Ent} {m : Int}, 0 ≤ m → entsOK row m l = true → entsOK (row ++ new) m l = true
  | [], m, _, h => by simp only [entsOK, decide_eq_true_eq, List.length_append] at h ⊢; omega
  | e :: r, m, hm, h => by
    simp only [entsOK, Bool.and_eq_true, decide_eq_true_eq] at h ⊢
    obtain ⟨h1, h2, h3, h4⟩ := h
    have := entsOK_le h4
    refine ⟨h1, h2, ?_, entsOK_ext new (by omega) h4⟩
    rw [List.take_append_of_le_length (by omega)]; exact h3
theorem entsOK_snoc {row new : List Made} (hn : new.any (fun x => !triv x) = true) (b : Bool) : ∀ {l : List Ent} {m : Int}, 0 ≤ m → entsOK row m l = true → entsOK (row ++ new) m (l ++ [⟨(row.length : Int), ((row ++ new).length : Int), b⟩]) = true
  | [], m, _, h => by
    simp only [entsOK, decide_eq_true_eq] at h
    simp only [List.nil_append, entsOK, Bool.and_eq_true, decide_eq_true_eq, List.length_append]
    refine ⟨h, by omega, ?_, by omega⟩
    rw [show (((row.length + new.length : Nat) : Int)).toNat = row.length + new.length by omega, Int.toNat_natCast, List.take_of_length_le (by simp), List.drop_left']
    · exact hn
    · rfl
  | e :: r, m, hm, h => by
    simp only [entsOK, Bool.and_eq_true, decide_eq_true_eq] at h
    simp only [List.cons_append, entsOK, Bool.and_eq_true, decide_eq_true_eq]
    obtain ⟨h1, h2, h3, h4⟩ := h
    have := entsOK_le h4
    refine ⟨h1, h2, ?_, entsOK_snoc hn b (by omega) h4⟩
    rw [List.take_append_of_le_length (by omega)]; exact h3
theorem entsOK_ge {row : List Made} : ∀ {l : List Ent} {m : Int}, entsOK row m l = true → ∀ e ∈ l, m ≤ e.from_ ∧ m ≤ e.to_
  | [], m, _, e, he => by cases he
  | x :: r, m, h, e, he => by
    simp only [entsOK, Bool.and_eq_true, decide_eq_true_eq] at h
    obtain ⟨h1, h2, h3, h4⟩ := h
    rcases List.mem_cons.1 he with rfl | he
    · omega
    · have := entsOK_ge h4 e he; omega
theorem entsOf_snocT : ∀ {ns : List Bool} {ms : List Int} (f t : Int) (b : Bool), ms.length = 2 * ns.length → entsOf (ms ++ [f, t]) (ns ++ [b]) = entsOf ms ns ++ [⟨f, t, b⟩]
  | [], [], f, t, b, _ => rfl
  | [], _ :: _, f, t, b, h => by simp at h
  | n :: ns, [], f, t, b, h => by simp at h
  | n :: ns, [_], f, t, b, h => by simp at h; omega
  | n :: ns, x :: y :: ms, f, t, b, h => by
    simp only [List.cons_append, entsOf]
    rw [entsOf_snocT f t b (by simp at h; omega)]
theorem backG_mem (any : Bool) : ∀ (l : List Ent) (t f : Int) (g : Int × Int), g ∈ backG any t f l → (g.1 = f ∨ ∃ e ∈ l, g.1 = e.from_) ∧ (g.2 = t ∨ ∃ e ∈ l, g.2 = e.to_)
  | [], t, f, g, h => by
    simp only [backG, List.mem_singleton] at h; subst h; exact ⟨.inl rfl, .inl rfl⟩
  | x :: r, t, f, g, h => by
    simp only [backG] at h
    split at h
    · obtain ⟨h1, h2⟩ := backG_mem any r t x.from_ g h
      refine ⟨.inr ?_, h2.imp id fun ⟨e, he, h⟩ => ⟨e, List.mem_cons_of_mem _ he, h⟩⟩
      rcases h1 with h1 | ⟨e, he, h1⟩
      · exact ⟨x, List.mem_cons_self, h1⟩
      · exact ⟨e, List.mem_cons_of_mem _ he, h1⟩
    · rcases List.mem_cons.1 h with rfl | h
      · exact ⟨.inl rfl, .inl rfl⟩
      · obtain ⟨h1, h2⟩ := backG_mem any r x.to_ x.from_ g h
        refine ⟨.inr ?_, .inr ?_⟩
        · rcases h1 with h1 | ⟨e, he, h1⟩
          · exact ⟨x, List.mem_cons_self, h1⟩
          · exact ⟨e, List.mem_cons_of_mem _ he, h1⟩
        · rcases h2 with h2 | ⟨e, he, h2⟩
          · exact ⟨x, List.mem_cons_self, h2⟩
          · exact ⟨e, List.mem_cons_of_mem _ he, h2⟩
theorem backG_len (any : Bool) : ∀ (l : List Ent) (t f : Int), (backG any t f l).length ≤ l.length + 1
  | [], t, f => by simp [backG]
  | x :: r, t, f => by
    simp only [backG]
    split
    · have := backG_len any r t x.from_; simp only [List.length_cons]; omega
    · have := backG_len any r x.to_ x.from_; simp only [List.length_cons]; omega
theorem backGroups_mem {any : Bool} {l : List Ent} {g : Int × Int} (h : g ∈ backGroups any l) : (∃ e ∈ l, g.1 = e.from_) ∧ (∃ e ∈ l, g.2 = e.to_) := by
  cases l with
  | nil => simp [backGroups] at h
  | cons x r =>
    simp only [backGroups] at h
    obtain ⟨h1, h2⟩ := backG_mem any r _ _ _ h
    refine ⟨?_, ?_⟩
    · rcases h1 with h1 | ⟨e, he, h1⟩
      · exact ⟨x, List.mem_cons_self, h1⟩
      · exact ⟨e, List.mem_cons_of_mem _ he, h1⟩
    · rcases h2 with h2 | ⟨e, he, h2⟩
      · exact ⟨x, List.mem_cons_self, h2⟩
      · exact ⟨e, List.mem_cons_of_mem _ he, h2⟩
theorem backGroups_len (any : Bool) (l : List Ent) : (backGroups any l).length ≤ l.length := by
  cases l with
  | nil => simp [backGroups]
  | cons x r => simp only [backGroups, List.length_cons]; exact backG_len any r _ _
theorem close_opn (m k : Int) : (a.close m k).opn = a.opn := by
  cases hd : a.dg with
  | none => exact (close_row hd m k).2.2.2
  | some d => rw [close_dead (by unfold A.dead; rw [hd]; rfl)]
theorem close_len (m k : Int) : (a.close m k).row.length ≤ a.row.length + 1 := by
  cases hd : a.dg with
  | none =>
    rw [(close_row hd m k).1]
    simp only [List.length_append, List.length_singleton, List.length_take]
    have := List.takeWhile_prefix (l := a.row.drop (a.clamp m)) triv |>.length_le
    simp only [List.length_drop] at this
    omega
  | some d => rw [close_dead (by unfold A.dead; rw [hd]; rfl)]; omega
theorem close_pre {R : List Made} (hp : R <+: a.row) {m : Int} (hm : (R.length : Int) ≤ m) (k : Int) : R <+: (a.close m k).row := by
  cases hd : a.dg with
  | none =>
    rw [(close_row hd m k).1]
    refine List.IsPrefix.trans ?_ (List.prefix_append _ _)
    refine List.prefix_take_iff.2 ⟨hp, ?_⟩
    have := hp.length_le
    unfold A.clamp; omega
  | some d => rw [close_dead (by unfold A.dead; rw [hd]; rfl)]; exact hp
theorem group1_facts (g : Int × Int) : (A.group1 g a).rest = a.rest ∧ (A.group1 g a).opn = a.opn ∧ (A.group1 g a).row.length ≤ a.row.length + 1 ∧ (∀ R : List Made, R <+: a.row → (R.length : Int) ≤ g.1 → (R.length : Int) ≤ g.2 → R <+: (A.group1 g a).row) := by
  unfold A.group1
  refine ⟨close_rest _ _, close_opn _ _, ?_, fun R hp h1 h2 => ?_⟩
  · have := close_len (a := { a with row := a.row.take g.2.toNat }) g.1 233
    simp only [List.length_append, List.length_drop, List.length_take] at this ⊢
    omega
  · refine List.IsPrefix.trans (close_pre ?_ h1 233) (List.prefix_append _ _)
    exact List.prefix_take_iff.2 ⟨hp, by omega⟩
theorem groups_facts : ∀ (gs : List (Int × Int)) (a : A), (gs.foldl (fun b g => A.group1 g b) a).rest = a.rest ∧ (gs.foldl (fun b g => A.group1 g b) a).opn = a.opn ∧ (gs.foldl (fun b g => A.group1 g b) a).row.length ≤ a.row.length + gs.length ∧ (∀ R : List Made, R <+: a.row → (∀ g ∈ gs, (R.length : Int) ≤ g.1 ∧ (R.length : Int) ≤ g.2) → R <+: (gs.foldl (fun b g => A.group1 g b) a).row)
  | [], a => ⟨rfl, rfl, Nat.le_refl _, fun R hp _ => hp⟩
  | g :: gs, a => by
    obtain ⟨h1, h2, h3, h4⟩ := group1_facts (a := a) g
    obtain ⟨i1, i2, i3, i4⟩ := groups_facts gs (A.group1 g a)
    simp only [List.foldl_cons, List.length_cons]
    refine ⟨i1.trans h1, i2.trans h2, by omega, fun R hp hg => ?_⟩
    obtain ⟨g1, g2⟩ := hg g List.mem_cons_self
    exact i4 R (h4 R hp g1 g2) fun x hx => hg x (List.mem_cons_of_mem _ hx)
theorem group_facts (any : Bool) (l : List Ent) : (a.group any l).rest = a.rest ∧ (a.group any l).opn = a.opn ∧ (a.group any l).row.length ≤ a.row.length + l.length ∧ (∀ R : List Made, R <+: a.row → entsOK a.row R.length l = true → R <+: (a.group any l).row) := by
  unfold A.group
  split
  · exact ⟨rfl, rfl, Nat.le_add_right _ _, fun R hp _ => hp⟩
  · obtain ⟨h1, h2, h3, h4⟩ := groups_facts (backGroups any l.reverse) a
    refine ⟨h1, h2, ?_, fun R hp ho => h4 R hp fun g hg => ?_⟩
    · have := backGroups_len any l.reverse
      rw [List.length_reverse] at this
      omega
    · obtain ⟨⟨e, he, e1⟩, ⟨f, hf, f1⟩⟩ := backGroups_mem hg
      have x1 := entsOK_ge ho e (List.mem_reverse.1 he)
      have x2 := entsOK_ge ho f (List.mem_reverse.1 hf)
      omega
theorem Wl.group {ns : List Bool} {any : Bool} {k : M} (hB : B ≤ 4294967000) (hd : a.dead = false) (hb : a.row.length + 8 * a.rest.length + ns.length ≤ B) (he : entsOK a.row 0 (entsOf ms ns) = true)
    (h : ∀ b, b.dead = false → b.opn = a.opn → b.rest.length = a.rest.length → b.row.length ≤ a.row.length + ns.length → (∀ R : List Made, R <+: a.row → entsOK a.row R.length (entsOf ms ns) = true → R <+: b.row) → Wl B k b ms Q) : Wl B (.group ns any k) a ms Q := by
  obtain ⟨h1, h2, h3, h4⟩ := group_facts (a := a) any (entsOf ms ns)
  have := entsOf_length ms ns
  refine Wp.group (.inr ⟨by omega, by rw [room_iff]; omega, he⟩) ?_
  cases hdd : (a.group any (entsOf ms ns)).dead with
  | true => exact Wl.dead hB hdd (by rw [h1]; omega)
  | false => exact h _ hdd h2 (by rw [h1]) (by omega) h4
theorem Wl.names {ns : List Bool} {k : M} (hB : B ≤ 4294967000) (hd : a.dead = false) (hb : a.row.length + 8 * a.rest.length + ns.length ≤ B) (he : entsOK a.row 0 (entsOf ms ns) = true) (h : Wl B k a ms Q) : Wl B (.names ns k) a ms Q := by
  refine Wp.names (.inr ⟨by omega, he⟩) ?_
  unfold A.names
  split
  · refine Wl.dead hB (fail_dead' 201) ?_
    obtain ⟨h1, h2, h3, h4⟩ := fail_dg (a := a) 201
    rw [h2, h3]; omega
  · exact h
theorem range_mapT : ∀ (ms : List Int), (List.range ms.length).map (fun h => ms.getD h 0) = ms := by
  intro ms
  apply List.ext_getElem
  · simp
  · intro i h1 h2
    simp at h1
    simp [h1]
end
end Go.AI.Rd
/- DERIVED. THE READER: every procedure comes to an end, and adds little. -/
namespace Go.AI.Rd
def rank : Proc → Nat
  | .deeper _ => 1 | .node _ pr => rank pr + 1 | .takeP => 0 | .items _ => 0 | .itemsL pr => rank pr + 1
  | .X _ => 2 | .X1 _ => 7 | .binary _ _ => 6 | .binaryL _ _ => 0 | .unary _ => 5 | .unary1 _ => 6 | .primary _ => 4 | .primaryL _ => 1
  | .period => 3 | .index => 4 | .unless _ => 3 | .indexL => 0 | .arguments => 4 | .argsL => 3 | .value => 3 | .value1 => 2 | .values => 0 | .valuesL => 4 | .operand => 3 | .flat => 1 | .flatL _ => 0
  | .Name => 2 | .List _ => 5 | .List1 _ => 3 | .ListL _ => 0 | .Type => 2 | .form => 4 | .formL => 0 | .elements => 3 | .qualified => 3 | .field => 4 | .fieldL => 3 | .element => 5 | .union => 4 | .unionL _ => 3
  | .Sig => 5 | .Sig1 => 3 | .Params => 2 | .Params1 => 0 | .ParamsL _ => 4 | .entry => 3 | .entry1 => 0 | .TParams => 2 | .TParams1 => 0 | .TParamsL _ => 5 | .TParams11 => 3 | .TParams11L => 5
def gain : Proc → Nat
  | .deeper pr => gain pr | .node _ pr => gain pr - 1 | .takeP => 7 | .items _ => 7
  | .X _ => 6 | .X1 _ => 6 | .binary _ _ => 6 | .unary _ => 6 | .unary1 _ => 6 | .primary _ => 6 | .period => 6 | .value => 6 | .value1 => 6 | .values => 7 | .operand => 6 | .flat => 7 | .flatL _ => 7
  | .Name => 6 | .List _ => 5 | .List1 _ => 6 | .Type => 6 | .form => 6 | .elements => 6 | .qualified => 6 | .field => 5 | .element => 4 | .union => 5 | .unionL _ => 5
  | .Sig => 11 | .Sig1 => 12 | .Params => 13 | .Params1 => 14 | .ParamsL _ => 7 | .entry => 6 | .entry1 => 13 | .TParams => 6 | .TParams1 => 7 | .TParams11 => 6
  | _ => 0
def loss : Proc → Nat
  | .index => 1 | .unless _ => 1 | .ParamsL ns => ns.length | _ => 0
def slack : Proc → Nat
  | .index => 6 | .ParamsL ns => ns.length + 3 | _ => 3
def dr : Proc → Nat
  | .deeper pr => dr pr | .node _ pr => dr pr
  | .itemsL _ | .binaryL _ _ | .primaryL _ | .index | .unless _ | .indexL | .arguments | .argsL | .valuesL | .ListL _ | .formL | .fieldL | .ParamsL _ | .TParamsL _ | .TParams11L => 0
  | _ => 1
def mu (pr : Proc) (a : A) : Nat := a.rest.length * 6464 + (100 - a.opn).toNat * 64 + rank pr
/-- What stands behind 'deeper', in a node, among items. -/
def dIn : Proc → Prop
  | .X1 _ | .unary1 _ | .value1 | .form => True
  | _ => False
def nIn : Proc → Prop
  | .takeP | .values | .flat | .Sig1 | .Params1 | .entry1 | .List1 _ | .TParams1 | .TParams11 => True
  | _ => False
def iIn : Proc → Prop
  | .field | .element => True
  | _ => False
def Pre' : Proc → A → List Int → Prop
  | .takeP, a, _ => a.kinds.getD 0 0 ≠ 0
  | .node k pr, a, ms => 200 ≤ k ∧ k ≠ 207 ∧ k ≠ 208 ∧ nIn pr ∧ ms = [] ∧ (pr = .takeP ∨ pr = .entry1 → a.kinds.getD 0 0 ≠ 0)
  | .entry1, a, ms => a.kinds.getD 0 0 ≠ 0
  | .deeper pr, a, ms => dIn pr ∧ ms = []
  | .items pr, a, ms => iIn pr ∧ ms = []
  | .itemsL pr, a, ms => iIn pr ∧ ms = []
  | .primaryL _, a, ms => ∃ R : List Made, ms = [(R.length : Int)] ∧ N1 R a.row
  | .binaryL _ _, a, ms => ∃ R : List Made, ms = [(R.length : Int)] ∧ N1 R a.row
  | .formL, a, ms => ∃ R : List Made, ms = [(R.length : Int)] ∧ Op R a.row
  | .fieldL, a, ms => ∃ R : List Made, ms = [(R.length : Int)] ∧ R <+: a.row
  | .ParamsL ns, a, ms => ms.length = 2 * ns.length ∧ entsOK a.row 0 (entsOf ms ns) = true ∧ 2 * ns.length + 2 * a.rest.length + 4 ≤ 4294967264
  | _, _, ms => ms = []
def Shape : Proc → A → List Int → Int → A → Prop
  | .takeP, a, _, _, b => a.row <+: b.row
  | .items _, a, _, _, b => a.row <+: b.row
  | .itemsL _, a, _, _, b => a.row <+: b.row
  | .period, a, _, r, b => a.row <+: b.row ∧ 200 ≤ r
  | .index, a, _, r, b => a.row <+: b.row ∧ 200 ≤ r
  | .indexL, a, _, r, b => a.row <+: b.row ∧ 200 ≤ r
  | .elements, a, _, r, b => a.row <+: b.row ∧ (r = 220 ∨ r = 221)
  | .unless _, a, _, _, b => a.row <+: b.row
  | .arguments, a, _, _, b => a.row <+: b.row
  | .argsL, a, _, _, b => a.row <+: b.row
  | .values, a, _, _, b => a.row <+: b.row
  | .valuesL, a, _, _, b => a.row <+: b.row
  | .flat, a, _, _, b => a.row <+: b.row
  | .flatL _, a, _, _, b => a.row <+: b.row
  | .List1 _, a, _, _, b => a.row <+: b.row
  | .ListL _, a, _, _, b => a.row <+: b.row
  | .union, a, _, _, b => a.row <+: b.row
  | .unionL _, a, _, _, b => a.row <+: b.row
  | .Sig1, a, _, _, b => a.row <+: b.row
  | .Params1, a, _, _, b => a.row <+: b.row
  | .entry1, a, _, _, b => a.row <+: b.row
  | .TParams1, a, _, _, b => a.row <+: b.row
  | .TParamsL _, a, _, _, b => a.row <+: b.row
  | .TParams11, a, _, _, b => a.row <+: b.row
  | .TParams11L, a, _, _, b => a.row <+: b.row
  | .binaryL _ _, a, ms, _, b => ∀ R : List Made, ms = [(R.length : Int)] → R <+: a.row → N1 R b.row
  | .primaryL _, a, ms, _, b => ∀ R : List Made, ms = [(R.length : Int)] → R <+: a.row → N1 R b.row
  | .formL, a, ms, _, b => ∀ R : List Made, ms = [(R.length : Int)] → R <+: a.row → N1 R b.row
  | .fieldL, a, ms, _, b => ∀ R : List Made, ms = [(R.length : Int)] → R <+: a.row → N1 R b.row
  | .entry, a, _, _, b => Nt a.row b.row
  | .ParamsL ns, a, ms, _, b => ∀ R : List Made, R <+: a.row → entsOK a.row R.length (entsOf ms ns) = true → R <+: b.row
  | _, a, _, _, b => N1 a.row b.row
structure Po (d g l : Nat) (S : Prop) (a b : A) : Prop where
  opn : b.opn = a.opn
  rest : b.rest.length + d ≤ a.rest.length
  phi : b.row.length + 8 * b.rest.length + g ≤ a.row.length + 8 * a.rest.length + l
  shape : S
structure PreT (B : Nat) (pr : Proc) (a : A) (ms : List Int) : Prop where
  live : a.dead = false
  opn0 : 0 ≤ a.opn
  opn1 : a.opn ≤ 100
  phi : a.row.length + 8 * a.rest.length + slack pr ≤ B
  pre : Pre' pr a ms
abbrev PostT (pr : Proc) (a : A) (ms : List Int) (r : Int) (b : A) : Prop := Po (dr pr) (gain pr) (loss pr) (Shape pr a ms r b) a b
def IHT (B N : Nat) : Prop := ∀ pr a ms, mu pr a < N → PreT B pr a ms → Wl B (body pr) a ms (PostT pr a ms)
theorem pre_eq {R R' l : List Made} (h : R <+: l) (h' : R' <+: l) (hl : R.length = R'.length) : R = R' := by
  obtain ⟨x, rfl⟩ := h
  obtain ⟨y, hy⟩ := h'
  exact (List.append_inj_left hy hl.symm).symm
theorem shapeR {R : List Made} {a b : A} (hp : R <+: a.row) (h : N1 R b.row) : ∀ R' : List Made, [(R.length : Int)] = [(R'.length : Int)] → R' <+: a.row → N1 R' b.row := by
  intro R' hl hp'
  have : R.length = R'.length := by have := (List.cons.inj hl).1; omega
  rw [← pre_eq hp hp' this]; exact h
section
variable {B : Nat} {a : A} {ms : List Int}
theorem t_takeP (hB : B ≤ 4294967000) (hpre : PreT B .takeP a ms) : Wl B (body .takeP) a ms (PostT .takeP a ms) := by
  obtain ⟨hd, h0, h1, hphi, hk⟩ := hpre
  simp only [slack] at hphi
  simp only [Pre'] at hk
  have hp := List.prefix_rfl (l := a.row)
  simp only [body, go, done, primM, itemsM, unaryM, valuesM, elemsM, entryM, List.map_nil]
  repeat' (first | with_reducible refine Wl.tt ?_ | with_reducible refine Wl.ff ?_ | ((with_reducible refine Wl.ret (by omega) ⟨by omega, by (try simp only [dr]); omega, by (try simp only [gain, loss]); omega, ?_⟩); (try simp only [Shape]); first | assumption | exact List.prefix_rfl | exact hs.nt | exact hop.nt | (refine ⟨by assumption, ?_⟩; first | omega | (simp; done))) | with_reducible refine Wl.kind (fun x hx => ?_) | ((with_reducible refine Wl.taken hB (by assumption) (by omega) (fun b hd ho hq hr hn => ?_) (fun hc => ?_)) <;> ((try replace hop := hop.trans hq); (try replace hp := hp.trans hq))) | ((with_reducible refine Wl.expect (by decide) hB (by assumption) (by omega) (fun b hd ho hq hr hn => ?_)); ((try replace hop := hop.trans hq); (try replace hp := hp.trans hq))) | ((with_reducible refine Wl.take hB (by assumption) (by omega) (by first | assumption | omega) (fun b hd ho hq hr hn => ?_)); ((try replace hop := hop.trans hq); (try replace hp := hp.trans hq))) | with_reducible refine Wl.comes (fun hc hk => ?_) (fun hc => ?_) | with_reducible refine Wl.lookB (fun hc => ?_) (fun hc => ?_) | with_reducible refine Wl.deadq (by assumption) ?_ | with_reducible refine Wl.fail hB (by omega) | ((with_reducible refine Wl.none_ hB (by assumption) (by omega) (fun b hd ho hr hq hn => ?_)); (try replace hop := hop.trans hq.pre); (try replace hp := hp.trans hq.pre)) | ((refine Wl.close (by rfl) hB (by assumption) (by omega) (by assumption) ⟨by omega, by first | exact Or.inl ⟨by omega, by omega⟩ | exact Or.inr (by assumption)⟩ (fun b hd ho hr hs hn => ?_)); (try replace hop := hs.op); (try replace hp := hs.pre)) | ((with_reducible refine Wl.mark (by decide) ?_); (try rw [List.nil_append])) | ((refine Wl.call (ih _ _ _ (by simp only [mu, rank]; omega) ⟨by assumption, by omega, by omega, by simp only [slack]; omega, by simp only [Pre']; first | rfl | trivial | assumption | omega | exact ⟨_, rfl, by assumption⟩ | (exact ⟨by omega, by omega, by omega, trivial, rfl, fun h => by first | omega | (rcases h with h | h <;> cases h)⟩) | exact ⟨trivial, rfl⟩⟩) hB (fun r b hd hq => ?_)); (obtain ⟨ho, hr, hn, hs⟩ := hq; simp only [dr, gain, loss, Shape, Nat.add_zero] at hr hn hs; (try replace hs := hs _ rfl (by assumption)); (first | ((try replace hop := hop.trans hs); replace hp := hp.trans hs) | ((try replace hop := hop.trans hs.1); replace hp := hp.trans hs.1) | ((first | replace hop := hop.trans hs.pre | have hop := hs.op); (try replace hp := hp.trans hs.pre)) | skip))) | with_reducible refine Wl.ite (fun hc => ?_) (fun hc => ?_) | refine Wl.lit (by rfl) (by assumption) (fun c => ?_))
set_option maxHeartbeats 4000000 in
theorem t_g0 (head : Bool) (q : Int) (ks : List Int) (n : Int) (more : Bool) (hB : B ≤ 4294967000) :
    (IHT B (mu (.X head) a) → PreT B (.X head) a ms → Wl B (body (.X head)) a ms (PostT (.X head) a ms)) ∧
    (IHT B (mu (.X1 head) a) → PreT B (.X1 head) a ms → Wl B (body (.X1 head)) a ms (PostT (.X1 head) a ms)) ∧
    (IHT B (mu (.binary q head) a) → PreT B (.binary q head) a ms → Wl B (body (.binary q head)) a ms (PostT (.binary q head) a ms)) ∧
    (IHT B (mu (.unary head) a) → PreT B (.unary head) a ms → Wl B (body (.unary head)) a ms (PostT (.unary head) a ms)) ∧
    (IHT B (mu (.unary1 head) a) → PreT B (.unary1 head) a ms → Wl B (body (.unary1 head)) a ms (PostT (.unary1 head) a ms)) ∧
    (IHT B (mu (.primary head) a) → PreT B (.primary head) a ms → Wl B (body (.primary head)) a ms (PostT (.primary head) a ms)) ∧
    (IHT B (mu .period a) → PreT B .period a ms → Wl B (body .period) a ms (PostT .period a ms)) ∧
    (IHT B (mu .index a) → PreT B .index a ms → Wl B (body .index) a ms (PostT .index a ms)) := by
  refine ⟨?_, ?_, ?_, ?_, ?_, ?_, ?_, ?_⟩ <;> (intro ih hpre; obtain ⟨hd, h0, h1, hphi, hk⟩ := hpre; simp only [slack] at hphi; simp only [Pre'] at hk; subst hk; have hp := List.prefix_rfl (l := a.row); (simp only [body, go, done, primM, itemsM, unaryM, valuesM, elemsM, entryM, List.map_nil]); repeat' (first | with_reducible refine Wl.tt ?_ | with_reducible refine Wl.ff ?_ | ((with_reducible refine Wl.ret (by omega) ⟨by omega, by (try simp only [dr]); omega, by (try simp only [gain, loss]); omega, ?_⟩); (try simp only [Shape]); first | assumption | exact List.prefix_rfl | exact hs.nt | exact hop.nt | (refine ⟨by assumption, ?_⟩; first | omega | (simp; done))) | with_reducible refine Wl.kind (fun x hx => ?_) | ((with_reducible refine Wl.taken hB (by assumption) (by omega) (fun b hd ho hq hr hn => ?_) (fun hc => ?_)) <;> ((try replace hop := hop.trans hq); (try replace hp := hp.trans hq))) | ((with_reducible refine Wl.expect (by decide) hB (by assumption) (by omega) (fun b hd ho hq hr hn => ?_)); ((try replace hop := hop.trans hq); (try replace hp := hp.trans hq))) | ((with_reducible refine Wl.take hB (by assumption) (by omega) (by first | assumption | omega) (fun b hd ho hq hr hn => ?_)); ((try replace hop := hop.trans hq); (try replace hp := hp.trans hq))) | with_reducible refine Wl.comes (fun hc hk => ?_) (fun hc => ?_) | with_reducible refine Wl.lookB (fun hc => ?_) (fun hc => ?_) | with_reducible refine Wl.deadq (by assumption) ?_ | with_reducible refine Wl.fail hB (by omega) | ((with_reducible refine Wl.none_ hB (by assumption) (by omega) (fun b hd ho hr hq hn => ?_)); (try replace hop := hop.trans hq.pre); (try replace hp := hp.trans hq.pre)) | ((refine Wl.close (by rfl) hB (by assumption) (by omega) (by assumption) ⟨by omega, by first | exact Or.inl ⟨by omega, by omega⟩ | exact Or.inr (by assumption)⟩ (fun b hd ho hr hs hn => ?_)); (try replace hop := hs.op); (try replace hp := hs.pre)) | ((with_reducible refine Wl.mark (by decide) ?_); (try rw [List.nil_append])) | ((refine Wl.call (ih _ _ _ (by simp only [mu, rank]; omega) ⟨by assumption, by omega, by omega, by simp only [slack]; omega, by simp only [Pre']; first | rfl | trivial | assumption | omega | exact ⟨_, rfl, by assumption⟩ | (exact ⟨by omega, by omega, by omega, trivial, rfl, fun h => by first | omega | (rcases h with h | h <;> cases h)⟩) | exact ⟨trivial, rfl⟩⟩) hB (fun r b hd hq => ?_)); (obtain ⟨ho, hr, hn, hs⟩ := hq; simp only [dr, gain, loss, Shape, Nat.add_zero] at hr hn hs; (try replace hs := hs _ rfl (by assumption)); (first | ((try replace hop := hop.trans hs); replace hp := hp.trans hs) | ((try replace hop := hop.trans hs.1); replace hp := hp.trans hs.1) | ((first | replace hop := hop.trans hs.pre | have hop := hs.op); (try replace hp := hp.trans hs.pre)) | skip))) | with_reducible refine Wl.ite (fun hc => ?_) (fun hc => ?_) | refine Wl.lit (by rfl) (by assumption) (fun c => ?_)))
theorem t_X (head : Bool) (hB : B ≤ 4294967000) (ih : IHT B (mu (.X head) a)) (hpre : PreT B (.X head) a ms) : Wl B (body (.X head)) a ms (PostT (.X head) a ms) := (t_g0 head 0 [] 0 false hB).1 ih hpre
theorem t_X1 (head : Bool) (hB : B ≤ 4294967000) (ih : IHT B (mu (.X1 head) a)) (hpre : PreT B (.X1 head) a ms) : Wl B (body (.X1 head)) a ms (PostT (.X1 head) a ms) := (t_g0 head 0 [] 0 false hB).2.1 ih hpre
theorem t_binary (q : Int) (head : Bool) (hB : B ≤ 4294967000) (ih : IHT B (mu (.binary q head) a)) (hpre : PreT B (.binary q head) a ms) : Wl B (body (.binary q head)) a ms (PostT (.binary q head) a ms) := (t_g0 head q [] 0 false hB).2.2.1 ih hpre
theorem t_unary (head : Bool) (hB : B ≤ 4294967000) (ih : IHT B (mu (.unary head) a)) (hpre : PreT B (.unary head) a ms) : Wl B (body (.unary head)) a ms (PostT (.unary head) a ms) := (t_g0 head 0 [] 0 false hB).2.2.2.1 ih hpre
theorem t_unary1 (head : Bool) (hB : B ≤ 4294967000) (ih : IHT B (mu (.unary1 head) a)) (hpre : PreT B (.unary1 head) a ms) : Wl B (body (.unary1 head)) a ms (PostT (.unary1 head) a ms) := (t_g0 head 0 [] 0 false hB).2.2.2.2.1 ih hpre
theorem t_primary (head : Bool) (hB : B ≤ 4294967000) (ih : IHT B (mu (.primary head) a)) (hpre : PreT B (.primary head) a ms) : Wl B (body (.primary head)) a ms (PostT (.primary head) a ms) := (t_g0 head 0 [] 0 false hB).2.2.2.2.2.1 ih hpre
theorem t_period (hB : B ≤ 4294967000) (ih : IHT B (mu .period a)) (hpre : PreT B .period a ms) : Wl B (body .period) a ms (PostT .period a ms) := (t_g0 false 0 [] 0 false hB).2.2.2.2.2.2.1 ih hpre
theorem t_index (hB : B ≤ 4294967000) (ih : IHT B (mu .index a)) (hpre : PreT B .index a ms) : Wl B (body .index) a ms (PostT .index a ms) := (t_g0 false 0 [] 0 false hB).2.2.2.2.2.2.2 ih hpre
set_option maxHeartbeats 4000000 in
theorem t_g1 (head : Bool) (q : Int) (ks : List Int) (n : Int) (more : Bool) (hB : B ≤ 4294967000) :
    (IHT B (mu (.unless ks) a) → PreT B (.unless ks) a ms → Wl B (body (.unless ks)) a ms (PostT (.unless ks) a ms)) ∧
    (IHT B (mu .indexL a) → PreT B .indexL a ms → Wl B (body .indexL) a ms (PostT .indexL a ms)) ∧
    (IHT B (mu .arguments a) → PreT B .arguments a ms → Wl B (body .arguments) a ms (PostT .arguments a ms)) ∧
    (IHT B (mu .argsL a) → PreT B .argsL a ms → Wl B (body .argsL) a ms (PostT .argsL a ms)) ∧
    (IHT B (mu .value a) → PreT B .value a ms → Wl B (body .value) a ms (PostT .value a ms)) ∧
    (IHT B (mu .value1 a) → PreT B .value1 a ms → Wl B (body .value1) a ms (PostT .value1 a ms)) ∧
    (IHT B (mu .values a) → PreT B .values a ms → Wl B (body .values) a ms (PostT .values a ms)) ∧
    (IHT B (mu .valuesL a) → PreT B .valuesL a ms → Wl B (body .valuesL) a ms (PostT .valuesL a ms)) := by
  refine ⟨?_, ?_, ?_, ?_, ?_, ?_, ?_, ?_⟩ <;> (intro ih hpre; obtain ⟨hd, h0, h1, hphi, hk⟩ := hpre; simp only [slack] at hphi; simp only [Pre'] at hk; subst hk; have hp := List.prefix_rfl (l := a.row); (simp only [body, go, done, primM, itemsM, unaryM, valuesM, elemsM, entryM, List.map_nil]); repeat' (first | with_reducible refine Wl.tt ?_ | with_reducible refine Wl.ff ?_ | ((with_reducible refine Wl.ret (by omega) ⟨by omega, by (try simp only [dr]); omega, by (try simp only [gain, loss]); omega, ?_⟩); (try simp only [Shape]); first | assumption | exact List.prefix_rfl | exact hs.nt | exact hop.nt | (refine ⟨by assumption, ?_⟩; first | omega | (simp; done))) | with_reducible refine Wl.kind (fun x hx => ?_) | ((with_reducible refine Wl.taken hB (by assumption) (by omega) (fun b hd ho hq hr hn => ?_) (fun hc => ?_)) <;> ((try replace hop := hop.trans hq); (try replace hp := hp.trans hq))) | ((with_reducible refine Wl.expect (by decide) hB (by assumption) (by omega) (fun b hd ho hq hr hn => ?_)); ((try replace hop := hop.trans hq); (try replace hp := hp.trans hq))) | ((with_reducible refine Wl.take hB (by assumption) (by omega) (by first | assumption | omega) (fun b hd ho hq hr hn => ?_)); ((try replace hop := hop.trans hq); (try replace hp := hp.trans hq))) | with_reducible refine Wl.comes (fun hc hk => ?_) (fun hc => ?_) | with_reducible refine Wl.lookB (fun hc => ?_) (fun hc => ?_) | with_reducible refine Wl.deadq (by assumption) ?_ | with_reducible refine Wl.fail hB (by omega) | ((with_reducible refine Wl.none_ hB (by assumption) (by omega) (fun b hd ho hr hq hn => ?_)); (try replace hop := hop.trans hq.pre); (try replace hp := hp.trans hq.pre)) | ((refine Wl.close (by rfl) hB (by assumption) (by omega) (by assumption) ⟨by omega, by first | exact Or.inl ⟨by omega, by omega⟩ | exact Or.inr (by assumption)⟩ (fun b hd ho hr hs hn => ?_)); (try replace hop := hs.op); (try replace hp := hs.pre)) | ((with_reducible refine Wl.mark (by decide) ?_); (try rw [List.nil_append])) | ((refine Wl.call (ih _ _ _ (by simp only [mu, rank]; omega) ⟨by assumption, by omega, by omega, by simp only [slack]; omega, by simp only [Pre']; first | rfl | trivial | assumption | omega | exact ⟨_, rfl, by assumption⟩ | (exact ⟨by omega, by omega, by omega, trivial, rfl, fun h => by first | omega | (rcases h with h | h <;> cases h)⟩) | exact ⟨trivial, rfl⟩⟩) hB (fun r b hd hq => ?_)); (obtain ⟨ho, hr, hn, hs⟩ := hq; simp only [dr, gain, loss, Shape, Nat.add_zero] at hr hn hs; (try replace hs := hs _ rfl (by assumption)); (first | ((try replace hop := hop.trans hs); replace hp := hp.trans hs) | ((try replace hop := hop.trans hs.1); replace hp := hp.trans hs.1) | ((first | replace hop := hop.trans hs.pre | have hop := hs.op); (try replace hp := hp.trans hs.pre)) | skip))) | with_reducible refine Wl.ite (fun hc => ?_) (fun hc => ?_) | refine Wl.lit (by rfl) (by assumption) (fun c => ?_)))
theorem t_unless (ks : List Int) (hB : B ≤ 4294967000) (ih : IHT B (mu (.unless ks) a)) (hpre : PreT B (.unless ks) a ms) : Wl B (body (.unless ks)) a ms (PostT (.unless ks) a ms) := (t_g1 false 0 ks 0 false hB).1 ih hpre
theorem t_indexL (hB : B ≤ 4294967000) (ih : IHT B (mu .indexL a)) (hpre : PreT B .indexL a ms) : Wl B (body .indexL) a ms (PostT .indexL a ms) := (t_g1 false 0 [] 0 false hB).2.1 ih hpre
theorem t_arguments (hB : B ≤ 4294967000) (ih : IHT B (mu .arguments a)) (hpre : PreT B .arguments a ms) : Wl B (body .arguments) a ms (PostT .arguments a ms) := (t_g1 false 0 [] 0 false hB).2.2.1 ih hpre
theorem t_argsL (hB : B ≤ 4294967000) (ih : IHT B (mu .argsL a)) (hpre : PreT B .argsL a ms) : Wl B (body .argsL) a ms (PostT .argsL a ms) := (t_g1 false 0 [] 0 false hB).2.2.2.1 ih hpre
theorem t_value (hB : B ≤ 4294967000) (ih : IHT B (mu .value a)) (hpre : PreT B .value a ms) : Wl B (body .value) a ms (PostT .value a ms) := (t_g1 false 0 [] 0 false hB).2.2.2.2.1 ih hpre
theorem t_value1 (hB : B ≤ 4294967000) (ih : IHT B (mu .value1 a)) (hpre : PreT B .value1 a ms) : Wl B (body .value1) a ms (PostT .value1 a ms) := (t_g1 false 0 [] 0 false hB).2.2.2.2.2.1 ih hpre
theorem t_values (hB : B ≤ 4294967000) (ih : IHT B (mu .values a)) (hpre : PreT B .values a ms) : Wl B (body .values) a ms (PostT .values a ms) := (t_g1 false 0 [] 0 false hB).2.2.2.2.2.2.1 ih hpre
theorem t_valuesL (hB : B ≤ 4294967000) (ih : IHT B (mu .valuesL a)) (hpre : PreT B .valuesL a ms) : Wl B (body .valuesL) a ms (PostT .valuesL a ms) := (t_g1 false 0 [] 0 false hB).2.2.2.2.2.2.2 ih hpre
set_option maxHeartbeats 4000000 in
theorem t_g2 (head : Bool) (q : Int) (ks : List Int) (n : Int) (more : Bool) (hB : B ≤ 4294967000) :
    (IHT B (mu .operand a) → PreT B .operand a ms → Wl B (body .operand) a ms (PostT .operand a ms)) ∧
    (IHT B (mu .flat a) → PreT B .flat a ms → Wl B (body .flat) a ms (PostT .flat a ms)) ∧
    (IHT B (mu (.flatL n) a) → PreT B (.flatL n) a ms → Wl B (body (.flatL n)) a ms (PostT (.flatL n) a ms)) ∧
    (IHT B (mu .Name a) → PreT B .Name a ms → Wl B (body .Name) a ms (PostT .Name a ms)) ∧
    (IHT B (mu (.List head) a) → PreT B (.List head) a ms → Wl B (body (.List head)) a ms (PostT (.List head) a ms)) ∧
    (IHT B (mu (.List1 head) a) → PreT B (.List1 head) a ms → Wl B (body (.List1 head)) a ms (PostT (.List1 head) a ms)) ∧
    (IHT B (mu (.ListL head) a) → PreT B (.ListL head) a ms → Wl B (body (.ListL head)) a ms (PostT (.ListL head) a ms)) ∧
    (IHT B (mu .Type a) → PreT B .Type a ms → Wl B (body .Type) a ms (PostT .Type a ms)) := by
  refine ⟨?_, ?_, ?_, ?_, ?_, ?_, ?_, ?_⟩ <;> (intro ih hpre; obtain ⟨hd, h0, h1, hphi, hk⟩ := hpre; simp only [slack] at hphi; simp only [Pre'] at hk; subst hk; have hp := List.prefix_rfl (l := a.row); (simp only [body, go, done, primM, itemsM, unaryM, valuesM, elemsM, entryM, List.map_nil]); repeat' (first | with_reducible refine Wl.tt ?_ | with_reducible refine Wl.ff ?_ | ((with_reducible refine Wl.ret (by omega) ⟨by omega, by (try simp only [dr]); omega, by (try simp only [gain, loss]); omega, ?_⟩); (try simp only [Shape]); first | assumption | exact List.prefix_rfl | exact hs.nt | exact hop.nt | (refine ⟨by assumption, ?_⟩; first | omega | (simp; done))) | with_reducible refine Wl.kind (fun x hx => ?_) | ((with_reducible refine Wl.taken hB (by assumption) (by omega) (fun b hd ho hq hr hn => ?_) (fun hc => ?_)) <;> ((try replace hop := hop.trans hq); (try replace hp := hp.trans hq))) | ((with_reducible refine Wl.expect (by decide) hB (by assumption) (by omega) (fun b hd ho hq hr hn => ?_)); ((try replace hop := hop.trans hq); (try replace hp := hp.trans hq))) | ((with_reducible refine Wl.take hB (by assumption) (by omega) (by first | assumption | omega) (fun b hd ho hq hr hn => ?_)); ((try replace hop := hop.trans hq); (try replace hp := hp.trans hq))) | with_reducible refine Wl.comes (fun hc hk => ?_) (fun hc => ?_) | with_reducible refine Wl.lookB (fun hc => ?_) (fun hc => ?_) | with_reducible refine Wl.deadq (by assumption) ?_ | with_reducible refine Wl.fail hB (by omega) | ((with_reducible refine Wl.none_ hB (by assumption) (by omega) (fun b hd ho hr hq hn => ?_)); (try replace hop := hop.trans hq.pre); (try replace hp := hp.trans hq.pre)) | ((refine Wl.close (by rfl) hB (by assumption) (by omega) (by assumption) ⟨by omega, by first | exact Or.inl ⟨by omega, by omega⟩ | exact Or.inr (by assumption)⟩ (fun b hd ho hr hs hn => ?_)); (try replace hop := hs.op); (try replace hp := hs.pre)) | ((with_reducible refine Wl.mark (by decide) ?_); (try rw [List.nil_append])) | ((refine Wl.call (ih _ _ _ (by simp only [mu, rank]; omega) ⟨by assumption, by omega, by omega, by simp only [slack]; omega, by simp only [Pre']; first | rfl | trivial | assumption | omega | exact ⟨_, rfl, by assumption⟩ | (exact ⟨by omega, by omega, by omega, trivial, rfl, fun h => by first | omega | (rcases h with h | h <;> cases h)⟩) | exact ⟨trivial, rfl⟩⟩) hB (fun r b hd hq => ?_)); (obtain ⟨ho, hr, hn, hs⟩ := hq; simp only [dr, gain, loss, Shape, Nat.add_zero] at hr hn hs; (try replace hs := hs _ rfl (by assumption)); (first | ((try replace hop := hop.trans hs); replace hp := hp.trans hs) | ((try replace hop := hop.trans hs.1); replace hp := hp.trans hs.1) | ((first | replace hop := hop.trans hs.pre | have hop := hs.op); (try replace hp := hp.trans hs.pre)) | skip))) | with_reducible refine Wl.ite (fun hc => ?_) (fun hc => ?_) | refine Wl.lit (by rfl) (by assumption) (fun c => ?_)))
theorem t_operand (hB : B ≤ 4294967000) (ih : IHT B (mu .operand a)) (hpre : PreT B .operand a ms) : Wl B (body .operand) a ms (PostT .operand a ms) := (t_g2 false 0 [] 0 false hB).1 ih hpre
theorem t_flat (hB : B ≤ 4294967000) (ih : IHT B (mu .flat a)) (hpre : PreT B .flat a ms) : Wl B (body .flat) a ms (PostT .flat a ms) := (t_g2 false 0 [] 0 false hB).2.1 ih hpre
theorem t_flatL (n : Int) (hB : B ≤ 4294967000) (ih : IHT B (mu (.flatL n) a)) (hpre : PreT B (.flatL n) a ms) : Wl B (body (.flatL n)) a ms (PostT (.flatL n) a ms) := (t_g2 false 0 [] n false hB).2.2.1 ih hpre
theorem t_Name (hB : B ≤ 4294967000) (ih : IHT B (mu .Name a)) (hpre : PreT B .Name a ms) : Wl B (body .Name) a ms (PostT .Name a ms) := (t_g2 false 0 [] 0 false hB).2.2.2.1 ih hpre
theorem t_List (head : Bool) (hB : B ≤ 4294967000) (ih : IHT B (mu (.List head) a)) (hpre : PreT B (.List head) a ms) : Wl B (body (.List head)) a ms (PostT (.List head) a ms) := (t_g2 head 0 [] 0 false hB).2.2.2.2.1 ih hpre
theorem t_List1 (head : Bool) (hB : B ≤ 4294967000) (ih : IHT B (mu (.List1 head) a)) (hpre : PreT B (.List1 head) a ms) : Wl B (body (.List1 head)) a ms (PostT (.List1 head) a ms) := (t_g2 head 0 [] 0 false hB).2.2.2.2.2.1 ih hpre
theorem t_ListL (head : Bool) (hB : B ≤ 4294967000) (ih : IHT B (mu (.ListL head) a)) (hpre : PreT B (.ListL head) a ms) : Wl B (body (.ListL head)) a ms (PostT (.ListL head) a ms) := (t_g2 head 0 [] 0 false hB).2.2.2.2.2.2.1 ih hpre
theorem t_Type (hB : B ≤ 4294967000) (ih : IHT B (mu .Type a)) (hpre : PreT B .Type a ms) : Wl B (body .Type) a ms (PostT .Type a ms) := (t_g2 false 0 [] 0 false hB).2.2.2.2.2.2.2 ih hpre
set_option maxHeartbeats 4000000 in
theorem t_g3 (head : Bool) (q : Int) (ks : List Int) (n : Int) (more : Bool) (hB : B ≤ 4294967000) :
    (IHT B (mu .form a) → PreT B .form a ms → Wl B (body .form) a ms (PostT .form a ms)) ∧
    (IHT B (mu .elements a) → PreT B .elements a ms → Wl B (body .elements) a ms (PostT .elements a ms)) ∧
    (IHT B (mu .qualified a) → PreT B .qualified a ms → Wl B (body .qualified) a ms (PostT .qualified a ms)) ∧
    (IHT B (mu .field a) → PreT B .field a ms → Wl B (body .field) a ms (PostT .field a ms)) ∧
    (IHT B (mu .element a) → PreT B .element a ms → Wl B (body .element) a ms (PostT .element a ms)) ∧
    (IHT B (mu .union a) → PreT B .union a ms → Wl B (body .union) a ms (PostT .union a ms)) ∧
    (IHT B (mu (.unionL more) a) → PreT B (.unionL more) a ms → Wl B (body (.unionL more)) a ms (PostT (.unionL more) a ms)) ∧
    (IHT B (mu .Sig a) → PreT B .Sig a ms → Wl B (body .Sig) a ms (PostT .Sig a ms)) := by
  refine ⟨?_, ?_, ?_, ?_, ?_, ?_, ?_, ?_⟩ <;> (intro ih hpre; obtain ⟨hd, h0, h1, hphi, hk⟩ := hpre; simp only [slack] at hphi; simp only [Pre'] at hk; subst hk; have hp := List.prefix_rfl (l := a.row); (simp only [body, go, done, primM, itemsM, unaryM, valuesM, elemsM, entryM, List.map_nil]); repeat' (first | with_reducible refine Wl.tt ?_ | with_reducible refine Wl.ff ?_ | ((with_reducible refine Wl.ret (by omega) ⟨by omega, by (try simp only [dr]); omega, by (try simp only [gain, loss]); omega, ?_⟩); (try simp only [Shape]); first | assumption | exact List.prefix_rfl | exact hs.nt | exact hop.nt | (refine ⟨by assumption, ?_⟩; first | omega | (simp; done))) | with_reducible refine Wl.kind (fun x hx => ?_) | ((with_reducible refine Wl.taken hB (by assumption) (by omega) (fun b hd ho hq hr hn => ?_) (fun hc => ?_)) <;> ((try replace hop := hop.trans hq); (try replace hp := hp.trans hq))) | ((with_reducible refine Wl.expect (by decide) hB (by assumption) (by omega) (fun b hd ho hq hr hn => ?_)); ((try replace hop := hop.trans hq); (try replace hp := hp.trans hq))) | ((with_reducible refine Wl.take hB (by assumption) (by omega) (by first | assumption | omega) (fun b hd ho hq hr hn => ?_)); ((try replace hop := hop.trans hq); (try replace hp := hp.trans hq))) | with_reducible refine Wl.comes (fun hc hk => ?_) (fun hc => ?_) | with_reducible refine Wl.lookB (fun hc => ?_) (fun hc => ?_) | with_reducible refine Wl.deadq (by assumption) ?_ | with_reducible refine Wl.fail hB (by omega) | ((with_reducible refine Wl.none_ hB (by assumption) (by omega) (fun b hd ho hr hq hn => ?_)); (try replace hop := hop.trans hq.pre); (try replace hp := hp.trans hq.pre)) | ((refine Wl.close (by rfl) hB (by assumption) (by omega) (by assumption) ⟨by omega, by first | exact Or.inl ⟨by omega, by omega⟩ | exact Or.inr (by assumption)⟩ (fun b hd ho hr hs hn => ?_)); (try replace hop := hs.op); (try replace hp := hs.pre)) | ((with_reducible refine Wl.mark (by decide) ?_); (try rw [List.nil_append])) | ((refine Wl.call (ih _ _ _ (by simp only [mu, rank]; omega) ⟨by assumption, by omega, by omega, by simp only [slack]; omega, by simp only [Pre']; first | rfl | trivial | assumption | omega | exact ⟨_, rfl, by assumption⟩ | (exact ⟨by omega, by omega, by omega, trivial, rfl, fun h => by first | omega | (rcases h with h | h <;> cases h)⟩) | exact ⟨trivial, rfl⟩⟩) hB (fun r b hd hq => ?_)); (obtain ⟨ho, hr, hn, hs⟩ := hq; simp only [dr, gain, loss, Shape, Nat.add_zero] at hr hn hs; (try replace hs := hs _ rfl (by assumption)); (first | ((try replace hop := hop.trans hs); replace hp := hp.trans hs) | ((try replace hop := hop.trans hs.1); replace hp := hp.trans hs.1) | ((first | replace hop := hop.trans hs.pre | have hop := hs.op); (try replace hp := hp.trans hs.pre)) | skip))) | with_reducible refine Wl.ite (fun hc => ?_) (fun hc => ?_) | refine Wl.lit (by rfl) (by assumption) (fun c => ?_)))
theorem t_form (hB : B ≤ 4294967000) (ih : IHT B (mu .form a)) (hpre : PreT B .form a ms) : Wl B (body .form) a ms (PostT .form a ms) := (t_g3 false 0 [] 0 false hB).1 ih hpre
theorem t_elements (hB : B ≤ 4294967000) (ih : IHT B (mu .elements a)) (hpre : PreT B .elements a ms) : Wl B (body .elements) a ms (PostT .elements a ms) := (t_g3 false 0 [] 0 false hB).2.1 ih hpre
theorem t_qualified (hB : B ≤ 4294967000) (ih : IHT B (mu .qualified a)) (hpre : PreT B .qualified a ms) : Wl B (body .qualified) a ms (PostT .qualified a ms) := (t_g3 false 0 [] 0 false hB).2.2.1 ih hpre
theorem t_field (hB : B ≤ 4294967000) (ih : IHT B (mu .field a)) (hpre : PreT B .field a ms) : Wl B (body .field) a ms (PostT .field a ms) := (t_g3 false 0 [] 0 false hB).2.2.2.1 ih hpre
theorem t_element (hB : B ≤ 4294967000) (ih : IHT B (mu .element a)) (hpre : PreT B .element a ms) : Wl B (body .element) a ms (PostT .element a ms) := (t_g3 false 0 [] 0 false hB).2.2.2.2.1 ih hpre
theorem t_union (hB : B ≤ 4294967000) (ih : IHT B (mu .union a)) (hpre : PreT B .union a ms) : Wl B (body .union) a ms (PostT .union a ms) := (t_g3 false 0 [] 0 false hB).2.2.2.2.2.1 ih hpre
theorem t_unionL (more : Bool) (hB : B ≤ 4294967000) (ih : IHT B (mu (.unionL more) a)) (hpre : PreT B (.unionL more) a ms) : Wl B (body (.unionL more)) a ms (PostT (.unionL more) a ms) := (t_g3 false 0 [] 0 more hB).2.2.2.2.2.2.1 ih hpre
theorem t_Sig (hB : B ≤ 4294967000) (ih : IHT B (mu .Sig a)) (hpre : PreT B .Sig a ms) : Wl B (body .Sig) a ms (PostT .Sig a ms) := (t_g3 false 0 [] 0 false hB).2.2.2.2.2.2.2 ih hpre
set_option maxHeartbeats 4000000 in
theorem t_g4 (head : Bool) (q : Int) (ks : List Int) (n : Int) (more : Bool) (hB : B ≤ 4294967000) :
    (IHT B (mu .Sig1 a) → PreT B .Sig1 a ms → Wl B (body .Sig1) a ms (PostT .Sig1 a ms)) ∧
    (IHT B (mu .Params a) → PreT B .Params a ms → Wl B (body .Params) a ms (PostT .Params a ms)) ∧
    (IHT B (mu .entry a) → PreT B .entry a ms → Wl B (body .entry) a ms (PostT .entry a ms)) ∧
    (IHT B (mu .TParams a) → PreT B .TParams a ms → Wl B (body .TParams) a ms (PostT .TParams a ms)) ∧
    (IHT B (mu .TParams1 a) → PreT B .TParams1 a ms → Wl B (body .TParams1) a ms (PostT .TParams1 a ms)) ∧
    (IHT B (mu .TParams11 a) → PreT B .TParams11 a ms → Wl B (body .TParams11) a ms (PostT .TParams11 a ms)) := by
  refine ⟨?_, ?_, ?_, ?_, ?_, ?_⟩ <;> (intro ih hpre; obtain ⟨hd, h0, h1, hphi, hk⟩ := hpre; simp only [slack] at hphi; simp only [Pre'] at hk; subst hk; have hp := List.prefix_rfl (l := a.row); (simp only [body, go, done, primM, itemsM, unaryM, valuesM, elemsM, entryM, List.map_nil]); repeat' (first | with_reducible refine Wl.tt ?_ | with_reducible refine Wl.ff ?_ | ((with_reducible refine Wl.ret (by omega) ⟨by omega, by (try simp only [dr]); omega, by (try simp only [gain, loss]); omega, ?_⟩); (try simp only [Shape]); first | assumption | exact List.prefix_rfl | exact hs.nt | exact hop.nt | (refine ⟨by assumption, ?_⟩; first | omega | (simp; done))) | with_reducible refine Wl.kind (fun x hx => ?_) | ((with_reducible refine Wl.taken hB (by assumption) (by omega) (fun b hd ho hq hr hn => ?_) (fun hc => ?_)) <;> ((try replace hop := hop.trans hq); (try replace hp := hp.trans hq))) | ((with_reducible refine Wl.expect (by decide) hB (by assumption) (by omega) (fun b hd ho hq hr hn => ?_)); ((try replace hop := hop.trans hq); (try replace hp := hp.trans hq))) | ((with_reducible refine Wl.take hB (by assumption) (by omega) (by first | assumption | omega) (fun b hd ho hq hr hn => ?_)); ((try replace hop := hop.trans hq); (try replace hp := hp.trans hq))) | with_reducible refine Wl.comes (fun hc hk => ?_) (fun hc => ?_) | with_reducible refine Wl.lookB (fun hc => ?_) (fun hc => ?_) | with_reducible refine Wl.deadq (by assumption) ?_ | with_reducible refine Wl.fail hB (by omega) | ((with_reducible refine Wl.none_ hB (by assumption) (by omega) (fun b hd ho hr hq hn => ?_)); (try replace hop := hop.trans hq.pre); (try replace hp := hp.trans hq.pre)) | ((refine Wl.close (by rfl) hB (by assumption) (by omega) (by assumption) ⟨by omega, by first | exact Or.inl ⟨by omega, by omega⟩ | exact Or.inr (by assumption)⟩ (fun b hd ho hr hs hn => ?_)); (try replace hop := hs.op); (try replace hp := hs.pre)) | ((with_reducible refine Wl.mark (by decide) ?_); (try rw [List.nil_append])) | ((refine Wl.call (ih _ _ _ (by simp only [mu, rank]; omega) ⟨by assumption, by omega, by omega, by simp only [slack]; omega, by simp only [Pre']; first | rfl | trivial | assumption | omega | exact ⟨_, rfl, by assumption⟩ | (exact ⟨by omega, by omega, by omega, trivial, rfl, fun h => by first | omega | (rcases h with h | h <;> cases h)⟩) | exact ⟨trivial, rfl⟩⟩) hB (fun r b hd hq => ?_)); (obtain ⟨ho, hr, hn, hs⟩ := hq; simp only [dr, gain, loss, Shape, Nat.add_zero] at hr hn hs; (try replace hs := hs _ rfl (by assumption)); (first | ((try replace hop := hop.trans hs); replace hp := hp.trans hs) | ((try replace hop := hop.trans hs.1); replace hp := hp.trans hs.1) | ((first | replace hop := hop.trans hs.pre | have hop := hs.op); (try replace hp := hp.trans hs.pre)) | skip))) | with_reducible refine Wl.ite (fun hc => ?_) (fun hc => ?_) | refine Wl.lit (by rfl) (by assumption) (fun c => ?_)))
theorem t_Sig1 (hB : B ≤ 4294967000) (ih : IHT B (mu .Sig1 a)) (hpre : PreT B .Sig1 a ms) : Wl B (body .Sig1) a ms (PostT .Sig1 a ms) := (t_g4 false 0 [] 0 false hB).1 ih hpre
theorem t_Params (hB : B ≤ 4294967000) (ih : IHT B (mu .Params a)) (hpre : PreT B .Params a ms) : Wl B (body .Params) a ms (PostT .Params a ms) := (t_g4 false 0 [] 0 false hB).2.1 ih hpre
theorem t_entry (hB : B ≤ 4294967000) (ih : IHT B (mu .entry a)) (hpre : PreT B .entry a ms) : Wl B (body .entry) a ms (PostT .entry a ms) := (t_g4 false 0 [] 0 false hB).2.2.1 ih hpre
theorem t_TParams (hB : B ≤ 4294967000) (ih : IHT B (mu .TParams a)) (hpre : PreT B .TParams a ms) : Wl B (body .TParams) a ms (PostT .TParams a ms) := (t_g4 false 0 [] 0 false hB).2.2.2.1 ih hpre
theorem t_TParams1 (hB : B ≤ 4294967000) (ih : IHT B (mu .TParams1 a)) (hpre : PreT B .TParams1 a ms) : Wl B (body .TParams1) a ms (PostT .TParams1 a ms) := (t_g4 false 0 [] 0 false hB).2.2.2.2.1 ih hpre
theorem t_TParams11 (hB : B ≤ 4294967000) (ih : IHT B (mu .TParams11 a)) (hpre : PreT B .TParams11 a ms) : Wl B (body .TParams11) a ms (PostT .TParams11 a ms) := (t_g4 false 0 [] 0 false hB).2.2.2.2.2 ih hpre
end
end Go.AI.Rd
/- DERIVED. THE READER: every procedure comes to an end: loops, nodes, parameters; all of them together. -/
namespace Go.AI.Rd
theorem dIn_facts {pr : Proc} (h : dIn pr) : rank pr ≤ 10 ∧ slack pr = 3 ∧ dr pr = 1 ∧ loss pr = 0 ∧ (∀ a, Pre' pr a []) ∧ (∀ a ms r b, Shape pr a ms r b → N1 a.row b.row) := by
  cases pr <;> first | exact False.elim h | exact ⟨by simp only [rank]; omega, rfl, rfl, rfl, fun a => rfl, fun a ms r b h => h⟩
theorem nIn_facts {pr : Proc} (h : nIn pr) : slack pr = 3 ∧ dr pr = 1 ∧ loss pr = 0 ∧ 1 ≤ gain pr ∧ (∀ a, (pr = .takeP ∨ pr = .entry1 → a.kinds.getD 0 0 ≠ 0) → Pre' pr a []) ∧ (∀ a ms r b, Shape pr a ms r b → a.row <+: b.row) := by
  cases pr <;> first | exact False.elim h | exact ⟨rfl, rfl, rfl, by simp only [gain]; omega, fun a _ => rfl, fun a ms r b h => h⟩ | exact ⟨rfl, rfl, rfl, by simp only [gain]; omega, fun a h => h (by simp), fun a ms r b h => h⟩
theorem iIn_facts {pr : Proc} (h : iIn pr) : rank pr ≤ 10 ∧ slack pr = 3 ∧ dr pr = 1 ∧ loss pr = 0 ∧ (∀ a, Pre' pr a []) ∧ (∀ a ms r b, Shape pr a ms r b → a.row <+: b.row) := by
  cases pr <;> first | exact False.elim h | exact ⟨by simp only [rank]; omega, rfl, rfl, rfl, fun a => rfl, fun a ms r b h => N1.pre h⟩
section
variable {B : Nat} {a : A} {ms : List Int}
theorem t_deeper {pr : Proc} (hB : B ≤ 4294967000) (ih : IHT B (mu (.deeper pr) a)) (hpre : PreT B (.deeper pr) a ms) : Wl B (body (.deeper pr)) a ms (PostT (.deeper pr) a ms) := by
  obtain ⟨hd, h0, h1, hphi, hk⟩ := hpre
  simp only [slack] at hphi
  simp only [Pre'] at hk
  obtain ⟨hk, rfl⟩ := hk
  obtain ⟨f1, f2, f3, f4, f5, f6⟩ := dIn_facts hk
  simp only [body, go, done, primM, itemsM, unaryM, valuesM, elemsM, entryM, List.map_nil]
  refine Wl.down hB hd (by omega) fun hne => Wl.tt ?_
  refine Wl.call (ih pr _ [] (by simp only [mu, rank]; omega) ⟨hd, by simp only; omega, by simp only; omega, by rw [f2]; exact hphi, f5 _⟩) hB fun r b hd hq => ?_
  obtain ⟨ho, hr, hn, hs⟩ := hq
  simp only [f3, f4] at ho hr hn
  have hs' := f6 _ _ _ _ hs
  refine Wl.up (Wl.ret (show b.row.length + 8 * b.rest.length ≤ B by omega) ⟨?_, ?_, ?_, hs'⟩)
  · show max (b.opn - 1) 0 = a.opn
    omega
  · simp only [dr, f3]; exact hr
  · simp only [gain, loss]; exact hn
theorem t_node {pr : Proc} (k : Int) (hB : B ≤ 4294967000) (ih : IHT B (mu (.node k pr) a)) (hpre : PreT B (.node k pr) a ms) : Wl B (body (.node k pr)) a ms (PostT (.node k pr) a ms) := by
  obtain ⟨hd, h0, h1, hphi, hk⟩ := hpre
  simp only [slack] at hphi
  simp only [Pre'] at hk
  obtain ⟨k1, k2, k3, hk, rfl, hkk⟩ := hk
  obtain ⟨f2, f3, f4, f5, f6, f7⟩ := nIn_facts hk
  simp only [body, go, done, primM, itemsM, unaryM, valuesM, elemsM, entryM, List.map_nil]
  refine Wl.mark (by decide) ?_
  rw [List.nil_append]
  refine Wl.call (ih pr _ [] (by simp only [mu, rank]; omega) ⟨hd, h0, h1, by rw [f2]; exact hphi, f6 _ hkk⟩) hB fun r b hd hq => ?_
  obtain ⟨ho, hr, hn, hs⟩ := hq
  simp only [f3, f4] at ho hr hn
  have hp := f7 _ _ _ _ hs
  refine Wl.close rfl hB hd (by omega) hp ⟨k1, .inl ⟨k2, k3⟩⟩ fun c hd ho hr hs hn => ?_
  refine Wl.ret (by omega) ⟨by omega, ?_, ?_, hs⟩
  · simp only [dr, f3]; omega
  · simp only [gain, loss]; omega
theorem t_items {pr : Proc} (hB : B ≤ 4294967000) (ih : IHT B (mu (.items pr) a)) (hpre : PreT B (.items pr) a ms) : Wl B (body (.items pr)) a ms (PostT (.items pr) a ms) := by
  obtain ⟨hd, h0, h1, hphi, hk⟩ := hpre
  simp only [slack] at hphi
  simp only [Pre'] at hk
  obtain ⟨hk, rfl⟩ := hk
  obtain ⟨f1, f2, f3, f4, f5, f6⟩ := iIn_facts hk
  have hp := List.prefix_rfl (l := a.row)
  simp only [body, go, done, primM, itemsM, unaryM, valuesM, elemsM, entryM, List.map_nil]
  refine Wl.expect (by decide) hB hd (by omega) fun b hd ho hq hr hn => ?_
  (try replace hop := hop.trans hq); (try replace hp := hp.trans hq)
  refine Wl.call (ih (.itemsL pr) _ [] (by simp only [mu, rank]; omega) ⟨by assumption, by omega, by omega, by simp only [slack]; omega, hk, rfl⟩) hB (fun r b hd hq => ?_)
  (obtain ⟨ho, hr, hn, hs⟩ := hq; simp only [dr, gain, loss, Shape, Nat.add_zero] at hr hn hs; (try replace hs := hs _ rfl (by assumption)); (first | ((try replace hop := hop.trans hs); replace hp := hp.trans hs) | ((try replace hop := hop.trans hs.1); replace hp := hp.trans hs.1) | ((first | replace hop := hop.trans hs.pre | have hop := hs.op); (try replace hp := hp.trans hs.pre)) | skip))
  repeat' (first | with_reducible refine Wl.tt ?_ | with_reducible refine Wl.ff ?_ | ((with_reducible refine Wl.ret (by omega) ⟨by omega, by (try simp only [dr]); omega, by (try simp only [gain, loss]); omega, ?_⟩); (try simp only [Shape]); first | assumption | exact List.prefix_rfl | exact hs.nt | exact hop.nt | (refine ⟨by assumption, ?_⟩; first | omega | (simp; done))) | with_reducible refine Wl.kind (fun x hx => ?_) | ((with_reducible refine Wl.taken hB (by assumption) (by omega) (fun b hd ho hq hr hn => ?_) (fun hc => ?_)) <;> ((try replace hop := hop.trans hq); (try replace hp := hp.trans hq))) | ((with_reducible refine Wl.expect (by decide) hB (by assumption) (by omega) (fun b hd ho hq hr hn => ?_)); ((try replace hop := hop.trans hq); (try replace hp := hp.trans hq))) | ((with_reducible refine Wl.take hB (by assumption) (by omega) (by first | assumption | omega) (fun b hd ho hq hr hn => ?_)); ((try replace hop := hop.trans hq); (try replace hp := hp.trans hq))) | with_reducible refine Wl.comes (fun hc hk => ?_) (fun hc => ?_) | with_reducible refine Wl.lookB (fun hc => ?_) (fun hc => ?_) | with_reducible refine Wl.deadq (by assumption) ?_ | with_reducible refine Wl.fail hB (by omega) | ((with_reducible refine Wl.none_ hB (by assumption) (by omega) (fun b hd ho hr hq hn => ?_)); (try replace hop := hop.trans hq.pre); (try replace hp := hp.trans hq.pre)) | ((refine Wl.close (by rfl) hB (by assumption) (by omega) (by assumption) ⟨by omega, by first | exact Or.inl ⟨by omega, by omega⟩ | exact Or.inr (by assumption)⟩ (fun b hd ho hr hs hn => ?_)); (try replace hop := hs.op); (try replace hp := hs.pre)) | ((with_reducible refine Wl.mark (by decide) ?_); (try rw [List.nil_append])) | ((refine Wl.call (ih _ _ _ (by simp only [mu, rank]; omega) ⟨by assumption, by omega, by omega, by simp only [slack]; omega, by simp only [Pre']; first | rfl | trivial | assumption | omega | exact ⟨_, rfl, by assumption⟩ | (exact ⟨by omega, by omega, by omega, trivial, rfl, fun h => by first | omega | (rcases h with h | h <;> cases h)⟩) | exact ⟨trivial, rfl⟩⟩) hB (fun r b hd hq => ?_)); (obtain ⟨ho, hr, hn, hs⟩ := hq; simp only [dr, gain, loss, Shape, Nat.add_zero] at hr hn hs; (try replace hs := hs _ rfl (by assumption)); (first | ((try replace hop := hop.trans hs); replace hp := hp.trans hs) | ((try replace hop := hop.trans hs.1); replace hp := hp.trans hs.1) | ((first | replace hop := hop.trans hs.pre | have hop := hs.op); (try replace hp := hp.trans hs.pre)) | skip))) | with_reducible refine Wl.ite (fun hc => ?_) (fun hc => ?_) | refine Wl.lit (by rfl) (by assumption) (fun c => ?_))
theorem t_itemsL {pr : Proc} (hB : B ≤ 4294967000) (ih : IHT B (mu (.itemsL pr) a)) (hpre : PreT B (.itemsL pr) a ms) : Wl B (body (.itemsL pr)) a ms (PostT (.itemsL pr) a ms) := by
  obtain ⟨hd, h0, h1, hphi, hk⟩ := hpre
  simp only [slack] at hphi
  simp only [Pre'] at hk
  obtain ⟨hk, rfl⟩ := hk
  obtain ⟨f1, f2, f3, f4, f5, f6⟩ := iIn_facts hk
  have hp := List.prefix_rfl (l := a.row)
  simp only [body, go, done, primM, itemsM, unaryM, valuesM, elemsM, entryM, List.map_nil]
  refine Wl.deadq hd (Wl.ff (Wl.comes (fun hc hkk => Wl.tt ?_) fun hc => Wl.ff ?_))
  · repeat' (first | with_reducible refine Wl.tt ?_ | with_reducible refine Wl.ff ?_ | ((with_reducible refine Wl.ret (by omega) ⟨by omega, by (try simp only [dr]); omega, by (try simp only [gain, loss]); omega, ?_⟩); (try simp only [Shape]); first | assumption | exact List.prefix_rfl | exact hs.nt | exact hop.nt | (refine ⟨by assumption, ?_⟩; first | omega | (simp; done))) | with_reducible refine Wl.kind (fun x hx => ?_) | ((with_reducible refine Wl.taken hB (by assumption) (by omega) (fun b hd ho hq hr hn => ?_) (fun hc => ?_)) <;> ((try replace hop := hop.trans hq); (try replace hp := hp.trans hq))) | ((with_reducible refine Wl.expect (by decide) hB (by assumption) (by omega) (fun b hd ho hq hr hn => ?_)); ((try replace hop := hop.trans hq); (try replace hp := hp.trans hq))) | ((with_reducible refine Wl.take hB (by assumption) (by omega) (by first | assumption | omega) (fun b hd ho hq hr hn => ?_)); ((try replace hop := hop.trans hq); (try replace hp := hp.trans hq))) | with_reducible refine Wl.comes (fun hc hk => ?_) (fun hc => ?_) | with_reducible refine Wl.lookB (fun hc => ?_) (fun hc => ?_) | with_reducible refine Wl.deadq (by assumption) ?_ | with_reducible refine Wl.fail hB (by omega) | ((with_reducible refine Wl.none_ hB (by assumption) (by omega) (fun b hd ho hr hq hn => ?_)); (try replace hop := hop.trans hq.pre); (try replace hp := hp.trans hq.pre)) | ((refine Wl.close (by rfl) hB (by assumption) (by omega) (by assumption) ⟨by omega, by first | exact Or.inl ⟨by omega, by omega⟩ | exact Or.inr (by assumption)⟩ (fun b hd ho hr hs hn => ?_)); (try replace hop := hs.op); (try replace hp := hs.pre)) | ((with_reducible refine Wl.mark (by decide) ?_); (try rw [List.nil_append])) | ((refine Wl.call (ih _ _ _ (by simp only [mu, rank]; omega) ⟨by assumption, by omega, by omega, by simp only [slack]; omega, by simp only [Pre']; first | rfl | trivial | assumption | omega | exact ⟨_, rfl, by assumption⟩ | (exact ⟨by omega, by omega, by omega, trivial, rfl, fun h => by first | omega | (rcases h with h | h <;> cases h)⟩) | exact ⟨trivial, rfl⟩⟩) hB (fun r b hd hq => ?_)); (obtain ⟨ho, hr, hn, hs⟩ := hq; simp only [dr, gain, loss, Shape, Nat.add_zero] at hr hn hs; (try replace hs := hs _ rfl (by assumption)); (first | ((try replace hop := hop.trans hs); replace hp := hp.trans hs) | ((try replace hop := hop.trans hs.1); replace hp := hp.trans hs.1) | ((first | replace hop := hop.trans hs.pre | have hop := hs.op); (try replace hp := hp.trans hs.pre)) | skip))) | with_reducible refine Wl.ite (fun hc => ?_) (fun hc => ?_) | refine Wl.lit (by rfl) (by assumption) (fun c => ?_))
  · refine Wl.call (ih pr _ [] (by simp only [mu, rank]; omega) ⟨hd, h0, h1, by rw [f2]; exact hphi, f5 _⟩) hB fun r b hd hq => ?_
    obtain ⟨ho, hr, hn, hs⟩ := hq
    simp only [f3, f4] at ho hr hn
    have hp := f6 _ _ _ _ hs
    refine Wl.taken hB hd (by omega) (fun b hd ho hq hr hn => Wl.tt ?_) fun hc => Wl.ff ?_
    · (try replace hop := hop.trans hq); (try replace hp := hp.trans hq)
      refine Wl.call (ih (.itemsL pr) _ [] (by simp only [mu, rank]; omega) ⟨by assumption, by omega, by omega, by simp only [slack]; omega, hk, rfl⟩) hB (fun r b hd hq => ?_)
      (obtain ⟨ho, hr, hn, hs⟩ := hq; simp only [dr, gain, loss, Shape, Nat.add_zero] at hr hn hs; (try replace hs := hs _ rfl (by assumption)); (first | ((try replace hop := hop.trans hs); replace hp := hp.trans hs) | ((try replace hop := hop.trans hs.1); replace hp := hp.trans hs.1) | ((first | replace hop := hop.trans hs.pre | have hop := hs.op); (try replace hp := hp.trans hs.pre)) | skip))
      repeat' (first | with_reducible refine Wl.tt ?_ | with_reducible refine Wl.ff ?_ | ((with_reducible refine Wl.ret (by omega) ⟨by omega, by (try simp only [dr]); omega, by (try simp only [gain, loss]); omega, ?_⟩); (try simp only [Shape]); first | assumption | exact List.prefix_rfl | exact hs.nt | exact hop.nt | (refine ⟨by assumption, ?_⟩; first | omega | (simp; done))) | with_reducible refine Wl.kind (fun x hx => ?_) | ((with_reducible refine Wl.taken hB (by assumption) (by omega) (fun b hd ho hq hr hn => ?_) (fun hc => ?_)) <;> ((try replace hop := hop.trans hq); (try replace hp := hp.trans hq))) | ((with_reducible refine Wl.expect (by decide) hB (by assumption) (by omega) (fun b hd ho hq hr hn => ?_)); ((try replace hop := hop.trans hq); (try replace hp := hp.trans hq))) | ((with_reducible refine Wl.take hB (by assumption) (by omega) (by first | assumption | omega) (fun b hd ho hq hr hn => ?_)); ((try replace hop := hop.trans hq); (try replace hp := hp.trans hq))) | with_reducible refine Wl.comes (fun hc hk => ?_) (fun hc => ?_) | with_reducible refine Wl.lookB (fun hc => ?_) (fun hc => ?_) | with_reducible refine Wl.deadq (by assumption) ?_ | with_reducible refine Wl.fail hB (by omega) | ((with_reducible refine Wl.none_ hB (by assumption) (by omega) (fun b hd ho hr hq hn => ?_)); (try replace hop := hop.trans hq.pre); (try replace hp := hp.trans hq.pre)) | ((refine Wl.close (by rfl) hB (by assumption) (by omega) (by assumption) ⟨by omega, by first | exact Or.inl ⟨by omega, by omega⟩ | exact Or.inr (by assumption)⟩ (fun b hd ho hr hs hn => ?_)); (try replace hop := hs.op); (try replace hp := hs.pre)) | ((with_reducible refine Wl.mark (by decide) ?_); (try rw [List.nil_append])) | ((refine Wl.call (ih _ _ _ (by simp only [mu, rank]; omega) ⟨by assumption, by omega, by omega, by simp only [slack]; omega, by simp only [Pre']; first | rfl | trivial | assumption | omega | exact ⟨_, rfl, by assumption⟩ | (exact ⟨by omega, by omega, by omega, trivial, rfl, fun h => by first | omega | (rcases h with h | h <;> cases h)⟩) | exact ⟨trivial, rfl⟩⟩) hB (fun r b hd hq => ?_)); (obtain ⟨ho, hr, hn, hs⟩ := hq; simp only [dr, gain, loss, Shape, Nat.add_zero] at hr hn hs; (try replace hs := hs _ rfl (by assumption)); (first | ((try replace hop := hop.trans hs); replace hp := hp.trans hs) | ((try replace hop := hop.trans hs.1); replace hp := hp.trans hs.1) | ((first | replace hop := hop.trans hs.pre | have hop := hs.op); (try replace hp := hp.trans hs.pre)) | skip))) | with_reducible refine Wl.ite (fun hc => ?_) (fun hc => ?_) | refine Wl.lit (by rfl) (by assumption) (fun c => ?_))
    · repeat' (first | with_reducible refine Wl.tt ?_ | with_reducible refine Wl.ff ?_ | ((with_reducible refine Wl.ret (by omega) ⟨by omega, by (try simp only [dr]); omega, by (try simp only [gain, loss]); omega, ?_⟩); (try simp only [Shape]); first | assumption | exact List.prefix_rfl | exact hs.nt | exact hop.nt | (refine ⟨by assumption, ?_⟩; first | omega | (simp; done))) | with_reducible refine Wl.kind (fun x hx => ?_) | ((with_reducible refine Wl.taken hB (by assumption) (by omega) (fun b hd ho hq hr hn => ?_) (fun hc => ?_)) <;> ((try replace hop := hop.trans hq); (try replace hp := hp.trans hq))) | ((with_reducible refine Wl.expect (by decide) hB (by assumption) (by omega) (fun b hd ho hq hr hn => ?_)); ((try replace hop := hop.trans hq); (try replace hp := hp.trans hq))) | ((with_reducible refine Wl.take hB (by assumption) (by omega) (by first | assumption | omega) (fun b hd ho hq hr hn => ?_)); ((try replace hop := hop.trans hq); (try replace hp := hp.trans hq))) | with_reducible refine Wl.comes (fun hc hk => ?_) (fun hc => ?_) | with_reducible refine Wl.lookB (fun hc => ?_) (fun hc => ?_) | with_reducible refine Wl.deadq (by assumption) ?_ | with_reducible refine Wl.fail hB (by omega) | ((with_reducible refine Wl.none_ hB (by assumption) (by omega) (fun b hd ho hr hq hn => ?_)); (try replace hop := hop.trans hq.pre); (try replace hp := hp.trans hq.pre)) | ((refine Wl.close (by rfl) hB (by assumption) (by omega) (by assumption) ⟨by omega, by first | exact Or.inl ⟨by omega, by omega⟩ | exact Or.inr (by assumption)⟩ (fun b hd ho hr hs hn => ?_)); (try replace hop := hs.op); (try replace hp := hs.pre)) | ((with_reducible refine Wl.mark (by decide) ?_); (try rw [List.nil_append])) | ((refine Wl.call (ih _ _ _ (by simp only [mu, rank]; omega) ⟨by assumption, by omega, by omega, by simp only [slack]; omega, by simp only [Pre']; first | rfl | trivial | assumption | omega | exact ⟨_, rfl, by assumption⟩ | (exact ⟨by omega, by omega, by omega, trivial, rfl, fun h => by first | omega | (rcases h with h | h <;> cases h)⟩) | exact ⟨trivial, rfl⟩⟩) hB (fun r b hd hq => ?_)); (obtain ⟨ho, hr, hn, hs⟩ := hq; simp only [dr, gain, loss, Shape, Nat.add_zero] at hr hn hs; (try replace hs := hs _ rfl (by assumption)); (first | ((try replace hop := hop.trans hs); replace hp := hp.trans hs) | ((try replace hop := hop.trans hs.1); replace hp := hp.trans hs.1) | ((first | replace hop := hop.trans hs.pre | have hop := hs.op); (try replace hp := hp.trans hs.pre)) | skip))) | with_reducible refine Wl.ite (fun hc => ?_) (fun hc => ?_) | refine Wl.lit (by rfl) (by assumption) (fun c => ?_))
theorem t_binaryL (q : Int) (head : Bool) (hB : B ≤ 4294967000) (ih : IHT B (mu (.binaryL q head) a)) (hpre : PreT B (.binaryL q head) a ms) : Wl B (body (.binaryL q head)) a ms (PostT (.binaryL q head) a ms) := by
  obtain ⟨hd, h0, h1, hphi, hk⟩ := hpre
  simp only [slack] at hphi
  simp only [Pre'] at hk
  obtain ⟨R, rfl, hN⟩ := hk
  have hp : R <+: a.row := hN.pre
  have hop : Op R a.row := hN.op
  refine Wl.mono (Q := fun r b => Po 0 0 0 (N1 R b.row) a b) ?_ (fun r b hd h => ⟨h.opn, h.rest, h.phi, shapeR hN.pre h.shape⟩)
  simp only [body, go, done, primM, itemsM, unaryM, valuesM, elemsM, entryM, List.map_nil]
  refine Wl.look fun x hx => Wl.ite (fun hc => Wl.ite (fun hc2 => ?_) (fun hc2 => ?_)) (fun hc => ?_)
  · have hk : a.kinds.getD 0 0 ≠ 0 := by
      intro h; rw [h] at hx; rw [← hx] at hc; exact absurd hc (by decide)
    refine Wl.take hB hd (by omega) hk fun b hd ho hq hr hn => ?_
    (try replace hop := hop.trans hq); (try replace hp := hp.trans hq)
    repeat' (first | with_reducible refine Wl.tt ?_ | with_reducible refine Wl.ff ?_ | ((with_reducible refine Wl.ret (by omega) ⟨by omega, by (try simp only [dr]); omega, by (try simp only [gain, loss]); omega, ?_⟩); (try simp only [Shape]); first | assumption | exact List.prefix_rfl | exact hs.nt | exact hop.nt | (refine ⟨by assumption, ?_⟩; first | omega | (simp; done))) | with_reducible refine Wl.kind (fun x hx => ?_) | ((with_reducible refine Wl.taken hB (by assumption) (by omega) (fun b hd ho hq hr hn => ?_) (fun hc => ?_)) <;> ((try replace hop := hop.trans hq); (try replace hp := hp.trans hq))) | ((with_reducible refine Wl.expect (by decide) hB (by assumption) (by omega) (fun b hd ho hq hr hn => ?_)); ((try replace hop := hop.trans hq); (try replace hp := hp.trans hq))) | ((with_reducible refine Wl.take hB (by assumption) (by omega) (by first | assumption | omega) (fun b hd ho hq hr hn => ?_)); ((try replace hop := hop.trans hq); (try replace hp := hp.trans hq))) | with_reducible refine Wl.comes (fun hc hk => ?_) (fun hc => ?_) | with_reducible refine Wl.lookB (fun hc => ?_) (fun hc => ?_) | with_reducible refine Wl.deadq (by assumption) ?_ | with_reducible refine Wl.fail hB (by omega) | ((with_reducible refine Wl.none_ hB (by assumption) (by omega) (fun b hd ho hr hq hn => ?_)); (try replace hop := hop.trans hq.pre); (try replace hp := hp.trans hq.pre)) | ((refine Wl.close (by rfl) hB (by assumption) (by omega) (by assumption) ⟨by omega, by first | exact Or.inl ⟨by omega, by omega⟩ | exact Or.inr (by assumption)⟩ (fun b hd ho hr hs hn => ?_)); (try replace hop := hs.op); (try replace hp := hs.pre)) | ((with_reducible refine Wl.mark (by decide) ?_); (try rw [List.nil_append])) | ((refine Wl.call (ih _ _ _ (by simp only [mu, rank]; omega) ⟨by assumption, by omega, by omega, by simp only [slack]; omega, by simp only [Pre']; first | rfl | trivial | assumption | omega | exact ⟨_, rfl, by assumption⟩ | (exact ⟨by omega, by omega, by omega, trivial, rfl, fun h => by first | omega | (rcases h with h | h <;> cases h)⟩) | exact ⟨trivial, rfl⟩⟩) hB (fun r b hd hq => ?_)); (obtain ⟨ho, hr, hn, hs⟩ := hq; simp only [dr, gain, loss, Shape, Nat.add_zero] at hr hn hs; (try replace hs := hs _ rfl (by assumption)); (first | ((try replace hop := hop.trans hs); replace hp := hp.trans hs) | ((try replace hop := hop.trans hs.1); replace hp := hp.trans hs.1) | ((first | replace hop := hop.trans hs.pre | have hop := hs.op); (try replace hp := hp.trans hs.pre)) | skip))) | with_reducible refine Wl.ite (fun hc => ?_) (fun hc => ?_) | refine Wl.lit (by rfl) (by assumption) (fun c => ?_))
  repeat' (first | with_reducible refine Wl.tt ?_ | with_reducible refine Wl.ff ?_ | ((with_reducible refine Wl.ret (by omega) ⟨by omega, by (try simp only [dr]); omega, by (try simp only [gain, loss]); omega, ?_⟩); (try simp only [Shape]); first | assumption | exact List.prefix_rfl | exact hs.nt | exact hop.nt | (refine ⟨by assumption, ?_⟩; first | omega | (simp; done))) | with_reducible refine Wl.kind (fun x hx => ?_) | ((with_reducible refine Wl.taken hB (by assumption) (by omega) (fun b hd ho hq hr hn => ?_) (fun hc => ?_)) <;> ((try replace hop := hop.trans hq); (try replace hp := hp.trans hq))) | ((with_reducible refine Wl.expect (by decide) hB (by assumption) (by omega) (fun b hd ho hq hr hn => ?_)); ((try replace hop := hop.trans hq); (try replace hp := hp.trans hq))) | ((with_reducible refine Wl.take hB (by assumption) (by omega) (by first | assumption | omega) (fun b hd ho hq hr hn => ?_)); ((try replace hop := hop.trans hq); (try replace hp := hp.trans hq))) | with_reducible refine Wl.comes (fun hc hk => ?_) (fun hc => ?_) | with_reducible refine Wl.lookB (fun hc => ?_) (fun hc => ?_) | with_reducible refine Wl.deadq (by assumption) ?_ | with_reducible refine Wl.fail hB (by omega) | ((with_reducible refine Wl.none_ hB (by assumption) (by omega) (fun b hd ho hr hq hn => ?_)); (try replace hop := hop.trans hq.pre); (try replace hp := hp.trans hq.pre)) | ((refine Wl.close (by rfl) hB (by assumption) (by omega) (by assumption) ⟨by omega, by first | exact Or.inl ⟨by omega, by omega⟩ | exact Or.inr (by assumption)⟩ (fun b hd ho hr hs hn => ?_)); (try replace hop := hs.op); (try replace hp := hs.pre)) | ((with_reducible refine Wl.mark (by decide) ?_); (try rw [List.nil_append])) | ((refine Wl.call (ih _ _ _ (by simp only [mu, rank]; omega) ⟨by assumption, by omega, by omega, by simp only [slack]; omega, by simp only [Pre']; first | rfl | trivial | assumption | omega | exact ⟨_, rfl, by assumption⟩ | (exact ⟨by omega, by omega, by omega, trivial, rfl, fun h => by first | omega | (rcases h with h | h <;> cases h)⟩) | exact ⟨trivial, rfl⟩⟩) hB (fun r b hd hq => ?_)); (obtain ⟨ho, hr, hn, hs⟩ := hq; simp only [dr, gain, loss, Shape, Nat.add_zero] at hr hn hs; (try replace hs := hs _ rfl (by assumption)); (first | ((try replace hop := hop.trans hs); replace hp := hp.trans hs) | ((try replace hop := hop.trans hs.1); replace hp := hp.trans hs.1) | ((first | replace hop := hop.trans hs.pre | have hop := hs.op); (try replace hp := hp.trans hs.pre)) | skip))) | with_reducible refine Wl.ite (fun hc => ?_) (fun hc => ?_) | refine Wl.lit (by rfl) (by assumption) (fun c => ?_))
set_option maxHeartbeats 4000000 in
theorem t_loops (head : Bool) (hB : B ≤ 4294967000) : (IHT B (mu (.primaryL head) a) → PreT B (.primaryL head) a ms → Wl B (body (.primaryL head)) a ms (PostT (.primaryL head) a ms)) ∧ (IHT B (mu .formL a) → PreT B .formL a ms → Wl B (body .formL) a ms (PostT .formL a ms)) ∧ (IHT B (mu .fieldL a) → PreT B .fieldL a ms → Wl B (body .fieldL) a ms (PostT .fieldL a ms)) := by
  refine ⟨?_, ?_, ?_⟩ <;> (intro ih hpre; obtain ⟨hd, h0, h1, hphi, hk⟩ := hpre; simp only [slack] at hphi; simp only [Pre'] at hk; obtain ⟨R, rfl, hN⟩ := hk; have hp : R <+: a.row := (by first | exact N1.pre hN | exact Op.pre hN | exact hN); have hp0 := hp; (try have hop : Op R a.row := (by first | exact N1.op hN | exact hN)); refine Wl.mono (Q := fun r b => Po 0 0 0 (N1 R b.row) a b) ?_ (fun r b hd h => ⟨h.opn, h.rest, h.phi, shapeR hp0 h.shape⟩); (simp only [body, go, done, primM, itemsM, unaryM, valuesM, elemsM, entryM, List.map_nil]); repeat' (first | with_reducible refine Wl.tt ?_ | with_reducible refine Wl.ff ?_ | ((with_reducible refine Wl.ret (by omega) ⟨by omega, by (try simp only [dr]); omega, by (try simp only [gain, loss]); omega, ?_⟩); (try simp only [Shape]); first | assumption | exact List.prefix_rfl | exact hs.nt | exact hop.nt | (refine ⟨by assumption, ?_⟩; first | omega | (simp; done))) | with_reducible refine Wl.kind (fun x hx => ?_) | ((with_reducible refine Wl.taken hB (by assumption) (by omega) (fun b hd ho hq hr hn => ?_) (fun hc => ?_)) <;> ((try replace hop := hop.trans hq); (try replace hp := hp.trans hq))) | ((with_reducible refine Wl.expect (by decide) hB (by assumption) (by omega) (fun b hd ho hq hr hn => ?_)); ((try replace hop := hop.trans hq); (try replace hp := hp.trans hq))) | ((with_reducible refine Wl.take hB (by assumption) (by omega) (by first | assumption | omega) (fun b hd ho hq hr hn => ?_)); ((try replace hop := hop.trans hq); (try replace hp := hp.trans hq))) | with_reducible refine Wl.comes (fun hc hk => ?_) (fun hc => ?_) | with_reducible refine Wl.lookB (fun hc => ?_) (fun hc => ?_) | with_reducible refine Wl.deadq (by assumption) ?_ | with_reducible refine Wl.fail hB (by omega) | ((with_reducible refine Wl.none_ hB (by assumption) (by omega) (fun b hd ho hr hq hn => ?_)); (try replace hop := hop.trans hq.pre); (try replace hp := hp.trans hq.pre)) | ((refine Wl.close (by rfl) hB (by assumption) (by omega) (by assumption) ⟨by omega, by first | exact Or.inl ⟨by omega, by omega⟩ | exact Or.inr (by assumption)⟩ (fun b hd ho hr hs hn => ?_)); (try replace hop := hs.op); (try replace hp := hs.pre)) | ((with_reducible refine Wl.mark (by decide) ?_); (try rw [List.nil_append])) | ((refine Wl.call (ih _ _ _ (by simp only [mu, rank]; omega) ⟨by assumption, by omega, by omega, by simp only [slack]; omega, by simp only [Pre']; first | rfl | trivial | assumption | omega | exact ⟨_, rfl, by assumption⟩ | (exact ⟨by omega, by omega, by omega, trivial, rfl, fun h => by first | omega | (rcases h with h | h <;> cases h)⟩) | exact ⟨trivial, rfl⟩⟩) hB (fun r b hd hq => ?_)); (obtain ⟨ho, hr, hn, hs⟩ := hq; simp only [dr, gain, loss, Shape, Nat.add_zero] at hr hn hs; (try replace hs := hs _ rfl (by assumption)); (first | ((try replace hop := hop.trans hs); replace hp := hp.trans hs) | ((try replace hop := hop.trans hs.1); replace hp := hp.trans hs.1) | ((first | replace hop := hop.trans hs.pre | have hop := hs.op); (try replace hp := hp.trans hs.pre)) | skip))) | with_reducible refine Wl.ite (fun hc => ?_) (fun hc => ?_) | refine Wl.lit (by rfl) (by assumption) (fun c => ?_)))
theorem t_primaryL (head : Bool) (hB : B ≤ 4294967000) (ih : IHT B (mu (.primaryL head) a)) (hpre : PreT B (.primaryL head) a ms) : Wl B (body (.primaryL head)) a ms (PostT (.primaryL head) a ms) := (t_loops head hB).1 ih hpre
theorem t_formL (hB : B ≤ 4294967000) (ih : IHT B (mu .formL a)) (hpre : PreT B .formL a ms) : Wl B (body .formL) a ms (PostT .formL a ms) := (t_loops false hB).2.1 ih hpre
theorem t_fieldL (hB : B ≤ 4294967000) (ih : IHT B (mu .fieldL a)) (hpre : PreT B .fieldL a ms) : Wl B (body .fieldL) a ms (PostT .fieldL a ms) := (t_loops false hB).2.2 ih hpre
set_option maxHeartbeats 4000000 in
theorem t_two (hB : B ≤ 4294967000) : (IHT B (mu .entry1 a) → PreT B .entry1 a ms → Wl B (body .entry1) a ms (PostT .entry1 a ms)) ∧ (IHT B (mu .TParams11L a) → PreT B .TParams11L a ms → Wl B (body .TParams11L) a ms (PostT .TParams11L a ms)) := by
  refine ⟨?_, ?_⟩ <;> (intro ih hpre; obtain ⟨hd, h0, h1, hphi, hk⟩ := hpre; simp only [slack] at hphi; simp only [Pre'] at hk; (try subst hk); have hp := List.prefix_rfl (l := a.row); (simp only [body, go, done, primM, itemsM, unaryM, valuesM, elemsM, entryM, List.map_nil]); repeat' (first | with_reducible refine Wl.tt ?_ | with_reducible refine Wl.ff ?_ | ((with_reducible refine Wl.ret (by omega) ⟨by omega, by (try simp only [dr]); omega, by (try simp only [gain, loss]); omega, ?_⟩); (try simp only [Shape]); first | assumption | exact List.prefix_rfl | exact hs.nt | exact hop.nt | (refine ⟨by assumption, ?_⟩; first | omega | (simp; done))) | with_reducible refine Wl.kind (fun x hx => ?_) | ((with_reducible refine Wl.taken hB (by assumption) (by omega) (fun b hd ho hq hr hn => ?_) (fun hc => ?_)) <;> ((try replace hop := hop.trans hq); (try replace hp := hp.trans hq))) | ((with_reducible refine Wl.expect (by decide) hB (by assumption) (by omega) (fun b hd ho hq hr hn => ?_)); ((try replace hop := hop.trans hq); (try replace hp := hp.trans hq))) | ((with_reducible refine Wl.take hB (by assumption) (by omega) (by first | assumption | omega) (fun b hd ho hq hr hn => ?_)); ((try replace hop := hop.trans hq); (try replace hp := hp.trans hq))) | with_reducible refine Wl.comes (fun hc hk => ?_) (fun hc => ?_) | with_reducible refine Wl.lookB (fun hc => ?_) (fun hc => ?_) | with_reducible refine Wl.deadq (by assumption) ?_ | with_reducible refine Wl.fail hB (by omega) | ((with_reducible refine Wl.none_ hB (by assumption) (by omega) (fun b hd ho hr hq hn => ?_)); (try replace hop := hop.trans hq.pre); (try replace hp := hp.trans hq.pre)) | ((refine Wl.close (by rfl) hB (by assumption) (by omega) (by assumption) ⟨by omega, by first | exact Or.inl ⟨by omega, by omega⟩ | exact Or.inr (by assumption)⟩ (fun b hd ho hr hs hn => ?_)); (try replace hop := hs.op); (try replace hp := hs.pre)) | ((with_reducible refine Wl.mark (by decide) ?_); (try rw [List.nil_append])) | ((refine Wl.call (ih _ _ _ (by simp only [mu, rank]; omega) ⟨by assumption, by omega, by omega, by simp only [slack]; omega, by simp only [Pre']; first | rfl | trivial | assumption | omega | exact ⟨_, rfl, by assumption⟩ | (exact ⟨by omega, by omega, by omega, trivial, rfl, fun h => by first | omega | (rcases h with h | h <;> cases h)⟩) | exact ⟨trivial, rfl⟩⟩) hB (fun r b hd hq => ?_)); (obtain ⟨ho, hr, hn, hs⟩ := hq; simp only [dr, gain, loss, Shape, Nat.add_zero] at hr hn hs; (try replace hs := hs _ rfl (by assumption)); (first | ((try replace hop := hop.trans hs); replace hp := hp.trans hs) | ((try replace hop := hop.trans hs.1); replace hp := hp.trans hs.1) | ((first | replace hop := hop.trans hs.pre | have hop := hs.op); (try replace hp := hp.trans hs.pre)) | skip))) | with_reducible refine Wl.ite (fun hc => ?_) (fun hc => ?_) | refine Wl.lit (by rfl) (by assumption) (fun c => ?_)))
theorem t_entry1 (hB : B ≤ 4294967000) (ih : IHT B (mu .entry1 a)) (hpre : PreT B .entry1 a ms) : Wl B (body .entry1) a ms (PostT .entry1 a ms) := (t_two hB).1 ih hpre
theorem t_TParams11L (hB : B ≤ 4294967000) (ih : IHT B (mu .TParams11L a)) (hpre : PreT B .TParams11L a ms) : Wl B (body .TParams11L) a ms (PostT .TParams11L a ms) := (t_two hB).2 ih hpre
theorem t_TParamsL (more : Bool) (hB : B ≤ 4294967000) (ih : IHT B (mu (.TParamsL more) a)) (hpre : PreT B (.TParamsL more) a ms) : Wl B (body (.TParamsL more)) a ms (PostT (.TParamsL more) a ms) := by
  obtain ⟨hd, h0, h1, hphi, hk⟩ := hpre
  simp only [slack] at hphi
  simp only [Pre'] at hk
  subst hk
  have hp := List.prefix_rfl (l := a.row)
  simp only [body, go, done, primM, itemsM, unaryM, valuesM, elemsM, entryM, List.map_nil]
  refine Wl.ite (fun hm => Wl.deadq hd (Wl.ff ?_)) (fun hm => ?_)
  repeat' (first | with_reducible refine Wl.tt ?_ | with_reducible refine Wl.ff ?_ | ((with_reducible refine Wl.ret (by omega) ⟨by omega, by (try simp only [dr]); omega, by (try simp only [gain, loss]); omega, ?_⟩); (try simp only [Shape]); first | assumption | exact List.prefix_rfl | exact hs.nt | exact hop.nt | (refine ⟨by assumption, ?_⟩; first | omega | (simp; done))) | with_reducible refine Wl.kind (fun x hx => ?_) | ((with_reducible refine Wl.taken hB (by assumption) (by omega) (fun b hd ho hq hr hn => ?_) (fun hc => ?_)) <;> ((try replace hop := hop.trans hq); (try replace hp := hp.trans hq))) | ((with_reducible refine Wl.expect (by decide) hB (by assumption) (by omega) (fun b hd ho hq hr hn => ?_)); ((try replace hop := hop.trans hq); (try replace hp := hp.trans hq))) | ((with_reducible refine Wl.take hB (by assumption) (by omega) (by first | assumption | omega) (fun b hd ho hq hr hn => ?_)); ((try replace hop := hop.trans hq); (try replace hp := hp.trans hq))) | with_reducible refine Wl.comes (fun hc hk => ?_) (fun hc => ?_) | with_reducible refine Wl.lookB (fun hc => ?_) (fun hc => ?_) | with_reducible refine Wl.deadq (by assumption) ?_ | with_reducible refine Wl.fail hB (by omega) | ((with_reducible refine Wl.none_ hB (by assumption) (by omega) (fun b hd ho hr hq hn => ?_)); (try replace hop := hop.trans hq.pre); (try replace hp := hp.trans hq.pre)) | ((refine Wl.close (by rfl) hB (by assumption) (by omega) (by assumption) ⟨by omega, by first | exact Or.inl ⟨by omega, by omega⟩ | exact Or.inr (by assumption)⟩ (fun b hd ho hr hs hn => ?_)); (try replace hop := hs.op); (try replace hp := hs.pre)) | ((with_reducible refine Wl.mark (by decide) ?_); (try rw [List.nil_append])) | ((refine Wl.call (ih _ _ _ (by simp only [mu, rank]; omega) ⟨by assumption, by omega, by omega, by simp only [slack]; omega, by simp only [Pre']; first | rfl | trivial | assumption | omega | exact ⟨_, rfl, by assumption⟩ | (exact ⟨by omega, by omega, by omega, trivial, rfl, fun h => by first | omega | (rcases h with h | h <;> cases h)⟩) | exact ⟨trivial, rfl⟩⟩) hB (fun r b hd hq => ?_)); (obtain ⟨ho, hr, hn, hs⟩ := hq; simp only [dr, gain, loss, Shape, Nat.add_zero] at hr hn hs; (try replace hs := hs _ rfl (by assumption)); (first | ((try replace hop := hop.trans hs); replace hp := hp.trans hs) | ((try replace hop := hop.trans hs.1); replace hp := hp.trans hs.1) | ((first | replace hop := hop.trans hs.pre | have hop := hs.op); (try replace hp := hp.trans hs.pre)) | skip))) | with_reducible refine Wl.ite (fun hc => ?_) (fun hc => ?_) | refine Wl.lit (by rfl) (by assumption) (fun c => ?_))
theorem t_Params1 (hB : B ≤ 4294967000) (ih : IHT B (mu .Params1 a)) (hpre : PreT B .Params1 a ms) : Wl B (body .Params1) a ms (PostT .Params1 a ms) := by
  obtain ⟨hd, h0, h1, hphi, hk⟩ := hpre
  simp only [slack] at hphi
  simp only [Pre'] at hk
  subst hk
  have hp := List.prefix_rfl (l := a.row)
  simp only [body, go, done, primM, itemsM, unaryM, valuesM, elemsM, entryM, List.map_nil]
  refine Wl.expect (by decide) hB hd (by omega) fun b hd ho hq hr hn => ?_
  (try replace hop := hop.trans hq); (try replace hp := hp.trans hq)
  refine Wl.call (ih (.ParamsL []) _ [] (by simp only [mu, rank]; omega) ⟨by assumption, by omega, by omega, by simp only [slack, List.length_nil]; omega, rfl, by simp [entsOf, entsOK], by simp only [List.length_nil]; omega⟩) hB (fun r c hd hq => ?_)
  obtain ⟨ho, hr, hn, hs⟩ := hq
  simp only [dr, gain, loss, Shape, Nat.add_zero, List.length_nil] at hr hn hs
  replace hp := hp.trans (hs b.row List.prefix_rfl (by simp [entsOf, entsOK]))
  repeat' (first | with_reducible refine Wl.tt ?_ | with_reducible refine Wl.ff ?_ | ((with_reducible refine Wl.ret (by omega) ⟨by omega, by (try simp only [dr]); omega, by (try simp only [gain, loss]); omega, ?_⟩); (try simp only [Shape]); first | assumption | exact List.prefix_rfl | exact hs.nt | exact hop.nt | (refine ⟨by assumption, ?_⟩; first | omega | (simp; done))) | with_reducible refine Wl.kind (fun x hx => ?_) | ((with_reducible refine Wl.taken hB (by assumption) (by omega) (fun b hd ho hq hr hn => ?_) (fun hc => ?_)) <;> ((try replace hop := hop.trans hq); (try replace hp := hp.trans hq))) | ((with_reducible refine Wl.expect (by decide) hB (by assumption) (by omega) (fun b hd ho hq hr hn => ?_)); ((try replace hop := hop.trans hq); (try replace hp := hp.trans hq))) | ((with_reducible refine Wl.take hB (by assumption) (by omega) (by first | assumption | omega) (fun b hd ho hq hr hn => ?_)); ((try replace hop := hop.trans hq); (try replace hp := hp.trans hq))) | with_reducible refine Wl.comes (fun hc hk => ?_) (fun hc => ?_) | with_reducible refine Wl.lookB (fun hc => ?_) (fun hc => ?_) | with_reducible refine Wl.deadq (by assumption) ?_ | with_reducible refine Wl.fail hB (by omega) | ((with_reducible refine Wl.none_ hB (by assumption) (by omega) (fun b hd ho hr hq hn => ?_)); (try replace hop := hop.trans hq.pre); (try replace hp := hp.trans hq.pre)) | ((refine Wl.close (by rfl) hB (by assumption) (by omega) (by assumption) ⟨by omega, by first | exact Or.inl ⟨by omega, by omega⟩ | exact Or.inr (by assumption)⟩ (fun b hd ho hr hs hn => ?_)); (try replace hop := hs.op); (try replace hp := hs.pre)) | ((with_reducible refine Wl.mark (by decide) ?_); (try rw [List.nil_append])) | ((refine Wl.call (ih _ _ _ (by simp only [mu, rank]; omega) ⟨by assumption, by omega, by omega, by simp only [slack]; omega, by simp only [Pre']; first | rfl | trivial | assumption | omega | exact ⟨_, rfl, by assumption⟩ | (exact ⟨by omega, by omega, by omega, trivial, rfl, fun h => by first | omega | (rcases h with h | h <;> cases h)⟩) | exact ⟨trivial, rfl⟩⟩) hB (fun r b hd hq => ?_)); (obtain ⟨ho, hr, hn, hs⟩ := hq; simp only [dr, gain, loss, Shape, Nat.add_zero] at hr hn hs; (try replace hs := hs _ rfl (by assumption)); (first | ((try replace hop := hop.trans hs); replace hp := hp.trans hs) | ((try replace hop := hop.trans hs.1); replace hp := hp.trans hs.1) | ((first | replace hop := hop.trans hs.pre | have hop := hs.op); (try replace hp := hp.trans hs.pre)) | skip))) | with_reducible refine Wl.ite (fun hc => ?_) (fun hc => ?_) | refine Wl.lit (by rfl) (by assumption) (fun c => ?_))
theorem t_groupM {a0 : A} {ms0 : List Int} (ns0 ns : List Bool) (hB : B ≤ 4294967000) (hd : a.dead = false) (ho : a.opn = a0.opn) (hr : a.rest.length ≤ a0.rest.length) (hphi : a.row.length + 8 * a.rest.length + ns.length ≤ a0.row.length + 8 * a0.rest.length + ns0.length) (hb : a0.row.length + 8 * a0.rest.length + (ns0.length + 3) ≤ B)
    (he : entsOK a.row 0 (entsOf ms ns) = true) (hs : ∀ R : List Made, R <+: a0.row → entsOK a0.row R.length (entsOf ms0 ns0) = true → R <+: a.row ∧ entsOK a.row R.length (entsOf ms ns) = true) : Wl B (groupM ns) a ms (PostT (.ParamsL ns0) a0 ms0) := by
  have fin : ∀ any, Wl B (.group ns any (expect 62 done)) a ms (PostT (.ParamsL ns0) a0 ms0) := by
    intro any
    refine Wl.group hB hd (by omega) he fun b hd ho hr hn hg => ?_
    refine Wl.expect (by decide) hB hd (by omega) fun c hd ho hq hr hn => ?_
    refine Wl.ret (by omega) ⟨by omega, by simp only [dr]; omega, by simp only [gain, loss]; omega, fun R h1 h2 => ?_⟩
    obtain ⟨h3, h4⟩ := hs R h1 h2
    exact (hg R h3 h4).trans hq
  unfold groupM
  split
  · exact Wl.names hB hd (by omega) he (fin true)
  · exact fin false
theorem t_ParamsL (ns : List Bool) (hB : B ≤ 4294967000) (ih : IHT B (mu (.ParamsL ns) a)) (hpre : PreT B (.ParamsL ns) a ms) : Wl B (body (.ParamsL ns)) a ms (PostT (.ParamsL ns) a ms) := by
  obtain ⟨hd, h0, h1, hphi, hk⟩ := hpre
  simp only [slack] at hphi
  simp only [Pre'] at hk
  obtain ⟨hl, he, hb⟩ := hk
  simp only [body]
  have stop : Wl B (groupM ns) a ms (PostT (.ParamsL ns) a ms) := t_groupM ns ns hB hd rfl (Nat.le_refl _) (Nat.le_refl _) hphi he fun R h1 h2 => ⟨h1, h2⟩
  refine Wl.deadq hd (Wl.ff (Wl.comes (fun hc hk => Wl.tt stop) fun hc => Wl.ff ?_))
  refine Wl.mark (by omega) ?_
  refine Wl.call (ih .entry _ [] (by simp only [mu, rank]; omega) ⟨by assumption, by omega, by omega, by simp only [slack]; omega, rfl⟩) hB (fun r b hd hq => ?_)
  obtain ⟨ho, hr, hn, hs⟩ := hq
  simp only [dr, gain, loss, Shape, Nat.add_zero] at hr hn hs
  refine Wl.mark (by simp only [List.length_append, List.length_singleton]; omega) ?_
  rw [List.append_assoc, List.singleton_append]
  obtain ⟨new, hrow, hnt⟩ := hs
  have hsn : entsOf (ms ++ [(a.row.length : Int), (b.row.length : Int)]) (ns ++ [decide (r ≠ 0)]) = entsOf ms ns ++ [⟨(a.row.length : Int), (b.row.length : Int), decide (r ≠ 0)⟩] := entsOf_snocT _ _ _ hl
  have hse : ∀ m : Int, 0 ≤ m → entsOK a.row m (entsOf ms ns) = true → entsOK b.row m (entsOf (ms ++ [(a.row.length : Int), (b.row.length : Int)]) (ns ++ [decide (r ≠ 0)])) = true := by
    intro m hm h
    rw [hsn, hrow]
    exact entsOK_snoc hnt _ hm h
  refine Wl.taken hB hd (by omega) (fun c hd ho hq hr hn => Wl.tt ?_) fun hc => Wl.ff ?_
  · have hms : (List.range (2 * ns.length + 2)).map (fun h => (ms ++ [(a.row.length : Int), (b.row.length : Int)]).getD h 0) = ms ++ [(a.row.length : Int), (b.row.length : Int)] := by
      rw [show 2 * ns.length + 2 = (ms ++ [(a.row.length : Int), (b.row.length : Int)]).length by simp [hl]]
      exact range_mapT _
    obtain ⟨more, hmore⟩ := hq
    have hse2 : ∀ m : Int, 0 ≤ m → entsOK a.row m (entsOf ms ns) = true → entsOK c.row m (entsOf (ms ++ [(a.row.length : Int), (b.row.length : Int)]) (ns ++ [decide (r ≠ 0)])) = true := by
      intro m hm h
      rw [← hmore]
      exact entsOK_ext more hm (hse m hm h)
    refine Wl.call (Q1 := PostT (.ParamsL (ns ++ [decide (r ≠ 0)])) c (ms ++ [(a.row.length : Int), (b.row.length : Int)])) ?_ hB (fun r2 d hd hq => ?_)
    · rw [hms]
      exact ih (.ParamsL (ns ++ [decide (r ≠ 0)])) c _ (by simp only [mu, rank]; omega) ⟨by assumption, by omega, by omega, by simp only [slack, List.length_append, List.length_singleton]; omega, by simp [hl]; omega, hse2 0 (by omega) he, by simp only [List.length_append, List.length_singleton]; omega⟩
    · obtain ⟨ho, hr, hn, hs⟩ := hq
      simp only [dr, gain, loss, Shape, Nat.add_zero, List.length_append, List.length_singleton] at hr hn hs
      refine Wl.ret (by omega) ⟨by omega, by simp only [dr]; omega, by simp only [gain, loss]; omega, fun R h1 h2 => ?_⟩
      refine hs R ?_ (hse2 _ (by omega) h2)
      rw [← hmore, hrow, List.append_assoc]
      exact h1.trans (List.prefix_append _ _)
  · refine t_groupM ns (ns ++ [decide (r ≠ 0)]) hB hd (by omega) (by omega) (by simp only [List.length_append, List.length_singleton]; omega) hphi (hse 0 (by omega) he) fun R h1 h2 => ⟨?_, hse _ (by omega) h2⟩
    rw [hrow]
    exact h1.trans (List.prefix_append _ _)
/-- One procedure, where those below come to an end. -/
theorem t_step (hB : B ≤ 4294967000) (pr : Proc) (ih : IHT B (mu pr a)) (hpre : PreT B pr a ms) : Wl B (body pr) a ms (PostT pr a ms) := by
  cases pr
  · exact t_deeper hB ih hpre
  · exact t_node _ hB ih hpre
  · exact t_takeP hB hpre
  · exact t_items hB ih hpre
  · exact t_itemsL hB ih hpre
  · exact t_X _ hB ih hpre
  · exact t_X1 _ hB ih hpre
  · exact t_binary _ _ hB ih hpre
  · exact t_binaryL _ _ hB ih hpre
  · exact t_unary _ hB ih hpre
  · exact t_unary1 _ hB ih hpre
  · exact t_primary _ hB ih hpre
  · exact t_primaryL _ hB ih hpre
  · exact t_period hB ih hpre
  · exact t_index hB ih hpre
  · exact t_unless _ hB ih hpre
  · exact t_indexL hB ih hpre
  · exact t_arguments hB ih hpre
  · exact t_argsL hB ih hpre
  · exact t_value hB ih hpre
  · exact t_value1 hB ih hpre
  · exact t_values hB ih hpre
  · exact t_valuesL hB ih hpre
  · exact t_operand hB ih hpre
  · exact t_flat hB ih hpre
  · exact t_flatL _ hB ih hpre
  · exact t_Name hB ih hpre
  · exact t_List _ hB ih hpre
  · exact t_List1 _ hB ih hpre
  · exact t_ListL _ hB ih hpre
  · exact t_Type hB ih hpre
  · exact t_form hB ih hpre
  · exact t_formL hB ih hpre
  · exact t_elements hB ih hpre
  · exact t_qualified hB ih hpre
  · exact t_field hB ih hpre
  · exact t_fieldL hB ih hpre
  · exact t_element hB ih hpre
  · exact t_union hB ih hpre
  · exact t_unionL _ hB ih hpre
  · exact t_Sig hB ih hpre
  · exact t_Sig1 hB ih hpre
  · exact t_Params hB ih hpre
  · exact t_Params1 hB ih hpre
  · exact t_ParamsL _ hB ih hpre
  · exact t_entry hB ih hpre
  · exact t_entry1 hB ih hpre
  · exact t_TParams hB ih hpre
  · exact t_TParams1 hB ih hpre
  · exact t_TParamsL _ hB ih hpre
  · exact t_TParams11 hB ih hpre
  · exact t_TParams11L hB ih hpre
theorem t_all (hB : B ≤ 4294967000) : ∀ N, IHT B N
  | 0 => fun pr a ms h _ => absurd h (Nat.not_lt_zero _)
  | N + 1 => fun pr a ms h hpre => t_step hB pr (fun pr' a' ms' h' hp' => t_all hB N pr' a' ms' (by omega) hp') hpre
/-- EVERY PROCEDURE COMES TO AN END. -/
theorem ends (hB : B ≤ 4294967000) (pr : Proc) (hpre : PreT B pr a ms) : ∃ n r b, callN n pr a ms = some (r, b) ∧ b.row.length + 8 * b.rest.length ≤ B ∧ (b.dead = false → PostT pr a ms r b) := by
  obtain ⟨n, r, b, h1, h2⟩ := t_all hB (mu pr a + 1) pr a ms (Nat.lt_succ_self _) hpre
  exact ⟨n + 1, r, b, h1, h2⟩
end
end Go.AI.Rd
/- DERIVED. THE READER: no node has more parts than can be counted; a tree is the same as itself. -/
namespace Go.AI.Rd
inductive Small : Node → Prop
  | mk (k f t : Int) (kids : List Node) (h1 : kids.length < 1099511627776) (h2 : ∀ x ∈ kids, Small x) : Small (.mk k f t kids)
theorem Small.kids {n : Node} (h : Small n) : (Node.kids n).length < 1099511627776 ∧ ∀ x ∈ Node.kids n, Small x := by
  cases h with | mk k f t kids h1 h2 => exact ⟨h1, h2⟩
theorem Small.none_ (k f t : Int) : Small (.mk k f t []) := .mk k f t [] (by simp) (fun x hx => by cases hx)
def SM (row : List Made) : Prop := ∀ x ∈ row, Small x.n
theorem SM.append {r s : List Made} (h : SM r) (k : SM s) : SM (r ++ s) := fun x hx => (List.mem_append.1 hx).elim (h x) (k x)
theorem SM.take {r : List Made} (h : SM r) (n : Nat) : SM (r.take n) := fun x hx => h x (List.mem_of_mem_take hx)
theorem SM.drop {r : List Made} (h : SM r) (n : Nat) : SM (r.drop n) := fun x hx => h x (List.mem_of_mem_drop hx)
section
variable {a : A}
theorem small_take (h : SM a.row) : SM a.take.row := by
  unfold A.take
  split
  · exact h
  · split
    · exact h
    · refine h.append fun x hx => ?_
      obtain ⟨t, _, rfl⟩ := List.mem_map.1 hx
      exact Small.none_ _ _ _
theorem small_fail (h : SM a.row) (c : Int) : SM (a.fail c).row := by rw [(fail_dg c).2.2.1]; exact h
theorem small_none (h : SM a.row) : SM a.none_.row := by
  unfold A.none_
  split
  · exact h
  · refine h.append fun x hx => ?_
    simp only [List.mem_singleton] at hx
    subst hx
    exact Small.none_ _ _ _
theorem mem_dropWhile {p : Made → Bool} : ∀ {l : List Made} {x : Made}, x ∈ l.dropWhile p → x ∈ l
  | [], x, h => by simp at h
  | y :: l, x, h => by
    rw [List.dropWhile_cons] at h
    split at h
    · exact List.mem_cons_of_mem _ (mem_dropWhile h)
    · exact h
theorem mem_takeWhile {p : Made → Bool} {l : List Made} {x : Made} (h : x ∈ l.takeWhile p) : x ∈ l := (List.takeWhile_prefix p).subset h
theorem small_nodeOf {l : List Made} (h : SM l) (hl : l.length < 1099511627776) (k hr : Int) : Small (nodeOf k hr l).n := by
  refine .mk _ _ _ _ (by simpa using hl) fun x hx => ?_
  obtain ⟨y, hy, rfl⟩ := List.mem_map.1 hx
  exact h y hy
theorem small_close (h : SM a.row) (hl : a.row.length < 1099511627776) (m k : Int) : SM (a.close m k).row := by
  cases hd : a.dg with
  | none =>
    rw [(close_row hd m k).1]
    refine (h.take _).append (SM.append (fun x hx => h x (List.mem_of_mem_drop (mem_takeWhile hx))) fun x hx => ?_)
    simp only [List.mem_singleton] at hx
    subst hx
    unfold A.closed
    refine small_nodeOf (fun x hx => h x (List.mem_of_mem_drop (mem_dropWhile hx))) ?_ _ _
    have := (List.dropWhile_suffix (l := a.row.drop (a.clamp m)) triv).length_le
    simp only [List.length_drop] at this
    omega
  | some d => rw [close_dead (by unfold A.dead; rw [hd]; rfl)]; exact h
theorem small_gap (h : SM a.row) (m : Int) : SM (a.gap m).row := by
  unfold A.gap
  split
  · exact h
  · refine (h.take _).append fun x hx => ?_
    rcases List.mem_cons.1 hx with rfl | hx
    · exact Small.none_ _ _ _
    · exact h x (List.mem_of_mem_drop hx)
theorem small_group1 (h : SM a.row) (hl : a.row.length < 1099511627776) (g : Int × Int) : SM (A.group1 g a).row := by
  unfold A.group1
  exact (small_close (a := { a with row := a.row.take g.2.toNat }) (h.take _) (by simp only [List.length_take]; omega) g.1 233).append (h.drop _)
theorem small_groups : ∀ (gs : List (Int × Int)) (a : A), SM a.row → a.row.length + gs.length < 1099511627776 → SM (gs.foldl (fun b g => A.group1 g b) a).row
  | [], a, h, _ => h
  | g :: gs, a, h, hl => by
    simp only [List.length_cons] at hl
    rw [List.foldl_cons]
    have := (group1_facts (a := a) g).2.2.1
    exact small_groups gs _ (small_group1 h (by omega) g) (by omega)
theorem small_group (h : SM a.row) (any : Bool) (l : List Ent) (hl : a.row.length + l.length < 1099511627776) : SM (a.group any l).row := by
  unfold A.group
  split
  · exact h
  · refine small_groups _ a h ?_
    have := backGroups_len any l.reverse
    rw [List.length_reverse] at this
    omega
theorem small_names (h : SM a.row) (l : List Ent) : SM (a.names l).row := by
  unfold A.names; split
  · exact small_fail h _
  · exact h
theorem small_down (h : SM a.row) : SM a.down.2.row := by
  unfold A.down; split
  · exact h
  · split
    · exact small_fail h _
    · exact h
end
theorem runM_small {cf : Proc → A → List Int → Option (Int × A)} (hcf : ∀ pr a ms r b, SM a.row → cf pr a ms = some (r, b) → SM b.row) : ∀ (m : M) (a : A) (ms : List Int) (r : Int) (b : A), SM a.row → runM cf m a ms = some (r, b) → SM b.row := by
  intro m
  induction m with
  | ret v => intro a ms r b h hr; simp only [runM, Option.some.injEq, Prod.mk.injEq] at hr; obtain ⟨_, rfl⟩ := hr; exact h
  | look f k ih => intro a ms r b h hr; exact ih _ a ms r b h hr
  | lookB f k ih => intro a ms r b h hr; exact ih _ a ms r b h hr
  | dead k ih => intro a ms r b h hr; exact ih _ a ms r b h hr
  | take k ih =>
    intro a ms r b h hr
    simp only [runM] at hr
    split at hr
    · exact ih _ ms r b (small_take h) hr
    · cases hr
  | none_ k ih =>
    intro a ms r b h hr
    simp only [runM] at hr
    split at hr
    · exact ih _ ms r b (small_none h) hr
    · cases hr
  | mark k ih =>
    intro a ms r b h hr
    simp only [runM] at hr
    split at hr
    · exact ih a _ r b h hr
    · cases hr
  | close hh kd k ih =>
    intro a ms r b h hr
    simp only [runM] at hr
    split at hr
    · rename_i hroom
      rw [room_iff] at hroom
      exact ih _ ms r b (small_close h (by omega) _ _) hr
    · cases hr
  | gap hh k ih =>
    intro a ms r b h hr
    simp only [runM] at hr
    split at hr
    · exact ih _ ms r b (small_gap h _) hr
    · cases hr
  | last k ih => intro a ms r b h hr; exact ih _ a ms r b h hr
  | down k ih => intro a ms r b h hr; exact ih _ _ ms r b (small_down h) hr
  | up k ih => intro a ms r b h hr; exact ih a.up ms r b h hr
  | fail c k ih => intro a ms r b h hr; exact ih _ ms r b (small_fail h c) hr
  | lit hh head k ih =>
    intro a ms r b h hr
    simp only [runM] at hr
    split at hr
    · exact ih _ a ms r b h hr
    · cases hr
  | names ns k ih =>
    intro a ms r b h hr
    simp only [runM] at hr
    split at hr
    · exact ih _ ms r b (small_names h _) hr
    · cases hr
  | group ns any k ih =>
    intro a ms r b h hr
    simp only [runM] at hr
    split at hr
    · rename_i hc
      simp only [Bool.and_eq_true, Bool.or_eq_true, decide_eq_true_eq] at hc
      rcases hc with hc | hc
      · rw [group_dead hc] at hr; exact ih a ms r b h hr
      · have hroom := hc.2.1
        rw [room_iff] at hroom
        have := entsOf_length ms ns
        exact ih _ ms r b (small_group h any _ (by omega)) hr
    · cases hr
  | call pr hs k ih =>
    intro a ms r b h hr
    simp only [runM] at hr
    split at hr
    · rename_i r1 b1 hc
      exact ih _ b1 ms r b (hcf _ _ _ _ _ h hc) hr
    · cases hr
theorem callN_small : ∀ (n : Nat) (pr : Proc) (a : A) (ms : List Int) (r : Int) (b : A), SM a.row → callN n pr a ms = some (r, b) → SM b.row
  | 0, pr, a, ms, r, b, _, h => by simp [callN] at h
  | n + 1, pr, a, ms, r, b, hg, h => runM_small (fun pr a ms r b => callN_small n pr a ms r b) (body pr) a ms r b hg h
/-! ### A tree is the same as itself -/
def ndAV (n : Node) : AV := .agg [.int (Node.k n), .int (Node.f n), .int (Node.t n), .sl .node (Node.kids n)]
theorem same_l0 (lim : Nat) (x1 x2 x3 y1 y2 y3 : Int) (kids : List Node) (hl : kids.length < 1099511627776) (ih : ∀ x ∈ kids, W .unit sameNode.n [ndAV x, ndAV x] () = some (.bool true, ())) : ∀ (d i n0 : Nat), i + d = kids.length → d < n0 →
    sameNode.l0 W lim n0 i x1 x2 x3 kids y1 y2 y3 kids () = some (.bool true, ())
  | _, i, 0, hi, hn => by omega
  | 0, i, n0 + 1, hi, hn => by rw [sameNode.l0_succ, if_neg (by simp; omega)]
  | d + 1, i, n0 + 1, hi, hn => by
    rw [sameNode.l0_succ, if_pos (by simp; omega), if_pos (by omega), if_pos (by omega), if_pos (by omega), if_pos (by omega)]
    have hm : List.getD kids (Int.toNat (i : Int)) (El.dflt .node) ∈ kids := by
      rw [Int.toNat_natCast, List.getD_eq_getElem?_getD, List.getElem?_eq_getElem (by omega)]
      exact List.getElem_mem _
    have e := ih _ hm
    unfold ndAV at e
    rw [cX_b e, if_neg (by decide)]
    have hw : IntKind.i64.wrap ((i : Int) + 1) = ((i + 1 : Nat) : Int) := by rw [wi _ (by omega) (by omega)]; omega
    rw [hw]
    exact same_l0 lim x1 x2 x3 y1 y2 y3 kids hl ih d (i + 1) n0 (by omega) (by omega)
theorem same_ok {n : Node} (h : Small n) : W .unit sameNode.n [ndAV n, ndAV n] () = some (.bool true, ()) := by
  induction h with
  | mk k f t kids h1 h2 ih =>
    refine fx sameNode.fd (kids.length + 1) ?_
    refine (sameNode_eq W (kids.length + 1) (.mk k f t kids) (.mk k f t kids) ()).trans ?_
    rw [if_neg (by simp), if_neg (by simp), if_neg (by simp), if_neg (by simp)]
    exact same_l0 _ _ _ _ _ _ _ kids h1 ih kids.length 0 (kids.length + 1) (by omega) (by omega)
end Go.AI.Rd
/- DERIVED. THE READER: what has been read, handed over; a whole reading by both. -/
namespace Go.AI.Rd
/-! ### Done -/
def finA (a : A) : A := if a.kinds.getD 0 0 ≠ 0 then a.fail 201 else a
/-- A reader's answer. -/
structure Out where
  row : List Node
  d : Diag
  ok : Bool
def outA (a : A) : Out := match (finA a).dg with | some d => ⟨[], d, false⟩ | none => ⟨(finA a).row.map (·.n) ++ a.rest.map (fun t => (leaf t).n), ⟨0, 0, 0⟩, true⟩
def rowAV (o : Out) : AV := if o.ok then .sl .node o.row else .nil
def outAV (o : Out) : AV := .tup [rowAV o, .agg [.int o.d.c, .int o.d.f, .int o.d.t], .bool o.ok]
theorem finA_rest (a : A) : (finA a).rest = a.rest := by unfold finA; split; exact fail_rest _; rfl
theorem finA_pre (a : A) : (finA a).pre = a.pre := by unfold finA; split; exact (fail_dg 201).1; rfl
theorem finA_row (a : A) : (finA a).row = a.row := by unfold finA; split; exact (fail_dg 201).2.2.1; rfl
theorem finA_good {a : A} (h : a.good) : (finA a).good := by unfold finA; split; exact good_fail h _; exact h
theorem W_leavesAll {a : A} (hd : a.dg = none) (hl : a.pre.length + a.rest.length < 1099511627776) (hr : a.row.length + a.rest.length + 8 < 4294967264) :
    W .prog leaves.n [.rdr 0, .int ((toP a).l.length : Int)] (toP a) = some (.undef, { toP a with row := a.row ++ a.rest.map leaf, read := ((toP a).l.length : Int) }) := by
  refine fx leaves.fd (a.rest.length + 1) ?_
  have e0 : (toP a).l = a.pre ++ a.rest := rfl
  have e1 : (toP a).read = a.pre.length := rfl
  have e2 : ((toP a).l.length : Int) = a.pre.length + a.rest.length := by rw [e0]; simp
  rw [leaves_eq, if_pos (by omega), if_pos (by omega), if_pos (by rw [e1]; omega), if_pos (by rw [e1]; omega)]
  have e3 : List.drop (Int.toNat (toP a).read) (List.take (Int.toNat ((toP a).l.length : Int)) (toP a).l) = a.rest := by
    rw [Int.toNat_natCast, List.take_length, e0, e1, Int.toNat_natCast, List.drop_left']; rfl
  rw [e3]
  have := leaves_l0 (a.rest.length + 1) ((toP a).l.length : Int) a.rest (toP a) a.rest.length 0 (a.rest.length + 1) a.row (by omega) (by omega) (by omega) (by omega)
  exact this
theorem Done_l0 (lim : Nat) (l8 : List Made) (x y z : Int) (p : PS) (hl : l8.length < 4294967290) : ∀ (d i n0 : Nat) (l7 : List Node), i + d = l8.length → d < n0 → l7.length + d < 4294967290 →
    Done.l0 W lim n0 l7 l8 l8.length i x y z p = some (.tup [.sl .node (l7 ++ (l8.drop i).map (·.n)), .agg [.int 0, .int 0, .int 0], .bool true], p)
  | _, i, 0, l7, hi, hn, h7 => by omega
  | 0, i, n0 + 1, l7, hi, hn, h7 => by
    rw [Done.l0_succ, if_neg (by simp; omega), List.drop_of_length_le (by omega)]; simp
  | d + 1, i, n0 + 1, l7, hi, hn, h7 => by
    rw [Done.l0_succ, if_pos (by simp; omega), if_pos (by omega), if_pos (by omega), if_pos (by simp only [List.length_singleton]; unfold maxRow; omega), wi _ (by omega) (by omega), Node.eta]
    have := Done_l0 lim l8 x y z p hl d (i + 1) n0 (l7 ++ [(List.getD l8 i (El.dflt .made)).n]) (by omega) (by omega) (by simp; omega)
    rw [Int.natCast_add, Int.natCast_one] at this
    rw [Int.toNat_natCast]
    refine Eq.trans this ?_
    have hx : l8.drop i = l8.getD i (El.dflt .made) :: l8.drop (i + 1) := by
      rw [List.drop_eq_getElem_cons (by omega), List.getD_eq_getElem?_getD, List.getElem?_eq_getElem (by omega)]; rfl
    rw [hx]
    simp
theorem W_Done {a : A} (h : a.good) (hr : a.row.length + a.rest.length + 8 < 4294967264) : ∃ p, W .prog Done.n [.rdr 0] (toP a) = some (outAV (outA a), p) := by
  have key : ∀ (b : A), b.good → b.rest = a.rest → b.row = a.row → outA a = (match b.dg with | some d => ⟨[], d, false⟩ | none => ⟨b.row.map (·.n) ++ b.rest.map (fun t => (leaf t).n), ⟨0, 0, 0⟩, true⟩) → ∀ lim, a.row.length + a.rest.length < lim →
      ∃ p, (if (toP b).failed then some (AV.tup [.nil, .agg [.int (toP b).dc, .int (toP b).df, .int (toP b).dt], .bool false], toP b)
        else cX W .u .prog leaves.n [.rdr 0, .int ((toP b).l.length : Int)] (toP b) fun _ (p6 : PS) => Done.l0 W lim lim [] p6.row ((p6.row).length : Int) 0 0 0 0 p6) = some (outAV (outA a), p) := by
    intro b hb h1 h2 h3 lim hlim
    rw [h3]
    cases hd : b.dg with
    | some d =>
      rw [if_pos (toP_dead d hd)]
      refine ⟨toP b, ?_⟩
      simp [outAV, rowAV, toP, hd]
    | none =>
      have hf : (toP b).failed = false := live_of hd
      rw [if_neg (by rw [hf]; decide), cX_u (W_leavesAll hd hb.len (by rw [h1, h2]; omega))]
      refine ⟨{ toP b with row := b.row ++ b.rest.map leaf, read := ((toP b).l.length : Int) }, ?_⟩
      have := Done_l0 lim (b.row ++ b.rest.map leaf) 0 0 0 { toP b with row := b.row ++ b.rest.map leaf, read := ((toP b).l.length : Int) } (by simp [h1, h2]; omega) (b.row ++ b.rest.map leaf).length 0 lim [] (by omega) (by simp [h1, h2]; omega) (by simp [h1, h2]; omega)
      refine Eq.trans this ?_
      simp [outAV, rowAV]
  have hrun : ∀ lim, a.row.length + a.rest.length < lim → ∃ p, evalBody T0 W .prog lim Done.I [.rdr 0] (toP a) = some (outAV (outA a), p) := by
    intro lim hlim
    rw [Done_eq, cX_i (W_Kind h.took)]
    by_cases hk : a.kinds.getD 0 0 ≠ 0
    · rw [if_pos (by simpa using hk), cX_u (W_Fail h.took 201)]
      have e : finA a = a.fail 201 := if_pos hk
      exact key (a.fail 201) (good_fail h _) (fail_rest _) (fail_dg 201).2.2.1 (by unfold outA; rw [e, fail_rest]) lim hlim
    · rw [if_neg (by simpa using hk)]
      have e : finA a = a := if_neg hk
      exact key a h rfl rfl (by unfold outA; rw [e]) lim hlim
  obtain ⟨p, hp⟩ := hrun (a.row.length + a.rest.length + 1) (by omega)
  exact ⟨p, fx Done.fd _ hp⟩
theorem qDone_l0 (lim : Nat) (x y z : Int) : ∀ (d n0 : Nat) (i : Nat) (q : QS), q.at_ = i → i + d = q.l.length → d < n0 → q.l.length < 1099511627776 → q.row.length + d < 4294967290 → q.high.length + d < 4294967290 →
    ∃ q', qDone.l0 W lim n0 x y z q = some (.tup [.sl .node (q.row ++ (q.l.drop i).map (fun t => (leaf t).n)), .agg [.int 0, .int 0, .int 0], .bool true], q')
  | _, 0, i, q, h0, hi, hn, hl, h1, h2 => by omega
  | 0, n0 + 1, i, q, h0, hi, hn, hl, h1, h2 => by
    rw [qDone.l0_succ, if_neg (by simp [h0]; omega), if_pos (by unfold maxRow; omega), List.drop_of_length_le (by omega)]
    exact ⟨q, by simp⟩
  | d + 1, n0 + 1, i, q, h0, hi, hn, hl, h1, h2 => by
    rw [qDone.l0_succ, if_pos (by simp [h0]; omega), if_pos (by omega), if_pos (by omega), cX_u (W_qpush0 q _ _ _ 0 (by omega) (by omega))]
    have hw : IntKind.i64.wrap (q.at_ + 1) = ((i + 1 : Nat) : Int) := by rw [h0, wi _ (by omega) (by omega)]; omega
    simp only
    rw [hw]
    obtain ⟨q', hq'⟩ := qDone_l0 lim x y z d n0 (i + 1) { q with row := q.row ++ [.mk (List.getD q.l (Int.toNat q.at_) (⟨0, 0, 0⟩ : Tok)).k (List.getD q.l (Int.toNat q.at_) (⟨0, 0, 0⟩ : Tok)).f (List.getD q.l (Int.toNat q.at_) (⟨0, 0, 0⟩ : Tok)).t []], high := q.high ++ [0], at_ := ((i + 1 : Nat) : Int) } rfl (by show i + 1 + d = q.l.length; omega) (by omega) hl (by simp; omega) (by simp; omega)
    refine ⟨q', hq'.trans ?_⟩
    have hx : q.l.drop i = q.l.getD i ⟨0, 0, 0⟩ :: q.l.drop (i + 1) := by
      rw [List.drop_eq_getElem_cons (by omega), List.getD_eq_getElem?_getD, List.getElem?_eq_getElem (by omega)]; rfl
    rw [h0, Int.toNat_natCast, hx]
    simp [leaf]
theorem W_qDone {a : A} {q : QS} (hq : RelQ q a) (h : a.good) (hr : a.row.length + a.rest.length + 8 < 4294967264) : ∃ p, W .ref qDone.n [.rdr 0] q = some (outAV (outA a), p) := by
  have key : ∀ (b : A) (q : QS), b.good → RelQ q b → b.rest = a.rest → b.row = a.row → outA a = (match b.dg with | some d => ⟨[], d, false⟩ | none => ⟨b.row.map (·.n) ++ b.rest.map (fun t => (leaf t).n), ⟨0, 0, 0⟩, true⟩) → ∀ lim, a.rest.length < lim →
      ∃ p, (if q.failed then some (AV.tup [.nil, .agg [.int q.dc, .int q.df, .int q.dt], .bool false], q)
        else qDone.l0 W lim lim 0 0 0 q) = some (outAV (outA a), p) := by
    intro b q hb hq h1 h2 h3 lim hlim
    rw [h3]
    cases hd : b.dg with
    | some d =>
      obtain ⟨d1, d2, d3⟩ := hq.dd d hd
      rw [if_pos (by rw [hq.f]; exact toP_dead d hd)]
      exact ⟨q, by simp [outAV, rowAV, d1, d2, d3]⟩
    | none =>
      have hlv := live_of hd
      rw [if_neg (by rw [hq.f, hlv]; decide)]
      have e := hq.live hlv
      subst e
      have hlen := hb.len
      obtain ⟨p, hp⟩ := qDone_l0 lim 0 0 0 b.rest.length lim b.pre.length (toQ b) rfl (by show _ = (b.pre ++ b.rest).length; simp) (by rw [h1]; exact hlim) (by show (b.pre ++ b.rest).length < _; simp; omega) (by simp [toQ, h1, h2]; omega) (by simp [toQ, h1, h2]; omega)
      refine ⟨p, hp.trans ?_⟩
      simp [outAV, rowAV, toQ]
  have hrun : ∀ lim, a.rest.length < lim → ∃ p, evalBody T0 W .ref lim qDone.I [.rdr 0] q = some (outAV (outA a), p) := by
    intro lim hlim
    rw [qDone_eq, cX_i (W_qKind hq h.took)]
    by_cases hk : a.kinds.getD 0 0 ≠ 0
    · obtain ⟨q', h1, h2⟩ := W_qFail hq h.took 201
      rw [if_pos (by simpa using hk), cX_u h1]
      have e : finA a = a.fail 201 := if_pos hk
      exact key (a.fail 201) q' (good_fail h _) h2 (fail_rest _) (fail_dg 201).2.2.1 (by unfold outA; rw [e, fail_rest]) lim hlim
    · rw [if_neg (by simpa using hk)]
      have e : finA a = a := if_neg hk
      exact key a q h hq rfl rfl (by unfold outA; rw [e]) lim hlim
  obtain ⟨p, hp⟩ := hrun (a.rest.length + 1) (by omega)
  exact ⟨p, fx qDone.fd _ hp⟩
/-! ### A whole reading -/
def a0 (l : List Tok) : A := ⟨[], l, [], 0, none⟩
theorem a0_good {l : List Tok} (hl : l.length ≤ 500000000) : (a0 l).good := by
  refine ⟨⟨fun t ht => by simp [a0] at ht, by simp [a0]; omega, by simp [a0], fun x hx => by simp [a0] at hx, by simp [a0]⟩, fun _ x hx => by simp [a0] at hx⟩
/-- The tree that is read, or none; where it failed. -/
structure Res where
  n : Option Node
  d : Diag
  ok : Bool
def resOf (o : Out) : Res := ⟨if o.ok then o.row.find? (fun n => decide (10 ≤ Node.k n)) else none, o.d, o.ok⟩
def nodeAV : Option Node → AV
  | some n => .agg [.int (Node.k n), .int (Node.f n), .int (Node.t n), .sl .node (Node.kids n)]
  | none => .agg [.int 0, .int 0, .int 0, .nil]
def resAV (r : Res) : AV := .tup [nodeAV r.n, .agg [.int r.d.c, .int r.d.f, .int r.d.t], .bool r.ok]
theorem cX_done {c : Call1} {τ : STy} {f : Nat} {args : List AV} {p q : τ.T} {R : Type} {o : Out} {K : (List Node × Diag × Bool) → τ.T → Option R} (h : c τ f args p = some (outAV o, q)) (ho : o.ok = false → o.row = []) : cX c (.t3 (.s .node) (.e .diag) .b) τ f args p K = K (o.row, o.d, o.ok) q := by
  unfold cX; rw [h]
  obtain ⟨row, d, ok⟩ := o
  cases ok with
  | true => rfl
  | false => have := ho rfl; simp only at this; subst this; rfl
theorem outA_row (a : A) : (outA a).ok = false → (outA a).row = [] := by
  unfold outA; split
  · intro _; rfl
  · intro h; cases h
theorem Parse_l0 (c : Call1) (lim : Nat) (ok : Bool) (l : List Node) (x1 x2 x3 x4 x5 x6 dc df dt : Int) (hl : l.length < 1099511627776) : ∀ (d i n0 : Nat), i + d = l.length → d < n0 →
    Parse.l0 c lim n0 ok l l.length i x1 x2 x3 x4 x5 x6 dc df dt () = some (.tup [nodeAV ((l.drop i).find? (fun n => decide (10 ≤ Node.k n))), .agg [.int dc, .int df, .int dt], .bool ok], ())
  | _, i, 0, hi, hn => by omega
  | 0, i, n0 + 1, hi, hn => by
    rw [Parse.l0_succ, if_neg (by simp; omega), List.drop_of_length_le (by omega)]; rfl
  | d + 1, i, n0 + 1, hi, hn => by
    have hx : l.drop i = l.getD i (El.dflt .node) :: l.drop (i + 1) := by
      rw [List.drop_eq_getElem_cons (by omega), List.getD_eq_getElem?_getD, List.getElem?_eq_getElem (by omega)]; rfl
    rw [Parse.l0_succ, if_pos (by simp; omega), if_pos (by omega), if_pos (by omega), Int.toNat_natCast, hx]
    by_cases hk : 10 ≤ Node.k (l.getD i (El.dflt .node))
    · rw [if_pos (by simpa using hk), List.find?_cons_of_pos (by simpa using hk)]; rfl
    · rw [if_neg (by simpa using hk), List.find?_cons_of_neg (by simpa using hk), wi _ (by omega) (by omega)]
      have := Parse_l0 c lim ok l x1 x2 x3 x4 x5 x6 dc df dt hl d (i + 1) n0 (by omega) (by omega)
      rw [Int.natCast_add, Int.natCast_one] at this
      exact this
theorem qParse_l0 (c : Call1) (lim : Nat) (l : List Node) (x1 x2 x3 x4 x5 x6 dc df dt : Int) (hl : l.length < 1099511627776) : ∀ (d i n0 : Nat), i + d = l.length → d < n0 →
    qParse.l0 c lim n0 l i x1 x2 x3 x4 x5 x6 dc df dt () = some (.tup [nodeAV ((l.drop i).find? (fun n => decide (10 ≤ Node.k n))), .agg [.int dc, .int df, .int dt], .bool true], ())
  | _, i, 0, hi, hn => by omega
  | 0, i, n0 + 1, hi, hn => by
    rw [qParse.l0_succ, if_neg (by simp; omega), List.drop_of_length_le (by omega)]; rfl
  | d + 1, i, n0 + 1, hi, hn => by
    have hx : l.drop i = l.getD i (El.dflt .node) :: l.drop (i + 1) := by
      rw [List.drop_eq_getElem_cons (by omega), List.getD_eq_getElem?_getD, List.getElem?_eq_getElem (by omega)]; rfl
    rw [qParse.l0_succ, if_pos (by simp; omega), if_pos (by omega), if_pos (by omega), Int.toNat_natCast, hx]
    by_cases hk : 10 ≤ Node.k (l.getD i (El.dflt .node))
    · rw [if_pos (by simpa using hk), if_pos (by omega), if_pos (by omega), List.find?_cons_of_pos (by simpa using hk)]; rfl
    · rw [if_neg (by simpa using hk), List.find?_cons_of_neg (by simpa using hk), wi _ (by omega) (by omega)]
      have := qParse_l0 c lim l x1 x2 x3 x4 x5 x6 dc df dt hl d (i + 1) n0 (by omega) (by omega)
      rw [Int.natCast_add, Int.natCast_one] at this
      exact this
/-- WHAT BOTH READ: one state of the plain reader stands for both. -/
theorem both {l : List Tok} (hl : l.length ≤ 500000000) : ∃ b q p1 u1, b.good ∧ SM b.row ∧ b.row.length + 8 * b.rest.length ≤ 4294967000 ∧ RelQ q b ∧
    W .prog X.n [.rdr 0, .bool false] (toP (a0 l)) = some (p1, toP b) ∧ W .ref qX.n [.rdr 0, .bool false] (toQ (a0 l)) = some (u1, q) := by
  have hg := a0_good hl
  obtain ⟨n, r, b, h1, h2, _⟩ := ends (B := 4294967000) (Nat.le_refl _) (.X false) (a := a0 l) (ms := []) ⟨rfl, by simp [a0], by simp [a0], by simp only [slack, a0, List.length_nil]; omega, rfl⟩
  have hb := callN_good n _ _ _ _ _ hg h1
  have hP := (refs n).1 (.X false) (a0 l) rfl hg r b h1
  obtain ⟨u, q, h3, _, h5⟩ := refsQ n (.X false) qX.n [.rdr 0, .bool false] rfl (a0 l) (toQ (a0 l)) hg (RelQ.toQ _) r b h1
  exact ⟨b, q, _, u, hb.1, callN_small n _ _ _ _ _ (fun x hx => by cases hx) h1, h2, h5, hP, h3⟩
end Go.AI.Rd
