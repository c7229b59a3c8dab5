/- DERIVED. THE EVALUATOR, THE READER, THE SCANNER: lemmas for Lossless. -/
import Derived.Test.YtoppjmglhddleaaBf
import Derived.Laws.Strings
import Derived.Test.YtoppjmglhddleaaBa
import Derived.Test.YtoppjmglhddleaaBh
import Derived.Laws.Pointers
set_option linter.unusedVariables false
set_option linter.unusedSimpArgs false
section
set_option maxRecDepth 100000
namespace Go.AI.Sn
open Rd
def LM : Nat := 4294967296
def Ev (o : Option (AV × Unit)) (Q : AV → Prop) : Prop := ∃ a, o = some (a, ()) ∧ Q a
section
variable {Q : AV → Prop} {A B : Option (AV × Unit)}
theorem Ev.no (h : False) : Ev A Q := h.elim
theorem Ev.pr {c : Prop} {_ : Decidable c} (h1 : c → Ev A Q) (h2 : ¬ c → Ev B Q) : Ev (if c then A else B) Q := by
 split
 ·exact h1 ‹_›
 ·exact h2 ‹_›
theorem Ev.dec {c : Prop} {_ : Decidable c} (h1 : c → Ev A Q) (h2 : ¬ c → Ev B Q) : Ev (if decide c = true then A else B) Q := Ev.pr (fun h => h1 (of_decide_eq_true h)) fun h => h2 fun h' => h (decide_eq_true h')
theorem Ev.and {c d : Prop} {_ : Decidable c} {_ : Decidable d} (h1 : c ∧ d → Ev A Q) (h2 : ¬ (c ∧ d) → Ev B Q) : Ev (if (decide c && decide d) = true then A else B) Q :=
 Ev.pr (fun h => h1 (by simpa using h)) fun h => h2 fun h' => h (by simpa using h')
theorem Ev.and3 {c d e : Prop} {_ : Decidable c} {_ : Decidable d} {_ : Decidable e} (h1 : c ∧ d ∧ e → Ev A Q) (h2 : ¬ (c ∧ d ∧ e) → Ev B Q) : Ev (if (decide c && (decide d && decide e)) = true then A else B) Q :=
 Ev.pr (fun h => h1 (by simpa using h)) fun h => h2 fun h' => h (by simpa using h')
theorem Ev.bl {b : Bool} (h1 : b = true → Ev A Q) (h2 : b = false → Ev B Q) : Ev (if b = true then A else B) Q := Ev.pr h1 fun h => h2 (by simpa using h)
theorem Ev.nb {b : Bool} (h1 : b = false → Ev A Q) (h2 : b = true → Ev B Q) : Ev (if (!b) = true then A else B) Q := Ev.pr (fun h => h1 (by simpa using h)) fun h => h2 (by simpa using h)
end
def Sp (f : Nat) (args : List AV) (h : Sh) (P : h.T → Prop) : Prop := ∃ x, W .unit f args () = some (h.enc x, ()) ∧ P x
def Qs (h : Sh) (P : h.T → Prop) : AV → Prop := fun a => ∃ x, a = h.enc x ∧ P x
theorem Sp.of {f : Nat} {fi : FnI} {args : List AV} {h : Sh} {P : h.T → Prop} (hf : findN fnsT f = some fi) (e : Ev (evalBody T0 W .unit LM fi args ()) (Qs h P)) : Sp f args h P := by
 obtain ⟨a, h1, x, h2, h3⟩ := e
 subst h2
 exact ⟨x, fx hf LM h1, h3⟩
theorem Sp.mono {f : Nat} {args : List AV} {h : Sh} {P R : h.T → Prop} (s : Sp f args h P) (hh : ∀ x, P x → R x) : Sp f args h R := by
 obtain ⟨x, h1, h2⟩ := s
 exact ⟨x, h1, hh x h2⟩
theorem Ev.mono {h : Sh} {P R : h.T → Prop} {o : Option (AV × Unit)} (e : Ev o (Qs h P)) (hh : ∀ x, P x → R x) : Ev o (Qs h R) := by
 obtain ⟨a, h1, x, h2, h3⟩ := e
 exact ⟨a, h1, x, h2, hh x h3⟩
theorem Ev.cx {h : Sh} {f : Nat} {args : List AV} {P : h.T → Prop} {K : h.T → Unit → Option (AV × Unit)} {Q : AV → Prop} (hs : Sp f args h P) (hd : ∀ x, h.dec (h.enc x) = some x) (k : ∀ x, P x → Ev (K x ()) Q) : Ev (cX W h .unit f args () K) Q := by
 obtain ⟨x, h1, h2⟩ := hs
 obtain ⟨a, h3, h4⟩ := k x h2
 refine ⟨a, ?_, h4⟩
 unfold cX
 rw [h1]
 unfold shaped
 simp only [Option.bind_some, hd, Option.map_some]
 exact h3
section
theorem retI {P : Int → Prop} {n : Int} (h : P n) : Ev (some (.int n, ())) (Qs .i P) := ⟨_, rfl, n, rfl, h⟩
theorem retB {P : Bool → Prop} {n : Bool} (h : P n) : Ev (some (.bool n, ())) (Qs .b P) := ⟨_, rfl, n, rfl, h⟩
theorem retS {P : ByteArray → Prop} {n : ByteArray} (h : P n) : Ev (some (.str n, ())) (Qs .str P) := ⟨_, rfl, n, rfl, h⟩
theorem retL {e : El} {P : List e.T → Prop} {n : List e.T} (h : P n) : Ev (some (.sl e n, ())) (Qs (.s e) P) := ⟨_, rfl, n, rfl, h⟩
theorem rII {P : Int × Int → Prop} {x : Int} {y : Int} (h : P (x, y)) : Ev (some (.tup [.int x, .int y], ())) (Qs (.t2 .i .i) P) := ⟨_, rfl, (x, y), rfl, h⟩
theorem rSB {P : ByteArray × Bool → Prop} {x : ByteArray} {y : Bool} (h : P (x, y)) : Ev (some (.tup [.str x, .bool y], ())) (Qs (.t2 .str .b) P) := ⟨_, rfl, (x, y), rfl, h⟩
theorem rIB {P : Int × Bool → Prop} {x : Int} {y : Bool} (h : P (x, y)) : Ev (some (.tup [.int x, .bool y], ())) (Qs (.t2 .i .b) P) := ⟨_, rfl, (x, y), rfl, h⟩
theorem rISB {P : Int × ByteArray × Bool → Prop} {x : Int} {y : ByteArray} {z : Bool} (h : P (x, y, z)) : Ev (some (.tup [.int x, .str y, .bool z], ())) (Qs (.t3 .i .str .b) P) := ⟨_, rfl, (x, y, z), rfl, h⟩
theorem rISI {P : Int × ByteArray × Int → Prop} {x : Int} {y : ByteArray} {z : Int} (h : P (x, y, z)) : Ev (some (.tup [.int x, .str y, .int z], ())) (Qs (.t3 .i .str .i) P) := ⟨_, rfl, (x, y, z), rfl, h⟩
theorem rSII {P : ByteArray × Int × Int → Prop} {x : ByteArray} {y : Int} {z : Int} (h : P (x, y, z)) : Ev (some (.tup [.str x, .int y, .int z], ())) (Qs (.t3 .str .i .i) P) := ⟨_, rfl, (x, y, z), rfl, h⟩
theorem rIII {P : Int × Int × Int → Prop} {x : Int} {y : Int} {z : Int} (h : P (x, y, z)) : Ev (some (.tup [.int x, .int y, .int z], ())) (Qs (.t3 .i .i .i) P) := ⟨_, rfl, (x, y, z), rfl, h⟩
theorem retTD {P : Tok × Diag → Prop} {a b c d e f : Int} (h : P (⟨a, b, c⟩, ⟨d, e, f⟩)) : Ev (some (.tup [.agg [.int a, .int b, .int c], .agg [.int d, .int e, .int f]], ())) (Qs (.t2 (.e .tok) (.e .diag)) P) := ⟨_, rfl, (⟨a, b, c⟩, ⟨d, e, f⟩), rfl, h⟩
end
theorem szx (s : ByteArray) (a b : Nat) : (s.extract a b).size = min b s.size - a := ByteArray.size_extract
theorem szL (l : List Int) : (strOfL l).size = l.length := by unfold strOfL ByteArray.size; simp
theorem more_sp (s : ByteArray) (i lo hi : Int) (h0 : 0 ≤ i) : Sp s1more.n [.str s, .int i, .ik .u8 lo, .ik .u8 hi] .b (fun (b : Bool) => b = true → i < s.size) := by
 refine Sp.of s1more.fd ?_
 rw [s1more_eq]
 repeat' (first | exact Ev.no (by omega) | with_reducible (first | (first | apply Ev.and3 | apply Ev.and | apply Ev.dec | apply Ev.nb | apply Ev.bl | apply Ev.pr) <;> intro _ | apply retI | apply retB | apply retS | apply retTD | apply rII | apply rSB | apply rIB | apply rISB | apply rISI | apply rSII | apply rIII))
 all_goals (intro _; first | omega | contradiction)
theorem Width_sp (s : ByteArray) (i : Int) (hs : s.size < 1073741824) (h0 : 0 ≤ i) (h1 : i < s.size) : Sp Width.n [.str s, .int i] .i (fun (n : Int) => 0 ≤ n ∧ n ≤ 4 ∧ (n ≠ 0 → i + n ≤ s.size)) := by
 refine Sp.of Width.fd ?_
 rw [Width_eq]
 have hj : ∀ a lo hi, Ev (Width.j1 W LM s i a lo hi ()) (Qs .i fun (n : Int) => 0 ≤ n ∧ n ≤ 4 ∧ (n ≠ 0 → i + n ≤ s.size)) := by
  intro a lo hi
  unfold Width.j1
  (try simp (disch := omega) only [wi])
  refine Ev.cx (more_sp s _ _ _ (by first | omega | (simp (disch := omega) only [wi]; omega) | (dsimp only; omega))) (fun _ => rfl) fun x hx => ?_
  repeat' (first | exact Ev.no (by omega) | with_reducible (first | (first | apply Ev.and3 | apply Ev.and | apply Ev.dec | apply Ev.nb | apply Ev.bl | apply Ev.pr) <;> intro _ | apply retI | apply retB | apply retS | apply retTD | apply rII | apply rSB | apply rIB | apply rISB | apply rISI | apply rSII | apply rIII))
  ·omega
  refine Ev.cx (more_sp s _ _ _ (by first | omega | (simp (disch := omega) only [wi]; omega) | (dsimp only; omega))) (fun _ => rfl) fun y hy => ?_
  repeat' (first | exact Ev.no (by omega) | with_reducible (first | (first | apply Ev.and3 | apply Ev.and | apply Ev.dec | apply Ev.nb | apply Ev.bl | apply Ev.pr) <;> intro _ | apply retI | apply retB | apply retS | apply retTD | apply rII | apply rSB | apply rIB | apply rISB | apply rISI | apply rSII | apply rIII))
  ·omega
  ·have := hy ‹_›; omega
  refine Ev.cx (more_sp s _ _ _ (by first | omega | (simp (disch := omega) only [wi]; omega) | (dsimp only; omega))) (fun _ => rfl) fun z hz => ?_
  repeat' (first | exact Ev.no (by omega) | with_reducible (first | (first | apply Ev.and3 | apply Ev.and | apply Ev.dec | apply Ev.nb | apply Ev.bl | apply Ev.pr) <;> intro _ | apply retI | apply retB | apply retS | apply retTD | apply rII | apply rSB | apply rIB | apply rISB | apply rISI | apply rSII | apply rIII))
  ·have := hz ‹_›; omega
  ·omega
 (try simp (disch := omega) only [wi])
 repeat' (first | exact Ev.no (by omega) | with_reducible (first | (first | apply Ev.and3 | apply Ev.and | apply Ev.dec | apply Ev.nb | apply Ev.bl | apply Ev.pr) <;> intro _ | apply retI | apply retB | apply retS | apply retTD | apply rII | apply rSB | apply rIB | apply rISB | apply rISI | apply rSII | apply rIII))
 ·omega
 ·omega
 ·omega
 ·refine Ev.cx (more_sp s _ _ _ (by first | omega | (simp (disch := omega) only [wi]; omega) | (dsimp only; omega))) (fun _ => rfl) fun x hx => ?_
  repeat' (first | exact Ev.no (by omega) | with_reducible (first | (first | apply Ev.and3 | apply Ev.and | apply Ev.dec | apply Ev.nb | apply Ev.bl | apply Ev.pr) <;> intro _ | apply retI | apply retB | apply retS | apply retTD | apply rII | apply rSB | apply rIB | apply rISB | apply rISI | apply rSII | apply rIII))
  ·have := hx ‹_›; omega
  ·omega
 ·unfold Width.j0
  repeat' (first | exact Ev.no (by omega) | with_reducible (first | (first | apply Ev.and3 | apply Ev.and | apply Ev.dec | apply Ev.nb | apply Ev.bl | apply Ev.pr) <;> intro _ | apply retI | apply retB | apply retS | apply retTD | apply rII | apply rSB | apply rIB | apply rISB | apply rISI | apply rSII | apply rIII))
  all_goals exact hj _ _ _
theorem said_sp (s : ByteArray) (i : Int) (hs : s.size < 1073741824) (h0 : 0 ≤ i) (h1 : i < s.size) : Sp said.n [.str s, .int i] .b (fun _ => True) := by
 refine Sp.of said.fd ?_
 rw [said_eq]
 refine Ev.cx (Width_sp s i hs h0 h1) (fun _ => rfl) fun x hx => ?_
 (try simp (disch := omega) only [wi])
 repeat' (first | exact Ev.no (by omega) | with_reducible (first | (first | apply Ev.and3 | apply Ev.and | apply Ev.dec | apply Ev.nb | apply Ev.bl | apply Ev.pr) <;> intro _ | apply retI | apply retB | apply retS | apply retTD | apply rII | apply rSB | apply rIB | apply rISB | apply rISI | apply rSII | apply rIII))
 all_goals trivial
theorem letter_sp (c : Int) : Sp letter.n [.ik .u8 c] .b (fun _ => True) := by
 refine Sp.of letter.fd ?_
 rw [letter_eq]
 repeat' (first | exact Ev.no (by omega) | with_reducible (first | (first | apply Ev.and3 | apply Ev.and | apply Ev.dec | apply Ev.nb | apply Ev.bl | apply Ev.pr) <;> intro _ | apply retI | apply retB | apply retS | apply retTD | apply rII | apply rSB | apply rIB | apply rISB | apply rISI | apply rSII | apply rIII))
 all_goals trivial
theorem digit_sp (c : Int) : Sp digit.n [.ik .u8 c] .b (fun _ => True) := by
 refine Sp.of digit.fd ?_
 rw [digit_eq]
 repeat' (first | exact Ev.no (by omega) | with_reducible (first | (first | apply Ev.and3 | apply Ev.and | apply Ev.dec | apply Ev.nb | apply Ev.bl | apply Ev.pr) <;> intro _ | apply retI | apply retB | apply retS | apply retTD | apply rII | apply rSB | apply rIB | apply rISB | apply rISI | apply rSII | apply rIII))
 all_goals trivial
theorem blank_sp (c : Int) : Sp blank.n [.ik .u8 c] .b (fun _ => True) := by
 refine Sp.of blank.fd ?_
 rw [blank_eq]
 repeat' (first | exact Ev.no (by omega) | with_reducible (first | (first | apply Ev.and3 | apply Ev.and | apply Ev.dec | apply Ev.nb | apply Ev.bl | apply Ev.pr) <;> intro _ | apply retI | apply retB | apply retS | apply retTD | apply rII | apply rSB | apply rIB | apply rISB | apply rISI | apply rSII | apply rIII))
 all_goals trivial
theorem sEnds_sp (c : Int) : Sp sEnds.n [.int c] .b (fun _ => True) := by
 refine Sp.of sEnds.fd ?_
 rw [sEnds_eq]
 repeat' (first | exact Ev.no (by omega) | with_reducible (first | (first | apply Ev.and3 | apply Ev.and | apply Ev.dec | apply Ev.nb | apply Ev.bl | apply Ev.pr) <;> intro _ | apply retI | apply retB | apply retS | apply retTD | apply rII | apply rSB | apply rIB | apply rISB | apply rISI | apply rSII | apply rIII))
 all_goals trivial
theorem Digit_sp (c : Int) : Sp sDigit.n [.ik .u8 c] .i (fun _ => True) := by
 refine Sp.of sDigit.fd ?_
 rw [sDigit_eq]
 simp only [sDigit.j0, sDigit.j1]
 repeat' (first | exact Ev.no (by omega) | with_reducible (first | (first | apply Ev.and3 | apply Ev.and | apply Ev.dec | apply Ev.nb | apply Ev.bl | apply Ev.pr) <;> intro _ | apply retI | apply retB | apply retS | apply retTD | apply rII | apply rSB | apply rIB | apply rISB | apply rISI | apply rSII | apply rIII))
 all_goals trivial
def cntB : List UInt8 → Nat
 | [] => 0
 | b :: r => (if b.toNat = 32 then 1 else 0) + cntB r
theorem cntB_cons (b : UInt8) (r : List UInt8) : cntB (b :: r) = (if b.toNat = 32 then 1 else 0) + cntB r := rfl
theorem bt_get (s : ByteArray) (i : Nat) (h : i < s.size) : bt s i = ((s.data.toList[i]'h).toNat : Int) := by
 unfold bt
 rw [Int.toNat_natCast, getElem?_pos s i h]
 rfl
theorem cut_l0 (s : ByteArray) (hs : s.size < 1073741824) : ∀ (d i n0 : Nat) (l : List ByteArray) (w : ByteArray), i + d = s.size → d < n0 → l.length ≤ i → w.size ≤ i →
  Ev (s2cut.l0 W LM n0 s l w i ()) (Qs (.s .str) fun (r : List ByteArray) => r.length = l.length + cntB (s.data.toList.drop i) + 1)
 | d, i, 0, l, w, hi, hn, hl, hw => by omega
 | 0, i, n0 + 1, l, w, hi, hn, hl, hw => by
  rw [s2cut.l0_succ]
  have hm : maxRow = 4294967296 := rfl
  have hlen : s.data.toList.length = s.size := rfl
  have hz : s.data.toList.drop i = [] := List.drop_of_length_le (by rw [hlen]; omega)
  simp only [List.length_singleton]
  repeat' (first | exact Ev.no (by omega) | with_reducible (first | (first | apply Ev.and3 | apply Ev.and | apply Ev.dec | apply Ev.nb | apply Ev.bl | apply Ev.pr) <;> intro _ | apply retI | apply retB | apply retS | apply retTD | apply rII | apply rSB | apply rIB | apply rISB | apply rISI | apply rSII | apply rIII))
  exact retL (by rw [hz]; simp [cntB])
 | d + 1, i, n0 + 1, l, w, hi, hn, hl, hw => by
  rw [s2cut.l0_succ]
  have hm : maxRow = 4294967296 := rfl
  have hlen : s.data.toList.length = s.size := rfl
  have hx : s.data.toList.drop i = s.data.toList[i] :: s.data.toList.drop (i + 1) := List.drop_eq_getElem_cons (by omega)
  have hb := bt_get s i (by omega)
  have e1 : (IntKind.i64.wrap ((i : Int) + 1)) = ((i + 1 : Nat) : Int) := by rw [wi _ (by omega) (by omega)]; omega
  rw [e1]
  have hsz := szx s i (i + 1)
  simp only [Int.toNat_natCast, List.length_singleton]
  rw [hx]
  generalize s.data.toList[i] = b at hb
  repeat' (first | exact Ev.no (by omega) | with_reducible (first | (first | apply Ev.and3 | apply Ev.and | apply Ev.dec | apply Ev.nb | apply Ev.bl | apply Ev.pr) <;> intro _ | apply retI | apply retB | apply retS | apply retTD | apply rII | apply rSB | apply rIB | apply rISB | apply rISI | apply rSII | apply rIII))
  ·refine (cut_l0 s hs d (i + 1) n0 l _ (by omega) (by omega) (by omega) (by rw [ByteArray.size_append]; omega)).mono fun r hr => ?_
   rw [hr, cntB_cons, if_neg (by omega)]
   omega
  ·refine (cut_l0 s hs d (i + 1) n0 (l ++ [w]) ⟨#[]⟩ (by omega) (by omega) (by simp; omega) (Nat.zero_le _)).mono fun r hr => ?_
   rw [hr, cntB_cons, if_pos (by omega)]
   simp only [List.length_append, List.length_singleton]
   omega
theorem cut_sp (s : ByteArray) (hs : s.size < 1073741824) : Sp s2cut.n [.str s] (.s .str) (fun (r : List ByteArray) => r.length = cntB s.data.toList + 1) := by
 refine Sp.of s2cut.fd ?_
 rw [s2cut_eq]
 have := cut_l0 s hs s.size 0 LM [] ⟨#[]⟩ (by omega) (by unfold LM; omega) (by simp) (by show (0 : Nat) ≤ _; omega)
 simpa using this
theorem Signs_sp : Sp Signs.n [] (.s .str) (fun (r : List ByteArray) => r.length = 46) := by
 refine Sp.of Signs.fd ?_
 rw [Signs_eq]
 refine Ev.cx (cut_sp _ (by decide)) (fun _ => rfl) fun x hx => ?_
 exact retL (hx.trans (by decide))
theorem Keywords_sp : Sp Keywords.n [] (.s .str) (fun (r : List ByteArray) => r.length = 21) := by
 refine Sp.of Keywords.fd ?_
 rw [Keywords_eq]
 refine Ev.cx (cut_sp _ (by decide)) (fun _ => rfl) fun x hx => ?_
 exact retL (hx.trans (by decide))
end Go.AI.Sn
end
section
set_option maxRecDepth 100000
namespace Go.AI.Sn
open Rd
theorem Keyword_l0 (s : ByteArray) (l : List ByteArray) (hl : l.length = 21) : ∀ (n0 : Nat) (i : Int), 0 ≤ i → i ≤ 21 → 21 - i < n0 →
  Ev (Keyword.l0 W LM n0 s l l.length i ()) (Qs .i fun (n : Int) => n = 0 ∨ 70 ≤ n ∧ n ≤ 90)
 | 0, i, h0, h1, h2 => by omega
 | n0 + 1, i, h0, h1, h2 => by
  rw [Keyword.l0_succ]
  (try simp (disch := omega) only [wi])
  repeat' (first | exact Ev.no (by omega) | with_reducible (first | (first | apply Ev.and3 | apply Ev.and | apply Ev.dec | apply Ev.nb | apply Ev.bl | apply Ev.pr) <;> intro _ | apply retI | apply retB | apply retS | apply retTD | apply rII | apply rSB | apply rIB | apply rISB | apply rISI | apply rSII | apply rIII))
  ·omega
  ·exact Keyword_l0 s l hl n0 _ (by omega) (by omega) (by omega)
  ·omega
theorem Keyword_sp (s : ByteArray) : Sp Keyword.n [.str s] .i (fun (n : Int) => n = 0 ∨ 70 ≤ n ∧ n ≤ 90) := by
 refine Sp.of Keyword.fd ?_
 rw [Keyword_eq]
 refine Ev.cx Keywords_sp (fun _ => rfl) fun x hx => ?_
 exact Keyword_l0 s x hx _ 0 (by omega) (by omega) (by unfold LM; omega)
theorem Operator_l0 (s : ByteArray) (hs : s.size < 1073741824) (l : List ByteArray) (hl : l.length = 46) : ∀ (n0 : Nat) (k n i : Int), 0 ≤ i → i ≤ 46 → 46 - i < n0 → 0 ≤ n → n ≤ s.size → (k ≠ 0 → 1 ≤ n ∧ 20 ≤ k ∧ k ≤ 65) →
  Ev (Operator.l0 W LM n0 s k n l l.length i ()) (Qs (.t2 .i .i) fun (x : Int × Int) => 0 ≤ x.2 ∧ x.2 ≤ s.size ∧ (x.1 ≠ 0 → 1 ≤ x.2 ∧ (x.1 = 15 ∨ 20 ≤ x.1 ∧ x.1 ≤ 65)))
 | 0, k, n, i, h0, h1, h2, h3, h4, h5 => by omega
 | n0 + 1, k, n, i, h0, h1, h2, h3, h4, h5 => by
  rw [Operator.l0_succ]
  (try simp (disch := omega) only [wi])
  generalize List.getD l (Int.toNat i) ByteArray.empty = w
  repeat' (first | exact Ev.no (by omega) | with_reducible (first | (first | apply Ev.and3 | apply Ev.and | apply Ev.dec | apply Ev.nb | apply Ev.bl | apply Ev.pr) <;> intro _ | apply retI | apply retB | apply retS | apply retTD | apply rII | apply rSB | apply rIB | apply rISB | apply rISI | apply rSII | apply rIII))
  ·exact Operator_l0 s hs l hl n0 _ _ _ (by omega) (by omega) (by omega) (by omega) (by omega) (by omega)
  ·exact Operator_l0 s hs l hl n0 _ _ _ (by omega) (by omega) (by omega) (by omega) (by omega) (by omega)
  ·exact Operator_l0 s hs l hl n0 _ _ _ (by omega) (by omega) (by omega) (by omega) (by omega) (by omega)
  ·exact Operator_l0 s hs l hl n0 _ _ _ (by omega) (by omega) (by omega) (by omega) (by omega) (by omega)
  ·omega
theorem Operator_sp (s : ByteArray) (hs : s.size < 1073741824) : Sp Operator.n [.str s] (.t2 .i .i) (fun (x : Int × Int) => 0 ≤ x.2 ∧ x.2 ≤ s.size ∧ (x.1 ≠ 0 → 1 ≤ x.2 ∧ (x.1 = 15 ∨ 20 ≤ x.1 ∧ x.1 ≤ 65))) := by
 refine Sp.of Operator.fd ?_
 rw [Operator_eq]
 have hj : Ev (Operator.j0 W LM s 0 0 ()) (Qs (.t2 .i .i) fun (x : Int × Int) => 0 ≤ x.2 ∧ x.2 ≤ s.size ∧ (x.1 ≠ 0 → 1 ≤ x.2 ∧ (x.1 = 15 ∨ 20 ≤ x.1 ∧ x.1 ≤ 65))) := by
  unfold Operator.j0
  refine Ev.cx Signs_sp (fun _ => rfl) fun x hx => ?_
  exact Operator_l0 s hs x hx _ 0 0 0 (by omega) (by omega) (by unfold LM; omega) (by omega) (by omega) (by omega)
 repeat' (first | exact Ev.no (by omega) | with_reducible (first | (first | apply Ev.and3 | apply Ev.and | apply Ev.dec | apply Ev.nb | apply Ev.bl | apply Ev.pr) <;> intro _ | apply retI | apply retB | apply retS | apply retTD | apply rII | apply rSB | apply rIB | apply rISB | apply rISI | apply rSII | apply rIII))
 ·omega
 ·exact hj
 ·exact hj
theorem number_l0 (s : ByteArray) (hs : s.size < 1073741824) (at_ m b : Int) (h0 : 0 ≤ at_) (h1 : 0 ≤ m) (h2 : at_ + m ≤ s.size) : ∀ (n0 : Nat) (x i : Int), at_ ≤ i → at_ + m - i < n0 → i ≤ at_ + m →
  Ev (number.l0 W LM n0 s at_ m b x i ()) (Qs .i fun (_ : Int) => True)
 | 0, x, i, h3, h4, h5 => by omega
 | n0 + 1, x, i, h3, h4, h5 => by
  rw [number.l0_succ]
  (try simp (disch := omega) only [wi])
  repeat' (first | exact Ev.no (by omega) | with_reducible (first | (first | apply Ev.and3 | apply Ev.and | apply Ev.dec | apply Ev.nb | apply Ev.bl | apply Ev.pr) <;> intro _ | apply retI | apply retB | apply retS | apply retTD | apply rII | apply rSB | apply rIB | apply rISB | apply rISI | apply rSII | apply rIII))
  ·refine Ev.cx (Digit_sp _) (fun _ => rfl) fun y _ => ?_
   repeat' (first | exact Ev.no (by omega) | with_reducible (first | (first | apply Ev.and3 | apply Ev.and | apply Ev.dec | apply Ev.nb | apply Ev.bl | apply Ev.pr) <;> intro _ | apply retI | apply retB | apply retS | apply retTD | apply rII | apply rSB | apply rIB | apply rISB | apply rISI | apply rSII | apply rIII))
   ·trivial
   refine Ev.cx (Digit_sp _) (fun _ => rfl) fun z _ => ?_
   (try simp (disch := omega) only [wi])
   exact number_l0 s hs at_ m b h0 h1 h2 n0 _ _ (by omega) (by omega) (by omega)
  ·trivial
theorem number_sp (s : ByteArray) (hs : s.size < 1073741824) (at_ m b : Int) (h0 : 0 ≤ at_) (h1 : 0 ≤ m) (h2 : at_ < 2000000000 ∧ m ≤ 100) : Sp number.n [.str s, .int at_, .int m, .int b] .i (fun (_ : Int) => True) := by
 refine Sp.of number.fd ?_
 rw [number_eq]
 (try simp (disch := omega) only [wi])
 repeat' (first | exact Ev.no (by omega) | with_reducible (first | (first | apply Ev.and3 | apply Ev.and | apply Ev.dec | apply Ev.nb | apply Ev.bl | apply Ev.pr) <;> intro _ | apply retI | apply retB | apply retS | apply retTD | apply rII | apply rSB | apply rIB | apply rISB | apply rISI | apply rSII | apply rIII))
 ·trivial
 ·exact number_l0 s hs at_ m b h0 h1 (by omega) _ _ _ (by omega) (by unfold LM; omega) (by omega)
theorem row_l0 (s : ByteArray) (hs : s.size < 1073741824) (b : Int) : ∀ (n0 : Nat) (w : ByteArray) (i : Int), 0 ≤ i → i ≤ s.size → (s.size : Int) - i < n0 → w.size ≤ i →
  Ev (srow.l0 W LM n0 s b w i ()) (Qs (.t2 .str .b) fun (_ : ByteArray × Bool) => True)
 | 0, w, i, h0, h1, h2, h3 => by omega
 | n0 + 1, w, i, h0, h1, h2, h3 => by
  have hj : i < s.size → Ev (srow.j1 W LM n0 s b w i ()) (Qs (.t2 .str .b) fun (_ : ByteArray × Bool) => True) := by
   intro hi
   unfold srow.j1
   (try simp (disch := omega) only [wi])
   have hz := szx s i.toNat (i + 1).toNat
   repeat' (first | exact Ev.no (by omega) | with_reducible (first | (first | apply Ev.and3 | apply Ev.and | apply Ev.dec | apply Ev.nb | apply Ev.bl | apply Ev.pr) <;> intro _ | apply retI | apply retB | apply retS | apply retTD | apply rII | apply rSB | apply rIB | apply rISB | apply rISI | apply rSII | apply rIII))
   refine Ev.cx (Digit_sp _) (fun _ => rfl) fun y _ => ?_
   repeat' (first | exact Ev.no (by omega) | with_reducible (first | (first | apply Ev.and3 | apply Ev.and | apply Ev.dec | apply Ev.nb | apply Ev.bl | apply Ev.pr) <;> intro _ | apply retI | apply retB | apply retS | apply retTD | apply rII | apply rSB | apply rIB | apply rISB | apply rISI | apply rSII | apply rIII))
   ·trivial
   ·exact row_l0 s hs b n0 _ _ (by omega) (by omega) (by omega) (by rw [ByteArray.size_append]; omega)
  rw [srow.l0_succ]
  (try simp (disch := omega) only [wi])
  repeat' (first | exact Ev.no (by omega) | with_reducible (first | (first | apply Ev.and3 | apply Ev.and | apply Ev.dec | apply Ev.nb | apply Ev.bl | apply Ev.pr) <;> intro _ | apply retI | apply retB | apply retS | apply retTD | apply rII | apply rSB | apply rIB | apply rISB | apply rISI | apply rSII | apply rIII))
  ·exact row_l0 s hs b n0 _ _ (by omega) (by omega) (by omega) (by omega)
  ·exact hj ‹_›
  ·exact hj ‹_›
  ·exact hj ‹_›
  ·exact hj ‹_›
  ·trivial
theorem row_sp (s : ByteArray) (hs : s.size < 1073741824) (b : Int) (a : Bool) : Sp srow.n [.str s, .int b, .bool a] (.t2 .str .b) (fun (_ : ByteArray × Bool) => True) := by
 refine Sp.of srow.fd ?_
 rw [srow_eq]
 have hj : ∀ s : ByteArray, s.size < 1073741824 → Ev (srow.j0 W LM s b ()) (Qs (.t2 .str .b) fun (_ : ByteArray × Bool) => True) := by
  intro s hs
  exact row_l0 s hs b _ _ 0 (by omega) (by omega) (by unfold LM; omega) (by show ((0 : Nat) : Int) ≤ 0; omega)
 repeat' (first | exact Ev.no (by omega) | with_reducible (first | (first | apply Ev.and3 | apply Ev.and | apply Ev.dec | apply Ev.nb | apply Ev.bl | apply Ev.pr) <;> intro _ | apply retI | apply retB | apply retS | apply retTD | apply rII | apply rSB | apply rIB | apply rISB | apply rISI | apply rSII | apply rIII))
 ·exact hj _ (by rw [szx]; omega)
 all_goals exact hj _ hs
theorem Digits_sp (s : ByteArray) (hs : s.size < 1073741824) : Sp Digits.n [.str s] (.t3 .i .str .b) (fun (_ : Int × ByteArray × Bool) => True) := by
 refine Sp.of Digits.fd ?_
 rw [Digits_eq]
 have h2 : ∀ a k : Int, 0 ≤ k → k ≤ s.size → Ev (Digits.j2 W LM s a k ()) (Qs (.t3 .i .str .b) fun (_ : Int × ByteArray × Bool) => True) := by
  intro a k hk hk2
  unfold Digits.j2
  repeat' (first | exact Ev.no (by omega) | with_reducible (first | (first | apply Ev.and3 | apply Ev.and | apply Ev.dec | apply Ev.nb | apply Ev.bl | apply Ev.pr) <;> intro _ | apply retI | apply retB | apply retS | apply retTD | apply rII | apply rSB | apply rIB | apply rISB | apply rISI | apply rSII | apply rIII))
  refine Ev.cx (row_sp _ (by rw [szx]; omega) _ _) (fun _ => rfl) fun y _ => ?_
  repeat' (first | exact Ev.no (by omega) | with_reducible (first | (first | apply Ev.and3 | apply Ev.and | apply Ev.dec | apply Ev.nb | apply Ev.bl | apply Ev.pr) <;> intro _ | apply retI | apply retB | apply retS | apply retTD | apply rII | apply rSB | apply rIB | apply rISB | apply rISI | apply rSII | apply rIII))
  ·trivial
  ·trivial
 simp only [Digits.j0, Digits.j1]
 repeat' (first | exact Ev.no (by omega) | with_reducible (first | (first | apply Ev.and3 | apply Ev.and | apply Ev.dec | apply Ev.nb | apply Ev.bl | apply Ev.pr) <;> intro _ | apply retI | apply retB | apply retS | apply retTD | apply rII | apply rSB | apply rIB | apply rISB | apply rISI | apply rSII | apply rIII))
 all_goals first
  | trivial
  | trivial
  | (refine h2 _ _ ?_ ?_ <;> omega)
theorem UTF8_sp (u : Int) : Sp UTF8.n [.int u] .str (fun (r : ByteArray) => r.size ≤ 4) := by
 refine Sp.of UTF8.fd ?_
 rw [UTF8_eq]
 repeat' (first | exact Ev.no (by omega) | with_reducible (first | (first | apply Ev.and3 | apply Ev.and | apply Ev.dec | apply Ev.nb | apply Ev.bl | apply Ev.pr) <;> intro _ | apply retI | apply retB | apply retS | apply retTD | apply rII | apply rSB | apply rIB | apply rISB | apply rISI | apply rSII | apply rIII))
 all_goals (rw [szL]; simp)
def EscQ : Int × ByteArray × Int → Prop := fun x => x.2.1.size ≤ 4 ∧ 0 ≤ x.2.2 ∧ x.2.2 ≤ 10
theorem Escape_j0 (n m : Int) (h : 0 ≤ m) (h2 : m ≤ 10) : Ev (Escape.j0 id W LM n m ()) (Qs (.t3 .i .str .i) EscQ) := by
 have hj : Ev (Escape.j1 id W LM n m ()) (Qs (.t3 .i .str .i) EscQ) := by
  unfold Escape.j1
  repeat' (first | exact Ev.no (by omega) | with_reducible (first | (first | apply Ev.and3 | apply Ev.and | apply Ev.dec | apply Ev.nb | apply Ev.bl | apply Ev.pr) <;> intro _ | apply retI | apply retB | apply retS | apply retTD | apply rII | apply rSB | apply rIB | apply rISB | apply rISI | apply rSII | apply rIII))
  ·exact ⟨by rw [szL]; simp, by simp, by simp⟩
  refine Ev.cx (UTF8_sp _) (fun _ => rfl) fun y hy => rISI ?_
  exact ⟨hy, h, h2⟩
 unfold Escape.j0
 repeat' (first | exact Ev.no (by omega) | with_reducible (first | (first | apply Ev.and3 | apply Ev.and | apply Ev.dec | apply Ev.nb | apply Ev.bl | apply Ev.pr) <;> intro _ | apply retI | apply retB | apply retS | apply retTD | apply rII | apply rSB | apply rIB | apply rISB | apply rISI | apply rSII | apply rIII))
 all_goals first
  | exact hj
  | exact ⟨Nat.zero_le _, by simp, by simp⟩
theorem Escape_l0 (s : ByteArray) (hs : s.size < 1073741824) (at_ c : Int) (h0 : 0 ≤ at_) (h1 : at_ < 1073741824) (w : ByteArray) (hw : w.size = 8) (l : List Int) (hl : l.length = 8) : ∀ (n0 : Nat) (i : Int), 0 ≤ i → i ≤ 8 → 8 - i < n0 →
  Ev (Escape.l0 id W LM n0 s at_ c w l i ()) (Qs (.t3 .i .str .i) EscQ)
 | 0, i, h2, h3, h4 => by omega
 | n0 + 1, i, h2, h3, h4 => by
  rw [Escape.l0_succ]
  (try simp (disch := omega) only [wi])
  repeat' (first | exact Ev.no (by omega) | with_reducible (first | (first | apply Ev.and3 | apply Ev.and | apply Ev.dec | apply Ev.nb | apply Ev.bl | apply Ev.pr) <;> intro _ | apply retI | apply retB | apply retS | apply retTD | apply rII | apply rSB | apply rIB | apply rISB | apply rISI | apply rSII | apply rIII))
  ·exact ⟨by rw [szL]; simp, by simp, by simp⟩
  ·exact Escape_l0 s hs at_ c h0 h1 w hw l hl n0 _ (by omega) (by omega) (by omega)
  all_goals
   refine Ev.cx (number_sp s hs _ _ _ (by omega) (by omega) (by omega)) (fun _ => rfl) fun y _ => ?_
   exact Escape_j0 _ _ (by decide) (by decide)
theorem Escape_sp (s : ByteArray) (hs : s.size < 1073741824) (at_ q : Int) (h0 : 0 ≤ at_) (h1 : at_ < 1073741824) : Sp Escape.n [.str s, .int at_, .ik .u8 q] (.t3 .i .str .i) EscQ := by
 refine Sp.of Escape.fd ?_
 rw [Escape_eq]
 (try simp (disch := omega) only [wi])
 repeat' (first | exact Ev.no (by omega) | with_reducible (first | (first | apply Ev.and3 | apply Ev.and | apply Ev.dec | apply Ev.nb | apply Ev.bl | apply Ev.pr) <;> intro _ | apply retI | apply retB | apply retS | apply retTD | apply rII | apply rSB | apply rIB | apply rISB | apply rISI | apply rSII | apply rIII))
 ·exact ⟨Nat.zero_le _, by simp, by simp⟩
 ·exact ⟨by rw [szL]; simp, by simp, by simp⟩
 ·exact Escape_l0 s hs at_ _ h0 h1 _ rfl _ rfl _ 0 (by omega) (by omega) (by unfold LM; omega)
def UnqQ : ByteArray × Int × Int → Prop := fun _ => True
theorem Unquote_l0 (s : ByteArray) (hs : s.size < 1073741824) : ∀ (n0 : Nat) (w : ByteArray) (i : Int), 0 ≤ i → (s.size : Int) - i < n0 → w.size ≤ i → i ≤ s.size →
  Ev (Unquote.l0 W LM n0 s w i ()) (Qs (.t3 .str .i .i) UnqQ)
 | 0, w, i, h0, h2, h3, h4 => by
  omega
 | n0 + 1, w, i, h0, h2, h3, h4 => by
  have hz := szx s i.toNat (i + 1).toNat
  have hj : i < s.size → Ev (Unquote.j1 W LM n0 s w i ()) (Qs (.t3 .str .i .i) UnqQ) := by
   intro hi
   unfold Unquote.j1
   (try simp (disch := omega) only [wi])
   repeat' (first | exact Ev.no (by omega) | with_reducible (first | (first | apply Ev.and3 | apply Ev.and | apply Ev.dec | apply Ev.nb | apply Ev.bl | apply Ev.pr) <;> intro _ | apply retI | apply retB | apply retS | apply retTD | apply rII | apply rSB | apply rIB | apply rISB | apply rISI | apply rSII | apply rIII))
   ·trivial
   ·exact Unquote_l0 s hs n0 _ _ (by omega) (by omega) (by rw [ByteArray.size_append]; omega) (by omega)
   ·exact Unquote_l0 s hs n0 _ _ (by omega) (by omega) (by omega) (by omega)
  rw [Unquote.l0_succ]
  (try simp (disch := omega) only [wi])
  repeat' (first | exact Ev.no (by omega) | with_reducible (first | (first | apply Ev.and3 | apply Ev.and | apply Ev.dec | apply Ev.nb | apply Ev.bl | apply Ev.pr) <;> intro _ | apply retI | apply retB | apply retS | apply retTD | apply rII | apply rSB | apply rIB | apply rISB | apply rISI | apply rSII | apply rIII))
  all_goals first
   | trivial
   | exact hj ‹_›
theorem Unquote_l2 (s : ByteArray) (hs : s.size < 1073741824) : ∀ (n0 : Nat) (w : ByteArray) (i : Int), 0 ≤ i → (s.size : Int) + 21 - i < n0 → w.size ≤ 4 * i → i ≤ s.size + 20 →
  Ev (Unquote.l2 W LM n0 s w i ()) (Qs (.t3 .str .i .i) UnqQ)
 | 0, w, i, h0, h2, h3, h4 => by
  omega
 | n0 + 1, w, i, h0, h2, h3, h4 => by
  have hz := szx s i.toNat (i + 1).toNat
  rw [Unquote.l2_succ]
  unfold Unquote.j4
  (try simp (disch := omega) only [wi])
  repeat' (first | exact Ev.no (by omega) | with_reducible (first | (first | apply Ev.and3 | apply Ev.and | apply Ev.dec | apply Ev.nb | apply Ev.bl | apply Ev.pr) <;> intro _ | apply retI | apply retB | apply retS | apply retTD | apply rII | apply rSB | apply rIB | apply rISB | apply rISI | apply rSII | apply rIII))
  ·trivial
  ·trivial
  ·refine Ev.cx (Escape_sp s hs i _ h0 (by omega)) (fun _ => rfl) fun y hy => ?_
   obtain ⟨y1, y2, y3⟩ := y
   obtain ⟨e1, e2, e3⟩ := hy
   simp only at e1 e2 e3 ⊢
   (try simp (disch := omega) only [wi])
   repeat' (first | exact Ev.no (by omega) | with_reducible (first | (first | apply Ev.and3 | apply Ev.and | apply Ev.dec | apply Ev.nb | apply Ev.bl | apply Ev.pr) <;> intro _ | apply retI | apply retB | apply retS | apply retTD | apply rII | apply rSB | apply rIB | apply rISB | apply rISI | apply rSII | apply rIII))
   ·trivial
   ·exact Unquote_l2 s hs n0 _ _ (by omega) (by omega) (by rw [ByteArray.size_append]; omega) (by omega)
  ·exact Unquote_l2 s hs n0 _ _ (by omega) (by omega) (by rw [ByteArray.size_append]; omega) (by omega)
  all_goals trivial
end Go.AI.Sn
end
section
set_option maxRecDepth 100000
namespace Go.AI.Sn
open Rd
theorem Unquote_sp (s : ByteArray) (hs : s.size < 1073741824) : Sp Unquote.n [.str s] (.t3 .str .i .i) UnqQ := by
 refine Sp.of Unquote.fd ?_
 rw [Unquote_eq]
 simp only [Unquote.j0, Unquote.j2, Unquote.j3]
 have e : (⟨#[]⟩ : ByteArray).size = 0 := rfl
 repeat' (first | exact Ev.no (by omega) | with_reducible (first | (first | apply Ev.and3 | apply Ev.and | apply Ev.dec | apply Ev.nb | apply Ev.bl | apply Ev.pr) <;> intro _ | apply retI | apply retB | apply retS | apply retTD | apply rII | apply rSB | apply rIB | apply rISB | apply rISI | apply rSII | apply rIII))
 all_goals first
  | trivial
  | (refine Unquote_l0 s hs _ _ 1 (by omega) ?_ (by omega) (by omega); unfold LM; omega)
  | (refine Unquote_l2 s hs _ _ 1 (by omega) ?_ (by omega) (by omega); unfold LM; omega)
def ChQ : Int × Int → Prop := fun x => 0 ≤ x.2 ∧ x.2 ≤ 4
theorem Char_l2 (s : ByteArray) (hs : s.size < 1073741824) (at_ c n : Int) (h0 : 0 ≤ at_) (hn : 2 ≤ n) (hn4 : n ≤ 4) (hz : at_ + n ≤ s.size) (n0 : Nat) (H : Ev (sChar.l0 W LM n0 s at_ c (n + 1) ()) (Qs (.t2 .i .i) ChQ)) : ∀ (n2 : Nat) (u : Int) (ok : Bool) (i : Int), at_ ≤ i → i ≤ at_ + n → at_ + n - i < n2 →
  Ev (sChar.l2 W LM n0 n2 s at_ c n u ok i ()) (Qs (.t2 .i .i) ChQ)
 | 0, u, ok, i, h1, h2, h3 => by omega
 | n2 + 1, u, ok, i, h1, h2, h3 => by
  rw [sChar.l2_succ]
  (try simp (disch := omega) only [wi])
  simp only [List.length_cons, List.length_nil]
  repeat' (first | exact Ev.no (by omega) | with_reducible (first | (first | apply Ev.and3 | apply Ev.and | apply Ev.dec | apply Ev.nb | apply Ev.bl | apply Ev.pr) <;> intro _ | apply retI | apply retB | apply retS | apply retTD | apply rII | apply rSB | apply rIB | apply rISB | apply rISI | apply rSII | apply rIII))
  all_goals first
   | exact H
   | exact ⟨by show 0 ≤ n; omega, hn4⟩
   | exact Char_l2 s hs at_ c n h0 hn hn4 hz n0 H n2 _ _ _ (by omega) (by omega) (by omega)
theorem Char_l0 (s : ByteArray) (hs : s.size < 1073741824) (at_ c : Int) (h0 : 0 ≤ at_) (ha : at_ < s.size) : ∀ (n0 : Nat) (n : Int), 2 ≤ n → n ≤ 5 → 5 - n < n0 →
  Ev (sChar.l0 W LM n0 s at_ c n ()) (Qs (.t2 .i .i) ChQ)
 | 0, n, h1, h2, h3 => by omega
 | n0 + 1, n, h1, h2, h3 => by
  rw [sChar.l0_succ]
  simp only [sChar.j0, sChar.j1]
  (try simp (disch := omega) only [wi])
  simp only [List.length_cons, List.length_nil]
  repeat' (first | exact Ev.no (by omega) | with_reducible (first | (first | apply Ev.and3 | apply Ev.and | apply Ev.dec | apply Ev.nb | apply Ev.bl | apply Ev.pr) <;> intro _ | apply retI | apply retB | apply retS | apply retTD | apply rII | apply rSB | apply rIB | apply rISB | apply rISI | apply rSII | apply rIII))
  all_goals first
   | exact ⟨by decide, by decide⟩
   | (refine Char_l2 s hs at_ c n h0 h1 (by omega) (by omega) n0 (Char_l0 s hs at_ c h0 ha n0 _ (by omega) (by omega) (by omega)) _ _ _ _ (by omega) (by omega) ?_; unfold LM; omega)
theorem Char_sp (s : ByteArray) (hs : s.size < 1073741824) (at_ : Int) (h0 : 0 ≤ at_) : Sp sChar.n [.str s, .int at_] (.t2 .i .i) ChQ := by
 refine Sp.of sChar.fd ?_
 rw [sChar_eq]
 repeat' (first | exact Ev.no (by omega) | with_reducible (first | (first | apply Ev.and3 | apply Ev.and | apply Ev.dec | apply Ev.nb | apply Ev.bl | apply Ev.pr) <;> intro _ | apply retI | apply retB | apply retS | apply retTD | apply rII | apply rSB | apply rIB | apply rISB | apply rISI | apply rSII | apply rIII))
 ·exact ⟨by decide, by decide⟩
 ·exact ⟨by simp, by simp⟩
 ·exact Char_l0 s hs at_ _ h0 (by omega) _ _ (by omega) (by omega) (by unfold LM; omega)
theorem Rune_sp (s : ByteArray) (hs : s.size < 1073741824) : Sp sRune.n [.str s] (.t3 .i .i .i) (fun (_ : Int × Int × Int) => True) := by
 refine Sp.of sRune.fd ?_
 rw [sRune_eq]
 have hj : ∀ u n : Int, 0 ≤ n → n ≤ 10 → 2 ≤ s.size → Ev (sRune.j1 W LM s u n ()) (Qs (.t3 .i .i .i) fun (_ : Int × Int × Int) => True) := by
  intro u n h0 h1 h2
  unfold sRune.j1
  (try simp (disch := omega) only [wi])
  repeat' (first | exact Ev.no (by omega) | with_reducible (first | (first | apply Ev.and3 | apply Ev.and | apply Ev.dec | apply Ev.nb | apply Ev.bl | apply Ev.pr) <;> intro _ | apply retI | apply retB | apply retS | apply retTD | apply rII | apply rSB | apply rIB | apply rISB | apply rISI | apply rSII | apply rIII))
  all_goals trivial
 unfold sRune.j0
 repeat' (first | exact Ev.no (by omega) | with_reducible (first | (first | apply Ev.and3 | apply Ev.and | apply Ev.dec | apply Ev.nb | apply Ev.bl | apply Ev.pr) <;> intro _ | apply retI | apply retB | apply retS | apply retTD | apply rII | apply rSB | apply rIB | apply rISB | apply rISI | apply rSII | apply rIII))
 ·trivial
 ·trivial
 refine Ev.cx (Char_sp s hs 1 (by omega)) (fun _ => rfl) fun x hx => ?_
 obtain ⟨x1, x2⟩ := hx
 repeat' (first | exact Ev.no (by omega) | with_reducible (first | (first | apply Ev.and3 | apply Ev.and | apply Ev.dec | apply Ev.nb | apply Ev.bl | apply Ev.pr) <;> intro _ | apply retI | apply retB | apply retS | apply retTD | apply rII | apply rSB | apply rIB | apply rISB | apply rISI | apply rSII | apply rIII))
 ·refine Ev.cx (Escape_sp s hs 1 _ (by omega) (by omega)) (fun _ => rfl) fun y hy => ?_
  obtain ⟨y1, y2, y3⟩ := hy
  repeat' (first | exact Ev.no (by omega) | with_reducible (first | (first | apply Ev.and3 | apply Ev.and | apply Ev.dec | apply Ev.nb | apply Ev.bl | apply Ev.pr) <;> intro _ | apply retI | apply retB | apply retS | apply retTD | apply rII | apply rSB | apply rIB | apply rISB | apply rISI | apply rSII | apply rIII))
  ·trivial
  ·exact hj _ _ y2 y3 (by omega)
 ·exact hj _ _ x1 (by omega) (by omega)
def FindQ (s : ByteArray) (from_ : Int) (w : ByteArray) : Int → Prop := fun r => (from_ ≤ r ∧ r + w.size ≤ s.size ∧ (s.extract r.toNat (r + w.size).toNat).toList = w.toList) ∨ r = s.size
theorem find_l0 (s : ByteArray) (hs : s.size < 1073741824) (f : Int) (h0 : 0 ≤ f) (w : ByteArray) (hw : w.size ≤ 100) : ∀ (n0 : Nat) (i : Int), f ≤ i → (s.size : Int) + 1 - i < n0 → 0 < n0 → i < 3000000000 →
  Ev (sfind.l0 W LM n0 s w i ()) (Qs .i (FindQ s f w))
 | 0, i, h1, h2, h3, h4 => by omega
 | n0 + 1, i, h1, h2, h3, h4 => by
  rw [sfind.l0_succ]
  (try simp (disch := omega) only [wi])
  repeat' (first | exact Ev.no (by omega) | with_reducible (first | (first | apply Ev.and3 | apply Ev.and | apply Ev.dec | apply Ev.nb | apply Ev.bl | apply Ev.pr) <;> intro _ | apply retI | apply retB | apply retS | apply retTD | apply rII | apply rSB | apply rIB | apply rISB | apply rISI | apply rSII | apply rIII))
  ·exact .inl ⟨h1, by omega, eq_of_beq ‹_›⟩
  ·exact find_l0 s hs f h0 w hw n0 _ (by omega) (by omega) (by omega) (by omega)
  ·exact .inr rfl
theorem find_sp (s : ByteArray) (hs : s.size < 1073741824) (f : Int) (h0 : 0 ≤ f) (h1 : f < 2000000000) (w : ByteArray) (hw : w.size ≤ 100) : Sp sfind.n [.str s, .int f, .str w] .i (FindQ s f w) := by
 refine Sp.of sfind.fd ?_
 rw [sfind_eq]
 exact find_l0 s hs f h0 w hw _ _ (by omega) (by unfold LM; omega) (by unfold LM; omega) (by omega)
theorem quoted_l0 (s : ByteArray) (hs : s.size < 1073741824) (i0 c : Int) (h0 : 0 ≤ i0) : ∀ (n0 : Nat) (i : Int), i0 < i → i ≤ s.size → (s.size : Int) - i < n0 →
  Ev (quoted.l0 W LM n0 s i c ()) (Qs (.t2 .i .b) fun (x : Int × Bool) => i0 < x.1 ∧ x.1 ≤ s.size)
 | 0, i, h1, h2, h3 => by omega
 | n0 + 1, i, h1, h2, h3 => by
  rw [quoted.l0_succ]
  unfold quoted.j0
  have e1 : IntKind.i64.wrap (i + 1) = i + 1 := wi _ (by omega) (by omega)
  have e2 : IntKind.i64.wrap (i + 1 + 1) = i + 1 + 1 := wi _ (by omega) (by omega)
  simp only [e1, e2]
  repeat' (first | exact Ev.no (by omega) | with_reducible (first | (first | apply Ev.and3 | apply Ev.and | apply Ev.dec | apply Ev.nb | apply Ev.bl | apply Ev.pr) <;> intro _ | apply retI | apply retB | apply retS | apply retTD | apply rII | apply rSB | apply rIB | apply rISB | apply rISI | apply rSII | apply rIII))
  all_goals first
   | exact quoted_l0 s hs i0 c h0 n0 _ (by omega) (by omega) (by omega)
   | omega
theorem quoted_sp (s : ByteArray) (hs : s.size < 1073741824) (i : Int) (h0 : 0 ≤ i) (h1 : i < s.size) : Sp quoted.n [.str s, .int i] (.t2 .i .b) (fun (x : Int × Bool) => i < x.1 ∧ x.1 ≤ s.size) := by
 refine Sp.of quoted.fd ?_
 rw [quoted_eq]
 (try simp (disch := omega) only [wi])
 repeat' (first | exact Ev.no (by omega) | with_reducible (first | (first | apply Ev.and3 | apply Ev.and | apply Ev.dec | apply Ev.nb | apply Ev.bl | apply Ev.pr) <;> intro _ | apply retI | apply retB | apply retS | apply retTD | apply rII | apply rSB | apply rIB | apply rISB | apply rISI | apply rSII | apply rIII))
 exact quoted_l0 s hs i _ h0 _ _ (by omega) (by omega) (by unfold LM; omega)
def kOK (k : Int) : Prop := 1 ≤ k ∧ k ≤ 5 ∨ 10 ≤ k ∧ k ≤ 15 ∨ 20 ≤ k ∧ k ≤ 65 ∨ 70 ≤ k ∧ k ≤ 90
def TokQ (s : ByteArray) (i : Int) : Tok × Diag → Prop := fun x => x.1.f = i ∧ i < x.1.t ∧ x.1.t ≤ s.size ∧ kOK x.1.k
theorem text_sp (s : ByteArray) (hs : s.size < 1073741824) (i : Int) (h0 : 0 ≤ i) (h1 : i < s.size) : Sp stext.n [.str s, .int i] (.t2 (.e .tok) (.e .diag)) (TokQ s i) := by
 refine Sp.of stext.fd ?_
 rw [stext_eq]
 refine Ev.cx (quoted_sp s hs i h0 h1) (fun _ => rfl) fun x hx => ?_
 unfold stext.j0
 have hk : kOK 12 ∧ kOK 13 := by unfold kOK; omega
 have hz := szx s i.toNat x.1.toNat
 repeat' (first | exact Ev.no (by omega) | with_reducible (first | (first | apply Ev.and3 | apply Ev.and | apply Ev.dec | apply Ev.nb | apply Ev.bl | apply Ev.pr) <;> intro _ | apply retI | apply retB | apply retS | apply retTD | apply rII | apply rSB | apply rIB | apply rISB | apply rISI | apply rSII | apply rIII))
 all_goals first
  | exact ⟨rfl, hx.1, hx.2, hk.1⟩
  | exact ⟨rfl, hx.1, hx.2, hk.2⟩
  | (refine Ev.cx (Unquote_sp _ (by omega)) (fun _ => rfl) fun y _ => retTD ?_; exact ⟨rfl, hx.1, hx.2, hk.2⟩)
  | (refine Ev.cx (Unquote_sp _ (by omega)) (fun _ => rfl) fun y _ => retTD ?_; exact ⟨rfl, hx.1, hx.2, hk.1⟩)
  | (refine Ev.cx (Rune_sp _ (by omega)) (fun _ => rfl) fun y _ => retTD ?_; exact ⟨rfl, hx.1, hx.2, hk.1⟩)
  | (refine Ev.cx (Rune_sp _ (by omega)) (fun _ => rfl) fun y _ => retTD ?_; exact ⟨rfl, hx.1, hx.2, hk.2⟩)
theorem other_sp (s : ByteArray) (hs : s.size < 1073741824) (i : Int) (h0 : 0 ≤ i) (h1 : i < s.size) : Sp sother.n [.str s, .int i] (.t2 (.e .tok) (.e .diag)) (TokQ s i) := by
 refine Sp.of sother.fd ?_
 rw [sother_eq]
 repeat' (first | exact Ev.no (by omega) | with_reducible (first | (first | apply Ev.and3 | apply Ev.and | apply Ev.dec | apply Ev.nb | apply Ev.bl | apply Ev.pr) <;> intro _ | apply retI | apply retB | apply retS | apply retTD | apply rII | apply rSB | apply rIB | apply rISB | apply rISI | apply rSII | apply rIII))
 refine Ev.cx (Operator_sp _ (by rw [szx]; omega)) (fun _ => rfl) fun x hx => ?_
 rw [szx] at hx
 obtain ⟨k, n⟩ := x
 simp only at hx ⊢
 (try simp (disch := omega) only [wi])
 repeat' (first | exact Ev.no (by omega) | with_reducible (first | (first | apply Ev.and3 | apply Ev.and | apply Ev.dec | apply Ev.nb | apply Ev.bl | apply Ev.pr) <;> intro _ | apply retI | apply retB | apply retS | apply retTD | apply rII | apply rSB | apply rIB | apply rISB | apply rISI | apply rSII | apply rIII))
 ·refine ⟨rfl, ?_, ?_, ?_⟩ <;> (try unfold kOK) <;> dsimp only <;> omega
 refine Ev.cx (Width_sp s i hs h0 h1) (fun _ => rfl) fun y hy => ?_
 refine Ev.cx (said_sp s i hs h0 h1) (fun _ => rfl) fun z _ => ?_
 (try simp (disch := omega) only [wi])
 repeat' (first | exact Ev.no (by omega) | with_reducible (first | (first | apply Ev.and3 | apply Ev.and | apply Ev.dec | apply Ev.nb | apply Ev.bl | apply Ev.pr) <;> intro _ | apply retI | apply retB | apply retS | apply retTD | apply rII | apply rSB | apply rIB | apply rISB | apply rISI | apply rSII | apply rIII))
 all_goals (refine ⟨rfl, ?_, ?_, ?_⟩ <;> (try unfold kOK) <;> dsimp only <;> omega)
end Go.AI.Sn
end
section
set_option maxRecDepth 100000
namespace Go.AI.Sn
open Rd
theorem ext1 (s : ByteArray) (i : Int) (h0 : 0 ≤ i) (h1 : i < s.size) (x : UInt8) (h : (s.extract i.toNat (i + 1).toNat).toList = [x]) : bt s i = (x.toNat : Int) := by
 have e : i = (i.toNat : Int) := by omega
 rw [ByteArray.toList_eq, ByteArray.data_extract] at h
 have h2 := bt_get s i.toNat (by omega)
 rw [← e] at h2
 rw [h2]
 have h3 : (s.data.extract i.toNat (i + 1).toNat).toList[0]? = some x := by rw [h]; rfl
 rw [Array.getElem?_toList, Array.getElem?_extract] at h3
 have h4 : s.data[i.toNat]? = some x := by
  have e2 : 0 < min (i + 1).toNat s.data.size - i.toNat := by
   have : s.data.size = s.size := rfl
   omega
  simp only [e2, true_and, Nat.add_zero, if_true] at h3
  exact h3
 have h5 : s.data.toList[i.toNat]? = some x := by rw [Array.getElem?_toList]; exact h4
 obtain ⟨h6, h7⟩ := List.getElem?_eq_some_iff.1 h5
 rw [h7]
abbrev TD : Sh := .t2 (.e .tok) (.e .diag)
section
variable (s : ByteArray) (hs : s.size < 1073741824) (i : Int) (h0 : 0 ≤ i) (a b c d e g k u v w : Int)
include hs h0
theorem Next_l1 (hk : kOK k) : ∀ (n0 : Nat) (t : Int), i < t → t ≤ s.size → (s.size : Int) - t < n0 → Ev (sNext.l1 W LM n0 s a b c d e g k i t u v w ()) (Qs TD (TokQ s i))
 | 0, t, h1, h2, h3 => by omega
 | n0 + 1, t, h1, h2, h3 => by
  have e1 : t < s.size → IntKind.i64.wrap (t + 1) = t + 1 := fun h => wi _ (by omega) (by omega)
  rw [sNext.l1_succ]
  repeat' (first | exact Ev.no (by omega) | with_reducible (first | (first | apply Ev.and3 | apply Ev.and | apply Ev.dec | apply Ev.nb | apply Ev.bl | apply Ev.pr) <;> intro _ | apply retI | apply retB | apply retS | apply retTD | apply rII | apply rSB | apply rIB | apply rISB | apply rISI | apply rSII | apply rIII))
  ·refine Ev.cx (blank_sp _) (fun _ => rfl) fun x _ => ?_
   rw [e1 ‹_›]
   repeat' (first | exact Ev.no (by omega) | with_reducible (first | (first | apply Ev.and3 | apply Ev.and | apply Ev.dec | apply Ev.nb | apply Ev.bl | apply Ev.pr) <;> intro _ | apply retI | apply retB | apply retS | apply retTD | apply rII | apply rSB | apply rIB | apply rISB | apply rISI | apply rSII | apply rIII))
   ·exact Next_l1 hk n0 _ (by omega) (by omega) (by omega)
   ·exact ⟨rfl, h1, h2, hk⟩
  ·exact ⟨rfl, h1, h2, hk⟩
theorem Next_l3 : ∀ (n0 : Nat) (t : Int), i < t → t ≤ s.size → (s.size : Int) - t < n0 → Ev (sNext.l3 W LM n0 s i a b c d e g k i t u v w ()) (Qs TD (TokQ s i))
 | 0, t, h1, h2, h3 => by omega
 | n0 + 1, t, h1, h2, h3 => by
  have e1 : t < s.size → IntKind.i64.wrap (t + 1) = t + 1 := fun h => wi _ (by omega) (by omega)
  have hK : ∀ {A : Int → Unit → Option (AV × Unit)}, A = (fun (x : Int) _ => if (decide (x = 0)) then some (.tup [.agg [.int 10, .int i, .int t], .agg [.int u, .int v, .int t]], ()) else some (.tup [.agg [.int x, .int i, .int t], .agg [.int u, .int v, .int t]], ())) →
    Ev (cX W .i .unit Keyword.n [.str (ByteArray.extract s (Int.toNat i) (Int.toNat t))] () A) (Qs TD (TokQ s i)) := by
   rintro A rfl
   refine Ev.cx (Keyword_sp _) (fun _ => rfl) fun (x : Int) hx => ?_
   repeat' (first | exact Ev.no (by omega) | with_reducible (first | (first | apply Ev.and3 | apply Ev.and | apply Ev.dec | apply Ev.nb | apply Ev.bl | apply Ev.pr) <;> intro _ | apply retI | apply retB | apply retS | apply retTD | apply rII | apply rSB | apply rIB | apply rISB | apply rISI | apply rSII | apply rIII))
   ·exact ⟨rfl, h1, h2, by unfold kOK; dsimp only; omega⟩
   ·exact ⟨rfl, h1, h2, by unfold kOK; dsimp only; omega⟩
  rw [sNext.l3_succ]
  repeat' (first | exact Ev.no (by omega) | with_reducible (first | (first | apply Ev.and3 | apply Ev.and | apply Ev.dec | apply Ev.nb | apply Ev.bl | apply Ev.pr) <;> intro _ | apply retI | apply retB | apply retS | apply retTD | apply rII | apply rSB | apply rIB | apply rISB | apply rISI | apply rSII | apply rIII))
  ·refine Ev.cx (letter_sp _) (fun _ => rfl) fun x _ => ?_
   rw [e1 ‹_›]
   repeat' (first | exact Ev.no (by omega) | with_reducible (first | (first | apply Ev.and3 | apply Ev.and | apply Ev.dec | apply Ev.nb | apply Ev.bl | apply Ev.pr) <;> intro _ | apply retI | apply retB | apply retS | apply retTD | apply rII | apply rSB | apply rIB | apply rISB | apply rISI | apply rSII | apply rIII))
   ·exact Next_l3 n0 _ (by omega) (by omega) (by omega)
   refine Ev.cx (digit_sp _) (fun _ => rfl) fun y _ => ?_
   repeat' (first | exact Ev.no (by omega) | with_reducible (first | (first | apply Ev.and3 | apply Ev.and | apply Ev.dec | apply Ev.nb | apply Ev.bl | apply Ev.pr) <;> intro _ | apply retI | apply retB | apply retS | apply retTD | apply rII | apply rSB | apply rIB | apply rISB | apply rISI | apply rSII | apply rIII))
   ·exact Next_l3 n0 _ (by omega) (by omega) (by omega)
   ·exact hK rfl
  ·exact hK rfl
theorem Next_l5 (hk : kOK k) : ∀ (n0 : Nat) (t : Int), i < t → t ≤ s.size → (s.size : Int) - t < n0 → Ev (sNext.l5 W LM n0 s i a b c d e g k i t u v w ()) (Qs TD (TokQ s i))
 | 0, t, h1, h2, h3 => by omega
 | n0 + 1, t, h1, h2, h3 => by
  have e1 : t < s.size → IntKind.i64.wrap (t + 1) = t + 1 := fun h => wi _ (by omega) (by omega)
  have hz := szx s i.toNat t.toNat
  have hK : ∀ {A : Int × ByteArray × Bool → Unit → Option (AV × Unit)}, A = (fun (x : Int × ByteArray × Bool) _ => if (!x.2.2) then some (.tup [.agg [.int k, .int i, .int t], .agg [.int 109, .int v, .int t]], ()) else some (.tup [.agg [.int k, .int i, .int t], .agg [.int u, .int v, .int t]], ())) →
    Ev (cX W (.t3 .i .str .b) .unit Digits.n [.str (ByteArray.extract s (Int.toNat i) (Int.toNat t))] () A) (Qs TD (TokQ s i)) := by
   rintro A rfl
   refine Ev.cx (Digits_sp _ (by omega)) (fun _ => rfl) fun x hx => ?_
   repeat' (first | exact Ev.no (by omega) | with_reducible (first | (first | apply Ev.and3 | apply Ev.and | apply Ev.dec | apply Ev.nb | apply Ev.bl | apply Ev.pr) <;> intro _ | apply retI | apply retB | apply retS | apply retTD | apply rII | apply rSB | apply rIB | apply rISB | apply rISI | apply rSII | apply rIII))
   ·exact ⟨rfl, h1, h2, hk⟩
   ·exact ⟨rfl, h1, h2, hk⟩
  rw [sNext.l5_succ]
  repeat' (first | exact Ev.no (by omega) | with_reducible (first | (first | apply Ev.and3 | apply Ev.and | apply Ev.dec | apply Ev.nb | apply Ev.bl | apply Ev.pr) <;> intro _ | apply retI | apply retB | apply retS | apply retTD | apply rII | apply rSB | apply rIB | apply rISB | apply rISI | apply rSII | apply rIII))
  ·refine Ev.cx (letter_sp _) (fun _ => rfl) fun x _ => ?_
   rw [e1 ‹_›]
   repeat' (first | exact Ev.no (by omega) | with_reducible (first | (first | apply Ev.and3 | apply Ev.and | apply Ev.dec | apply Ev.nb | apply Ev.bl | apply Ev.pr) <;> intro _ | apply retI | apply retB | apply retS | apply retTD | apply rII | apply rSB | apply rIB | apply rISB | apply rISI | apply rSII | apply rIII))
   ·exact Next_l5 hk n0 _ (by omega) (by omega) (by omega)
   refine Ev.cx (digit_sp _) (fun _ => rfl) fun y _ => ?_
   repeat' (first | exact Ev.no (by omega) | with_reducible (first | (first | apply Ev.and3 | apply Ev.and | apply Ev.dec | apply Ev.nb | apply Ev.bl | apply Ev.pr) <;> intro _ | apply retI | apply retB | apply retS | apply retTD | apply rII | apply rSB | apply rIB | apply rISB | apply rISI | apply rSII | apply rIII))
   ·exact Next_l5 hk n0 _ (by omega) (by omega) (by omega)
   ·exact hK rfl
  ·exact hK rfl
theorem Next_j3 (h1 : i < s.size) (z : Bool) (t x0 : Int) : Ev (sNext.j3 W LM s i x0 z a b c d e g k i t u v w ()) (Qs TD (TokQ s i)) := by
 unfold sNext.j3
 (try simp (disch := omega) only [wi])
 repeat' (first | exact Ev.no (by omega) | with_reducible (first | (first | apply Ev.and3 | apply Ev.and | apply Ev.dec | apply Ev.nb | apply Ev.bl | apply Ev.pr) <;> intro _ | apply retI | apply retB | apply retS | apply retTD | apply rII | apply rSB | apply rIB | apply rISB | apply rISI | apply rSII | apply rIII))
 ·refine Ev.cx (text_sp s hs i h0 h1) (fun _ => rfl) fun x hx => ?_
  exact retTD hx
 ·refine Ev.cx (find_sp s hs _ (by omega) (by omega) ⟨#[96]⟩ (by decide)) (fun _ => rfl) fun (x : Int) hx => ?_
  have hx : i + 1 ≤ x ∧ x + 1 ≤ s.size ∨ x = s.size := by
   rcases hx with ⟨q1, q2, _⟩ | q
   ·exact .inl ⟨q1, q2⟩
   ·exact .inr q
  (try simp (disch := omega) only [wi])
  repeat' (first | exact Ev.no (by omega) | with_reducible (first | (first | apply Ev.and3 | apply Ev.and | apply Ev.dec | apply Ev.nb | apply Ev.bl | apply Ev.pr) <;> intro _ | apply retI | apply retB | apply retS | apply retTD | apply rII | apply rSB | apply rIB | apply rISB | apply rISI | apply rSII | apply rIII))
  ·exact ⟨rfl, by dsimp only; omega, by dsimp only; omega, by unfold kOK; dsimp only; omega⟩
  ·exact ⟨rfl, by dsimp only; omega, by dsimp only; omega, by unfold kOK; dsimp only; omega⟩
 ·refine Ev.cx (other_sp s hs i h0 h1) (fun _ => rfl) fun x hx => ?_
  exact retTD hx
theorem Next_j2 (h1 : i < s.size) (z : Bool) (x0 : Int) : Ev (sNext.j2 W LM s i x0 z a b c d e g k i (i + 1) u v w ()) (Qs TD (TokQ s i)) := by
 unfold sNext.j2
 (try simp (disch := omega) only [wi])
 repeat' (first | exact Ev.no (by omega) | with_reducible (first | (first | apply Ev.and3 | apply Ev.and | apply Ev.dec | apply Ev.nb | apply Ev.bl | apply Ev.pr) <;> intro _ | apply retI | apply retB | apply retS | apply retTD | apply rII | apply rSB | apply rIB | apply rISB | apply rISI | apply rSII | apply rIII))
 ·refine Ev.cx (find_sp s hs _ (by omega) (by omega) ⟨#[42, 47]⟩ (by decide)) (fun _ => rfl) fun (x : Int) hx => ?_
  have hx : i + 2 ≤ x ∧ x + 2 ≤ s.size ∨ x = s.size := by
   rcases hx with ⟨q1, q2, _⟩ | q
   ·exact .inl ⟨q1, q2⟩
   ·exact .inr q
  (try simp (disch := omega) only [wi])
  repeat' (first | exact Ev.no (by omega) | with_reducible (first | (first | apply Ev.and3 | apply Ev.and | apply Ev.dec | apply Ev.nb | apply Ev.bl | apply Ev.pr) <;> intro _ | apply retI | apply retB | apply retS | apply retTD | apply rII | apply rSB | apply rIB | apply rISB | apply rISI | apply rSII | apply rIII))
  ·exact ⟨rfl, by dsimp only; omega, by dsimp only; omega, by unfold kOK; dsimp only; omega⟩
  ·exact ⟨rfl, by dsimp only; omega, by dsimp only; omega, by unfold kOK; dsimp only; omega⟩
 refine Ev.cx (letter_sp _) (fun _ => rfl) fun x _ => ?_
 repeat' (first | exact Ev.no (by omega) | with_reducible (first | (first | apply Ev.and3 | apply Ev.and | apply Ev.dec | apply Ev.nb | apply Ev.bl | apply Ev.pr) <;> intro _ | apply retI | apply retB | apply retS | apply retTD | apply rII | apply rSB | apply rIB | apply rISB | apply rISI | apply rSII | apply rIII))
 ·exact Next_l3 s hs i h0 a b c d e g k u v w _ _ (by omega) (by omega) (by unfold LM; omega)
 refine Ev.cx (digit_sp _) (fun _ => rfl) fun y _ => ?_
 repeat' (first | exact Ev.no (by omega) | with_reducible (first | (first | apply Ev.and3 | apply Ev.and | apply Ev.dec | apply Ev.nb | apply Ev.bl | apply Ev.pr) <;> intro _ | apply retI | apply retB | apply retS | apply retTD | apply rII | apply rSB | apply rIB | apply rISB | apply rISI | apply rSII | apply rIII))
 ·exact Next_l5 s hs i h0 a b c d e g 11 u v w (by unfold kOK; omega) _ _ (by omega) (by omega) (by unfold LM; omega)
 ·exact Next_j3 s hs i h0 a b c d e g k u v w h1 _ _ _
 ·exact Next_j3 s hs i h0 a b c d e g k u v w h1 _ _ _
theorem Next_j1 (h1 : i < s.size) (z : Bool) (x0 : Int) (hx0 : z = true → bt s i = 47) : Ev (sNext.j1 W LM s i x0 z a b c d e g k i (i + 1) u v w ()) (Qs TD (TokQ s i)) := by
 unfold sNext.j1
 (try simp (disch := omega) only [wi])
 repeat' (first | exact Ev.no (by omega) | with_reducible (first | (first | apply Ev.and3 | apply Ev.and | apply Ev.dec | apply Ev.nb | apply Ev.bl | apply Ev.pr) <;> intro _ | apply retI | apply retB | apply retS | apply retTD | apply rII | apply rSB | apply rIB | apply rISB | apply rISI | apply rSII | apply rIII))
 ·refine Ev.cx (find_sp s hs _ (by omega) (by omega) ⟨#[10]⟩ (by decide)) (fun _ => rfl) fun (x : Int) hx => ?_
  have hx : i + 1 ≤ x ∧ x ≤ s.size := by
   rcases hx with ⟨q1, q2, q3⟩ | q
   ·have hz1 : (⟨#[10]⟩ : ByteArray).size = 1 := rfl
    rw [hz1] at q2 q3
    rw [ByteArray.toList_eq ⟨#[10]⟩] at q3
    refine ⟨?_, by omega⟩
    by_cases hxi : x = i
    ·subst hxi
     have := ext1 s x h0 h1 _ q3
     rw [hx0 ‹_›] at this
     exact absurd this (by decide)
    ·omega
   ·omega
  exact retTD ⟨rfl, by dsimp only; omega, by dsimp only; omega, by unfold kOK; dsimp only; omega⟩
 all_goals exact Next_j2 s hs i h0 a b c d e g k u v w h1 _ _
theorem Next_j0 (h1 : i < s.size) (z : Bool) (hz : z = true → i = 0 ∧ 3 ≤ s.size) : Ev (sNext.j0 W LM s i (bt s i) z a b c d e g k i (i + 1) u v w ()) (Qs TD (TokQ s i)) := by
 unfold sNext.j0
 (try simp (disch := omega) only [wi])
 repeat' (first | exact Ev.no (by omega) | with_reducible (first | (first | apply Ev.and3 | apply Ev.and | apply Ev.dec | apply Ev.nb | apply Ev.bl | apply Ev.pr) <;> intro _ | apply retI | apply retB | apply retS | apply retTD | apply rII | apply rSB | apply rIB | apply rISB | apply rISI | apply rSII | apply rIII))
 ·have := hz ‹_›
  exact ⟨rfl, by dsimp only; omega, by dsimp only; omega, by unfold kOK; dsimp only; omega⟩
 refine Ev.cx (blank_sp _) (fun _ => rfl) fun x _ => ?_
 repeat' (first | exact Ev.no (by omega) | with_reducible (first | (first | apply Ev.and3 | apply Ev.and | apply Ev.dec | apply Ev.nb | apply Ev.bl | apply Ev.pr) <;> intro _ | apply retI | apply retB | apply retS | apply retTD | apply rII | apply rSB | apply rIB | apply rISB | apply rISI | apply rSII | apply rIII))
 ·exact Next_l1 s hs i h0 a b c d e g 1 u v w (by unfold kOK; omega) _ _ (by omega) (by omega) (by unfold LM; omega)
 ·exact ⟨rfl, by dsimp only; omega, by dsimp only; omega, by unfold kOK; dsimp only; omega⟩
 ·exact Next_j1 s hs i h0 a b c d e g k u v w h1 _ _ fun _ => by assumption
 ·exact Next_j1 s hs i h0 a b c d e g k u v w h1 _ _ fun h => by cases h
 ·exact Next_j1 s hs i h0 a b c d e g k u v w h1 _ _ fun h => by cases h
theorem Next_sp (h1 : i < s.size) : Sp sNext.n [.str s, .int i] TD (TokQ s i) := by
 refine Sp.of sNext.fd ?_
 rw [sNext_eq]
 (try simp (disch := omega) only [wi])
 repeat' (first | exact Ev.no (by omega) | with_reducible (first | (first | apply Ev.and3 | apply Ev.and | apply Ev.dec | apply Ev.nb | apply Ev.bl | apply Ev.pr) <;> intro _ | apply retI | apply retB | apply retS | apply retTD | apply rII | apply rSB | apply rIB | apply rISB | apply rISI | apply rSII | apply rIII))
 ·exact Next_j0 s hs i h0 _ _ _ _ _ _ _ _ _ _ h1 _ fun _ => by omega
 ·exact Next_j0 s hs i h0 _ _ _ _ _ _ _ _ _ _ h1 _ fun h => by cases h
 ·exact Next_j0 s hs i h0 _ _ _ _ _ _ _ _ _ _ h1 _ fun h => by cases h
end
end Go.AI.Sn
end
section
set_option maxRecDepth 100000
namespace Go.AI.Sn
open Rd
def Chn : Int → List Tok → Int → Prop
 | a, [], b => a = b
 | a, t :: r, b => t.f = a ∧ a < t.t ∧ kOK t.k ∧ Chn t.t r b
def tOK (a : Int) (t : Tok) : Prop := t.f = a ∧ (kOK t.k ∧ a < t.t ∨ t.k = 16 ∧ t.t = a)
def Ch2 : Int → List Tok → Int → Prop
 | a, [], b => a = b
 | a, t :: r, b => tOK a t ∧ Ch2 t.t r b
theorem Chn_snoc {t : Tok} : ∀ {l : List Tok} {a b : Int}, Chn a l b → t.f = b → b < t.t → kOK t.k → Chn a (l ++ [t]) t.t
 | [], a, b, h, h1, h2, h3 => by
  cases h; exact ⟨h1, h2, h3, rfl⟩
 | u :: r, a, b, h, h1, h2, h3 => ⟨h.1, h.2.1, h.2.2.1, Chn_snoc h.2.2.2 h1 h2 h3⟩
theorem Chn_len : ∀ {l : List Tok} {a b : Int}, Chn a l b → (l.length : Int) ≤ b - a
 | [], a, b, h => by cases h; simp
 | u :: r, a, b, h => by
  have := Chn_len h.2.2.2
  have := h.2.1
  simp only [List.length_cons]
  omega
theorem Chn_le : ∀ {l : List Tok} {a b : Int}, Chn a l b → a ≤ b
 | [], a, b, h => by cases h; exact Int.le_refl _
 | u :: r, a, b, h => by
  have := Chn_le h.2.2.2
  have := h.2.1
  omega
theorem Chn_mem : ∀ {l : List Tok} {a b : Int}, Chn a l b → ∀ t, t ∈ l → a ≤ t.f ∧ t.f < t.t ∧ t.t ≤ b
 | [], a, b, h, t, ht => by cases ht
 | u :: r, a, b, h, t, ht => by
  have h1 := Chn_le h.2.2.2
  rcases List.mem_cons.1 ht with rfl | ht
  ·exact ⟨by rw [h.1]; exact Int.le_refl _, by rw [h.1]; exact h.2.1, h1⟩
  ·have := Chn_mem h.2.2.2 t ht
   have := h.2.1
   omega
theorem Ch2_snoc {t : Tok} : ∀ {l : List Tok} {a b : Int}, Ch2 a l b → tOK b t → Ch2 a (l ++ [t]) t.t
 | [], a, b, h, h1 => by
  cases h; exact ⟨h1, rfl⟩
 | u :: r, a, b, h, h1 => ⟨h.1, Ch2_snoc h.2 h1⟩
theorem drop_getD {l : List Tok} {i : Nat} (h : i < l.length) : l.drop i = l.getD i ⟨0, 0, 0⟩ :: l.drop (i + 1) := by
 rw [List.drop_eq_getElem_cons h, List.getD_eq_getElem?_getD, List.getElem?_eq_getElem h]; rfl
theorem ends_l0 (s : ByteArray) (hs : s.size < 1073741824) (l : List Tok) (hl : l.length < 1073741824) (H : ∀ t, t ∈ l → 0 ≤ t.f ∧ t.f < t.t ∧ t.t ≤ s.size) : ∀ (n0 : Nat) (i : Int), 0 ≤ i → (l.length : Int) + 1 - i < n0 → i ≤ l.length →
  Ev (sends.l0 W LM n0 s l i ()) (Qs .b fun (_ : Bool) => True)
 | 0, i, h1, h2, h3 => by omega
 | n0 + 1, i, h1, h2, h3 => by
  rw [sends.l0_succ]
  (try simp (disch := omega) only [wi])
  have ht : i < l.length → 0 ≤ (List.getD l (Int.toNat i) (⟨0, 0, 0⟩ : Tok)).f ∧ (List.getD l (Int.toNat i) (⟨0, 0, 0⟩ : Tok)).f < (List.getD l (Int.toNat i) (⟨0, 0, 0⟩ : Tok)).t ∧ (List.getD l (Int.toNat i) (⟨0, 0, 0⟩ : Tok)).t ≤ s.size := by
   intro hi
   rw [List.getD_eq_getElem?_getD, List.getElem?_eq_getElem (by omega)]
   exact H _ (List.getElem_mem _)
  generalize List.getD l (Int.toNat i) (⟨0, 0, 0⟩ : Tok) = t at ht
  have hz := szx s 0 t.t.toNat
  repeat' (first | exact Ev.no (by omega) | with_reducible (first | (first | apply Ev.and3 | apply Ev.and | apply Ev.dec | apply Ev.nb | apply Ev.bl | apply Ev.pr) <;> intro _ | apply retI | apply retB | apply retS | apply retTD | apply rII | apply rSB | apply rIB | apply rISB | apply rISI | apply rSII | apply rIII))
  ·trivial
  ·refine Ev.cx (find_sp _ (by omega) _ (by omega) (by omega) ⟨#[10]⟩ (by decide)) (fun _ => rfl) fun (x : Int) hx => ?_
   repeat' (first | exact Ev.no (by omega) | with_reducible (first | (first | apply Ev.and3 | apply Ev.and | apply Ev.dec | apply Ev.nb | apply Ev.bl | apply Ev.pr) <;> intro _ | apply retI | apply retB | apply retS | apply retTD | apply rII | apply rSB | apply rIB | apply rISB | apply rISI | apply rSII | apply rIII))
   ·trivial
   ·exact ends_l0 s hs l hl H n0 _ (by omega) (by omega) (by omega)
  ·trivial
  ·exact ends_l0 s hs l hl H n0 _ (by omega) (by omega) (by omega)
  ·trivial
theorem ends_sp (s : ByteArray) (hs : s.size < 1073741824) (l : List Tok) (hl : l.length < 1073741824) (H : ∀ t, t ∈ l → 0 ≤ t.f ∧ t.f < t.t ∧ t.t ≤ s.size) (i : Int) (h0 : 0 ≤ i) (h1 : i < l.length) : Sp sends.n [.str s, .sl .tok l, .int i] .b (fun (_ : Bool) => True) := by
 refine Sp.of sends.fd ?_
 rw [sends_eq]
 (try simp (disch := omega) only [wi])
 exact ends_l0 s hs l hl H _ _ (by omega) (by unfold LM; omega) (by omega)
theorem retLL {e e' : El} {P : List e.T × List e'.T → Prop} {x : List e.T} {y : List e'.T} (h : P (x, y)) : Ev (some (.tup [.sl e x, .sl e' y], ())) (Qs (.t2 (.s e) (.s e')) P) := ⟨_, rfl, (x, y), rfl, h⟩
theorem Bare_l0 (s : ByteArray) (hs : s.size < 1073741824) : ∀ (n0 : Nat) (l : List Tok) (m : List Diag) (i : Int), 0 ≤ i → i ≤ s.size → (s.size : Int) - i < n0 → Chn 0 l i → m.length ≤ l.length →
  Ev (Bare.l0 W LM n0 s l m i ()) (Qs (.t2 (.s .tok) (.s .diag)) fun (x : List Tok × List Diag) => Chn 0 x.1 s.size)
 | 0, l, m, i, h1, h2, h3, h4, h5 => by omega
 | n0 + 1, l, m, i, h1, h2, h3, h4, h5 => by
  have hm : maxRow = 4294967296 := rfl
  have hl := Chn_len h4
  rw [Bare.l0_succ]
  simp only [List.length_singleton]
  repeat' (first | exact Ev.no (by omega) | with_reducible (first | (first | apply Ev.and3 | apply Ev.and | apply Ev.dec | apply Ev.nb | apply Ev.bl | apply Ev.pr) <;> intro _ | apply retI | apply retB | apply retS | apply retTD | apply rII | apply rSB | apply rIB | apply rISB | apply rISI | apply rSII | apply rIII))
  ·refine Ev.cx (Next_sp s hs i h1 ‹_›) (fun _ => rfl) fun x hx => ?_
   obtain ⟨q1, q2, q3, q4⟩ := hx
   have hc := Chn_snoc h4 q1 q2 q4
   repeat' (first | exact Ev.no (by omega) | with_reducible (first | (first | apply Ev.and3 | apply Ev.and | apply Ev.dec | apply Ev.nb | apply Ev.bl | apply Ev.pr) <;> intro _ | apply retI | apply retB | apply retS | apply retTD | apply rII | apply rSB | apply rIB | apply rISB | apply rISI | apply rSII | apply rIII))
   ·exact Bare_l0 s hs n0 _ _ _ (by omega) (by omega) (by omega) hc (by simp; omega)
   ·exact Bare_l0 s hs n0 _ _ _ (by omega) (by omega) (by omega) hc (by simp; omega)
  ·refine retLL ?_
   have e : i = s.size := by omega
   rw [← e]; exact h4
theorem Bare_sp (s : ByteArray) (hs : s.size < 1073741824) : Sp Bare.n [.str s] (.t2 (.s .tok) (.s .diag)) (fun (x : List Tok × List Diag) => Chn 0 x.1 s.size) := by
 refine Sp.of Bare.fd ?_
 rw [Bare_eq]
 exact Bare_l0 s hs _ [] [] 0 (by omega) (by omega) (by unfold LM; omega) rfl (by simp)
theorem Scan_l0 (s : ByteArray) (hs : s.size < 1073741824) (l : List Tok) (m : List Diag) (hl : Chn 0 l s.size) : ∀ (d n0 i : Nat) (o : List Tok) (c : Int), i + d = l.length → d < n0 → Ch2 0 o c → Chn c (l.drop i) s.size → o.length ≤ 2 * i →
  Ev (Scan.l0 W LM n0 s l m o i ()) (Qs (.t2 (.s .tok) (.s .diag)) fun (x : List Tok × List Diag) => Ch2 0 x.1 s.size ∧ x.1.length ≤ 2 * l.length)
 | d, 0, i, o, c, h1, h2, h3, h4, h5 => by omega
 | 0, n0 + 1, i, o, c, h1, h2, h3, h4, h5 => by
  rw [Scan.l0_succ]
  simp only [List.length_singleton]
  repeat' (first | exact Ev.no (by omega) | with_reducible (first | (first | apply Ev.and3 | apply Ev.and | apply Ev.dec | apply Ev.nb | apply Ev.bl | apply Ev.pr) <;> intro _ | apply retI | apply retB | apply retS | apply retTD | apply rII | apply rSB | apply rIB | apply rISB | apply rISI | apply rSII | apply rIII))
  refine retLL ⟨?_, by dsimp only; omega⟩
  rw [List.drop_of_length_le (by omega)] at h4
  have h4 : c = s.size := h4
  rw [← h4]; exact h3
 | d + 1, n0 + 1, i, o, c, h1, h2, h3, h4, h5 => by
  have hm : maxRow = 4294967296 := rfl
  have hlen := Chn_len hl
  have e1 : (IntKind.i64.wrap ((i : Int) + 1)) = ((i + 1 : Nat) : Int) := by rw [wi _ (by omega) (by omega)]; omega
  rw [Scan.l0_succ, e1]
  simp only [List.length_singleton, List.length_append, Int.toNat_natCast]
  rw [drop_getD (by omega)] at h4
  generalize List.getD l i (⟨0, 0, 0⟩ : Tok) = t at h4
  obtain ⟨q1, q2, q3, q4⟩ := h4
  have k1 : Ch2 0 (o ++ [t]) t.t := Ch2_snoc h3 ⟨q1, .inl ⟨q3, q2⟩⟩
  have k2 : Ch2 0 ((o ++ [t]) ++ [⟨16, t.t, t.t⟩]) t.t := Ch2_snoc (t := ⟨16, t.t, t.t⟩) k1 ⟨rfl, .inr ⟨rfl, rfl⟩⟩
  repeat' (first | exact Ev.no (by omega) | with_reducible (first | (first | apply Ev.and3 | apply Ev.and | apply Ev.dec | apply Ev.nb | apply Ev.bl | apply Ev.pr) <;> intro _ | apply retI | apply retB | apply retS | apply retTD | apply rII | apply rSB | apply rIB | apply rISB | apply rISI | apply rSII | apply rIII))
  refine Ev.cx (sEnds_sp _) (fun _ => rfl) fun x _ => ?_
  repeat' (first | exact Ev.no (by omega) | with_reducible (first | (first | apply Ev.and3 | apply Ev.and | apply Ev.dec | apply Ev.nb | apply Ev.bl | apply Ev.pr) <;> intro _ | apply retI | apply retB | apply retS | apply retTD | apply rII | apply rSB | apply rIB | apply rISB | apply rISI | apply rSII | apply rIII))
  ·refine Ev.cx (ends_sp s hs l (by omega) (Chn_mem hl) _ (by omega) (by omega)) (fun _ => rfl) fun x _ => ?_
   repeat' (first | exact Ev.no (by omega) | with_reducible (first | (first | apply Ev.and3 | apply Ev.and | apply Ev.dec | apply Ev.nb | apply Ev.bl | apply Ev.pr) <;> intro _ | apply retI | apply retB | apply retS | apply retTD | apply rII | apply rSB | apply rIB | apply rISB | apply rISI | apply rSII | apply rIII))
   ·exact Scan_l0 s hs l m hl d n0 (i + 1) _ t.t (by omega) (by omega) k2 q4 (by simp; omega)
   ·exact Scan_l0 s hs l m hl d n0 (i + 1) _ t.t (by omega) (by omega) k1 q4 (by simp; omega)
  ·exact Scan_l0 s hs l m hl d n0 (i + 1) _ t.t (by omega) (by omega) k1 q4 (by simp; omega)
theorem Scan_sp (s : ByteArray) (hs : s.size < 1073741824) : Sp Scan.n [.str s] (.t2 (.s .tok) (.s .diag)) (fun (x : List Tok × List Diag) => Ch2 0 x.1 s.size ∧ x.1.length ≤ 2 * s.size) := by
 refine Sp.of Scan.fd ?_
 rw [Scan_eq]
 refine Ev.cx (Bare_sp s hs) (fun _ => rfl) fun x hx => ?_
 have hl := Chn_len hx
 exact (Scan_l0 s hs x.1 x.2 hx x.1.length _ 0 [] 0 (by omega) (by unfold LM; omega) rfl hx (by simp)).mono fun y hy => ⟨hy.1, by have := hy.2; omega⟩
def ToksQ (l : List Tok) (z : Int) (r : List Tok) : Prop := Ch2 0 r z ∧ r.length ≤ l.length
theorem toks_l2 (l : List Tok) (hl : l.length < 2147483648) (z : Int) (n0 : Nat) (o : List Tok) (a : Nat) (ha : a < l.length) (t : Tok) (ht : l.getD a ⟨0, 0, 0⟩ = t) (ho : o.length ≤ a)
  (H1 : Ev (toks.l0 W LM n0 l (o ++ [t]) ((a + 1 : Nat) : Int) ()) (Qs (.s .tok) (ToksQ l z))) (H2 : t.k = 16 → Ev (toks.l0 W LM n0 l o ((a + 1 : Nat) : Int) ()) (Qs (.s .tok) (ToksQ l z))) :
  ∀ (n2 : Nat) (b : Bool) (i : Int), 0 ≤ i → i ≤ l.length → (l.length : Int) - i < n2 → (b = true → t.k = 16) → Ev (toks.l2 W LM n0 n2 l o a b i ()) (Qs (.s .tok) (ToksQ l z))
 | 0, b, i, h1, h2, h3, h4 => by omega
 | n2 + 1, b, i, h1, h2, h3, h4 => by
  have hm : maxRow = 4294967296 := rfl
  have e1 : (IntKind.i64.wrap ((a : Int) + 1)) = ((a + 1 : Nat) : Int) := by rw [wi _ (by omega) (by omega)]; omega
  have e2 : i < l.length → (IntKind.i64.wrap (i + 1)) = i + 1 := fun h => wi _ (by omega) (by omega)
  rw [toks.l2_succ, e1]
  simp only [List.length_singleton, Int.toNat_natCast]
  rw [ht]
  repeat' (first | exact Ev.no (by omega) | with_reducible (first | (first | apply Ev.and3 | apply Ev.and | apply Ev.dec | apply Ev.nb | apply Ev.bl | apply Ev.pr) <;> intro _ | apply retI | apply retB | apply retS | apply retTD | apply rII | apply rSB | apply rIB | apply rISB | apply rISI | apply rSII | apply rIII))
  ·rw [e2 ‹_›]
   exact toks_l2 l hl z n0 o a ha t ht ho H1 H2 n2 _ _ (by omega) (by omega) (by omega) fun _ => h4 ‹_›
  all_goals first
   | exact H1
   | exact H2 (h4 ‹_›)
   | (rename_i q; rw [‹b = false›] at q; cases q)
theorem toks_l0 (l : List Tok) (hl : l.length < 2147483648) (z : Int) : ∀ (d n0 i : Nat) (o : List Tok) (c : Int), i + d = l.length → d < n0 → Ch2 0 o c → Ch2 c (l.drop i) z → o.length ≤ i →
  Ev (toks.l0 W LM n0 l o i ()) (Qs (.s .tok) (ToksQ l z))
 | d, 0, i, o, c, h1, h2, h3, h4, h5 => by omega
 | 0, n0 + 1, i, o, c, h1, h2, h3, h4, h5 => by
  rw [toks.l0_succ]
  repeat' (first | exact Ev.no (by omega) | with_reducible (first | (first | apply Ev.and3 | apply Ev.and | apply Ev.dec | apply Ev.nb | apply Ev.bl | apply Ev.pr) <;> intro _ | apply retI | apply retB | apply retS | apply retTD | apply rII | apply rSB | apply rIB | apply rISB | apply rISI | apply rSII | apply rIII))
  refine retL ⟨?_, by omega⟩
  rw [List.drop_of_length_le (by omega)] at h4
  have h4 : c = z := h4
  rw [← h4]; exact h3
 | d + 1, n0 + 1, i, o, c, h1, h2, h3, h4, h5 => by
  have e1 : (IntKind.i64.wrap ((i : Int) + 1)) = ((i + 1 : Nat) : Int) := by rw [wi _ (by omega) (by omega)]; omega
  rw [toks.l0_succ, e1]
  simp only [Int.toNat_natCast]
  rw [drop_getD (by omega)] at h4
  obtain ⟨t, ht⟩ : ∃ t, List.getD l i (⟨0, 0, 0⟩ : Tok) = t := ⟨_, rfl⟩
  rw [ht] at h4
  simp only [ht]
  obtain ⟨q1, q2⟩ := h4
  have k1 : Ch2 0 (o ++ [t]) t.t := Ch2_snoc h3 q1
  repeat' (first | exact Ev.no (by omega) | with_reducible (first | (first | apply Ev.and3 | apply Ev.and | apply Ev.dec | apply Ev.nb | apply Ev.bl | apply Ev.pr) <;> intro _ | apply retI | apply retB | apply retS | apply retTD | apply rII | apply rSB | apply rIB | apply rISB | apply rISI | apply rSII | apply rIII))
  refine toks_l2 l hl z n0 o i (by omega) t ht h5 (toks_l0 l hl z d n0 (i + 1) _ t.t (by omega) (by omega) k1 q2 (by simp; omega)) (fun hk => ?_) _ _ _ (by omega) (by omega) (by unfold LM; omega) (fun h => of_decide_eq_true h)
  have hc : t.t = c := by
   rcases q1.2 with ⟨hk2, _⟩ | ⟨_, h⟩
   ·unfold kOK at hk2; omega
   ·exact h
  rw [hc] at q2
  exact toks_l0 l hl z d n0 (i + 1) o c (by omega) (by omega) h3 q2 (by omega)
theorem toks_sp (s : ByteArray) (hs : s.size < 1073741824) : Sp toks.n [.str s] (.s .tok) (fun (r : List Tok) => Ch2 0 r s.size ∧ r.length ≤ 2 * s.size) := by
 refine Sp.of toks.fd ?_
 rw [toks_eq]
 refine Ev.cx (Scan_sp s hs) (fun _ => rfl) fun x hx => ?_
 exact (toks_l0 x.1 (by omega) s.size x.1.length _ 0 [] 0 (by omega) (by unfold LM; omega) rfl hx.1 (by simp)).mono fun y hy => ⟨hy.1, by have := hy.2; omega⟩
end Go.AI.Sn
end
section
set_option maxRecDepth 100000
namespace Go.AI
open Go.Proofs.Try
section
open Go.Proofs.Try
variable (call : Call) (lim : Nat)
noncomputable def LossT.I : FnI := { fn := f3, masks := [(3, { t := [5, 10, 14, 15], own := [(14, 127, .tok)] }), (5, { t := [5, 14, 16], own := [(14, 127, .tok)] })] }
noncomputable def LossT.l3 (n3 : Nat) (l1 l2 l3 : List Tok) (a4 : Int) (p : Unit) : OU := lpN T0 call .unit (FnI.mask LossT.I) lim (Func.code f3).r1.r1.r1.r1.r1.r1.r1.r1.r1.r1.r1.l1.r1.l1.l1 3 n3 (Kblk 3 (Kseq T0 call .unit (FnI.mask LossT.I) lim (Func.code f3).r1.r1.r1.r1.r1.r1.r1.r1.r1.r1.r1.r1 0 (fin T0 .unit LossT.I))) ⟨[(5, .sl .tok l1), (10, .own 10 0 .tok l2), (14, .own 127 0 .tok l3), (15, .int a4)], [], STy.enc .unit 0 p, [], 0, []⟩
noncomputable def LossT.l5 (n5 : Nat) (l5 l6 : List Tok) (a7 : Int) (p : Unit) : OU := lpN T0 call .unit (FnI.mask LossT.I) lim (Func.code f3).r1.r1.r1.r1.r1.r1.r1.r1.r1.r1.r1.r1.r1.l1.r1.l1.l1 5 n5 (Kblk 5 (Kseq T0 call .unit (FnI.mask LossT.I) lim (Func.code f3).r1.r1.r1.r1.r1.r1.r1.r1.r1.r1.r1.r1.r1.r1 0 (fin T0 .unit LossT.I))) ⟨[(5, .sl .tok l5), (14, .own 127 0 .tok l6), (16, .int a7)], [], STy.enc .unit 0 p, [], 0, []⟩
theorem LossT.l5_succ (n5 : Nat) (l5 l6 : List Tok) (a7 : Int) (p : Unit) : LossT.l5 call lim (n5 + 1) l5 l6 a7 p =
if (decide (a7 < ((l5).length : Int))) then
if 0 ≤ a7 then
if a7 < ((l6).length : Int) then
if 0 ≤ a7 then
if a7 < ((l5).length : Int) then
if (!(decide ((⟨(List.getD l6 (Int.toNat a7) (⟨0, 0, 0⟩ : Tok)).k, (List.getD l6 (Int.toNat a7) (⟨0, 0, 0⟩ : Tok)).f, (List.getD l6 (Int.toNat a7) (⟨0, 0, 0⟩ : Tok)).t⟩ : Tok) = ⟨(List.getD l5 (Int.toNat a7) (⟨0, 0, 0⟩ : Tok)).k, (List.getD l5 (Int.toNat a7) (⟨0, 0, 0⟩ : Tok)).f, (List.getD l5 (Int.toNat a7) (⟨0, 0, 0⟩ : Tok)).t⟩))) then
some (.bool false, ())
else
LossT.l5 call lim n5 l5 l6 (IntKind.i64.wrap (a7 + 1)) ()
else none
else none
else none
else none
else
some (.bool true, ()) := by kernel_rfl
theorem LossT.l3_succ (n3 : Nat) (l1 l2 l3 : List Tok) (a4 : Int) (p : Unit) : LossT.l3 call lim (n3 + 1) l1 l2 l3 a4 p =
if (decide (a4 < ((l2).length : Int))) then
if 0 ≤ a4 then
if a4 < ((l2).length : Int) then
if (decide (((List.getD l2 (Int.toNat a4) (⟨0, 0, 0⟩ : Tok)).k) ≠ 200)) then
if 0 ≤ a4 then
if a4 < ((l2).length : Int) then
if (l3).length + ([(⟨(List.getD l2 (Int.toNat a4) (⟨0, 0, 0⟩ : Tok)).k, (List.getD l2 (Int.toNat a4) (⟨0, 0, 0⟩ : Tok)).f, (List.getD l2 (Int.toNat a4) (⟨0, 0, 0⟩ : Tok)).t⟩ : Tok)]).length < maxRow then
LossT.l3 call lim n3 l1 l2 (l3 ++ [(⟨(List.getD l2 (Int.toNat a4) (⟨0, 0, 0⟩ : Tok)).k, (List.getD l2 (Int.toNat a4) (⟨0, 0, 0⟩ : Tok)).f, (List.getD l2 (Int.toNat a4) (⟨0, 0, 0⟩ : Tok)).t⟩ : Tok)]) (IntKind.i64.wrap (a4 + 1)) ()
else none
else none
else none
else
LossT.l3 call lim n3 l1 l2 l3 (IntKind.i64.wrap (a4 + 1)) ()
else none
else none
else
if (decide (((l3).length : Int) ≠ ((l1).length : Int))) then
some (.bool false, ())
else
LossT.l5 call lim lim l1 l3 0 () := by kernel_rfl
theorem LossT_eq (l m : List Tok) (p : Unit) : exec T0 call .unit (FnI.mask LossT.I) lim (Func.code f3).r1.r1.r1.r1.r1.r1.r1.r1.r1.r1 0 ⟨[(5, .sl .tok l), (10, .own 10 0 .tok m)], [], STy.enc .unit 0 p, [], 0, []⟩ (fin T0 .unit LossT.I) =
LossT.l3 call lim lim l m [] 0 () := by kernel_rfl
noncomputable def LossD.I : FnI := { fn := f3, masks := [] }
theorem LossD_eq (s : ByteArray) (r : List Node) (d : Diag) (p : Unit) : exec T0 call .unit (FnI.mask LossD.I) lim (Func.code f3).r1.r1.r1.r1.r1.r1.r1.l1.r1.l1 0 ⟨[(0, .str s), (7, .sl .node r), (8, .lbox 8 0)], [(8, [.int d.c, .int d.f, .int d.t])], STy.enc .unit 0 p, [], 0, []⟩ (fin T0 .unit LossD.I) =
if (decide (((r).length : Int) = 0)) then
if (decide (d.c = 201)) then
if (decide (d.f ≥ 0)) then
if (decide (d.f ≤ d.t)) then
some (.bool (decide (d.t ≤ ((s).size : Int))), ())
else
some (.bool false, ())
else
some (.bool false, ())
else
if (decide (d.c = 202)) then
if (decide (d.f ≥ 0)) then
if (decide (d.f ≤ d.t)) then
some (.bool (decide (d.t ≤ ((s).size : Int))), ())
else
some (.bool false, ())
else
some (.bool false, ())
else
some (.bool false, ())
else
some (.bool false, ()) := by kernel_rfl
end
theorem LossT.ok : FnOK prog 3 LossT.I := ⟨func3, by kernel_rfl, ⟨_, rfl⟩, by kernel_rfl⟩
theorem LossD.ok : FnOK prog 3 LossD.I := ⟨func3, by kernel_rfl, ⟨_, rfl⟩, by kernel_rfl⟩
end Go.AI
end
section
set_option maxRecDepth 100000
namespace Go.AI.Rd
theorem prog_reads {l : List Tok} (hl : l.length ≤ 500000000) {pr : Proc} (hf : fnP pr = true) (hp : Pre' pr (a0 l) []) (hs : slack pr ≤ 1000) : ∃ n r b, callN n pr (a0 l) [] = some (r, b) ∧ b.good ∧ SM b.row ∧ b.row.length + 8 * b.rest.length ≤ 4294967000 ∧
  W .prog (argsOf pr).1 (argsOf pr).2 (toP (a0 l)) = some (resE pr (a0 l) r b, toP b) := by
 have hg := a0_good hl
 obtain ⟨n, r, b, h1, h2, _⟩ := ends (B := 4294967000) (Nat.le_refl _) pr (a := a0 l) (ms := []) ⟨rfl, by simp [a0], by simp [a0], by simp only [a0, List.length_nil]; omega, hp⟩
 have hb := callN_good n _ _ _ _ _ hg h1
 exact ⟨n, r, b, h1, hb.1, callN_small n _ _ _ _ _ (fun x hx => by cases hx) h1, h2, (refs n).1 pr (a0 l) hf hg r b h1⟩
theorem outA_inv {l : List Tok} {Z : Int} (hT : TokOK l Z) (hZ : 0 ≤ Z) {n : Nat} {pr : Proc} {r : Int} {b : A} (hw : WF pr) (ha : ar pr = 0) (h : callN n pr (a0 l) [] = some (r, b)) :
  ((outA b).ok = true → lvL (outA b).row = l ∧ neatL (outA b).row) ∧ ((outA b).ok = false → ((outA b).d.c = 201 ∨ (outA b).d.c = 202) ∧ 0 ≤ (outA b).d.f ∧ (outA b).d.f ≤ (outA b).d.t ∧ (outA b).d.t ≤ Z) := by
 obtain ⟨_, hd, _, hx⟩ := callN_inv hT hZ n pr (a0 l) [] r b hw h (by rw [ha]; rfl) 0 [] (fun _ => ⟨⟨⟨rfl, rfl, fun x hx => (by cases hx), fun x hx => (by simp [a0] at hx)⟩, Nat.zero_le _, rfl⟩, fun i hi => (by rw [ha] at hi; omega), fun i j _ hj => (by rw [ha] at hj; omega)⟩) (fun d hd => (by cases hd))
 have hfd : dgOK Z (finA b) ∧ ((finA b).dg = none → b.dg = none ∧ finA b = b) := by
  unfold finA
  split
  ·cases hb : b.dg with
   | some d =>
    have : b.fail 201 = b := by unfold A.fail; rw [hb]
    rw [this]
    exact ⟨hd, fun h => by rw [hb] at h; cases h⟩
   | none =>
    have hinv := (hx (dead_of_none hb)).inv
    refine ⟨fail_dgOK hT hZ hinv.tot hd (.inl rfl), fun h => ?_⟩
    have := fail_is_dead (a := b) 201
    rw [dead_of_none h] at this
    cases this
  ·exact ⟨hd, fun h => ⟨h, rfl⟩⟩
 obtain ⟨h1, h2⟩ := hfd
 unfold outA
 cases hdg : (finA b).dg with
 | some d => exact ⟨fun h => (by cases h), fun _ => h1 d hdg⟩
 | none =>
  obtain ⟨h3, h4⟩ := h2 hdg
  have hinv := (hx (dead_of_none h3)).inv
  have hk : ∀ t ∈ b.rest, t.k < 200 := fun t ht => (hT t (by rw [← hinv.tot]; exact List.mem_append.2 (.inr ht))).1
  refine ⟨fun _ => ?_, fun h => by cases h⟩
  simp only
  rw [h4, lvL_append, neatL_append]
  refine ⟨?_, neatL_of _ hinv.nt, ?_⟩
  ·have e1 := hinv.lv
   have e2 := lvs_leaf b.rest hk
   unfold lvs at e1 e2
   rw [List.map_map] at e2
   rw [e1]
   refine Eq.trans (congrArg (b.pre ++ ·) (show lvL (b.rest.map fun t => (leaf t).n) = b.rest from e2)) hinv.tot
  ·have := neatL_of (b.rest.map leaf) (fun x hx => by
    obtain ⟨t, ht, rfl⟩ := List.mem_map.1 hx
    exact NT_leaf (hk t ht))
   rw [List.map_map] at this
   exact this
theorem neat_ht {n : Node} (h : neatN n) : 0 ≤ htN n ∧ htN n ≤ 100 := by
 cases n with
 | mk k f t kids =>
  unfold neatN at h
  unfold htN
  split
  ·omega
  ·rcases h with h | ⟨_, _, h⟩
   ·omega
   ·have key : ∀ (l : List Node) (x : Int), x ≤ htL l x := by
     intro l
     induction l with
     | nil => intro x; exact Int.le_refl _
     | cons y r ih => intro x; unfold htL; have := ih (max x (htN y + 1)); omega
    have := key kids 1
    omega
theorem neatL_mem : ∀ {l : List Node}, neatL l → ∀ x ∈ l, neatN x
 | [], _, x, h => by cases h
 | y :: r, h, x, hx => by
  unfold neatL at h
  rcases List.mem_cons.1 hx with rfl | hx
  ·exact h.1
  ·exact neatL_mem h.2 x hx
theorem neat_l0 (lim : Nat) (x1 x2 x3 : Int) (kids : List Node) (hl : kids.length < 1099511627776) (hn : neatL kids) (he : endsOK kids) (hh : htL kids 1 ≤ 100) (ih : ∀ x ∈ kids, W .unit neat.n [ndAV x] () = some (.tup [.int (htN x), .bool true], ())) : ∀ (d i n0 : Nat) (a1 : Int), i + d = kids.length → d < n0 → htL (kids.drop i) a1 = htL kids 1 →
  neat.l0 W lim n0 a1 i x1 x2 x3 kids () = some (.tup [.int (htL kids 1), .bool true], ())
 | _, i, 0, a1, hi, hn0, ha => by omega
 | 0, i, n0 + 1, a1, hi, hn0, ha => by
  rw [List.drop_of_length_le (by omega)] at ha
  have ha : a1 = htL kids 1 := ha
  subst ha
  rw [neat.l0_succ, if_neg (by simp; omega)]
  have hd : decide (htL kids 1 ≤ 100) = true := decide_eq_true hh
  by_cases h0 : kids = []
  ·subst h0; rw [if_neg (by simp), hd]
  have hp : 0 < kids.length := List.length_pos_iff.2 h0
  have w1 : IntKind.i64.wrap ((kids.length : Int) - 1) = ((kids.length - 1 : Nat) : Int) := by rw [wi _ (by omega) (by omega)]; omega
  have k0 : 10 ≤ Node.k (kids.getD (Int.toNat 0) (El.dflt .node)) := he.1 _ (by
   rw [List.head?_eq_getElem?]
   show kids[0]? = some (kids.getD 0 _)
   rw [List.getD_eq_getElem?_getD, List.getElem?_eq_getElem hp]; rfl)
  have k1 : 10 ≤ Node.k (kids.getD (Int.toNat ((kids.length - 1 : Nat) : Int)) (El.dflt .node)) := he.2 _ (by
   rw [List.getLast?_eq_getElem?, Int.toNat_natCast, List.getD_eq_getElem?_getD, List.getElem?_eq_getElem (by omega)]; rfl)
  rw [if_pos (by simp; omega), if_pos (by omega), if_pos (by omega), if_neg (by rw [decide_eq_true_eq]; omega), w1, if_pos (by omega), if_pos (by omega), if_neg (by rw [decide_eq_true_eq]; omega), hd]
 | d + 1, i, n0 + 1, a1, hi, hn0, ha => by
  have hm : List.getD kids (Int.toNat (i : Int)) (El.dflt .node) ∈ kids := by
   rw [Int.toNat_natCast, List.getD_eq_getElem?_getD, List.getElem?_eq_getElem (by omega)]
   exact List.getElem_mem _
  have hx : kids.drop i = kids.getD i (El.dflt .node) :: kids.drop (i + 1) := by
   rw [List.drop_eq_getElem_cons (by omega), List.getD_eq_getElem?_getD, List.getElem?_eq_getElem (by omega)]; rfl
  have h1 := ih _ hm
  have h2 := neat_ht (neatL_mem hn _ hm)
  unfold ndAV at h1
  rw [neat.l0_succ, if_pos (by simp; omega), if_pos (by omega), if_pos (by omega), cX_c (h := .t2 .i .b) (x := (htN (List.getD kids (Int.toNat (i : Int)) (El.dflt .node)), true)) h1 rfl]
  simp only [Bool.not_true, Bool.false_eq_true, if_false]
  rw [wi (htN _ + 1) (by omega) (by omega), wi ((i : Int) + 1) (by omega) (by omega), show (i : Int) + 1 = ((i + 1 : Nat) : Int) by omega]
  refine neat_l0 lim x1 x2 x3 kids hl hn he hh ih d (i + 1) n0 _ (by omega) (by omega) ?_
  rw [hx] at ha
  rw [Int.toNat_natCast]
  exact (show htL (kids.getD i (El.dflt .node) :: kids.drop (i + 1)) a1 = htL (kids.drop (i + 1)) (max a1 (htN (kids.getD i (El.dflt .node)) + 1)) by simp only [htL]).symm.trans ha
theorem neat_ok {n : Node} (hs : Small n) : neatN n → W .unit neat.n [ndAV n] () = some (.tup [.int (htN n), .bool true], ()) := by
 induction hs with
 | mk k f t kids h1 h2 ih =>
 intro hn
 unfold neatN at hn
 refine fx neat.fd 1099511627776 ?_
 unfold ndAV htN
 rw [neat_eq]
 show (if decide (k ≤ 200) = true then _ else neat.l0 W _ _ 1 0 k f t kids ()) = _
 by_cases hk : k ≤ 200
 ·rw [if_pos (decide_eq_true hk), if_pos hk]
 rw [if_neg (by simpa using hk), if_neg hk]
 rcases hn with hn | ⟨hn, he, hh⟩
 ·exact absurd hn hk
 exact neat_l0 _ k f t kids h1 hn he hh (fun x hx => ih x hx (neatL_mem hn x hx)) kids.length 0 _ 1 (by omega) (by omega) rfl
theorem lossT_l5 (c : Call) (lim : Nat) (l : List Tok) (hl : l.length < 1099511627776) : ∀ (d i n : Nat), i + d = l.length → d < n → LossT.l5 c lim n l l i () = some (.bool true, ())
 | _, i, 0, hi, hn => by omega
 | 0, i, n + 1, hi, hn => by rw [LossT.l5_succ, if_neg (by simp; omega)]
 | d + 1, i, n + 1, hi, hn => by
  rw [LossT.l5_succ, if_pos (by simp; omega), if_pos (by omega), if_pos (by omega), if_pos (by omega), if_pos (by omega), if_neg (by simp), wi _ (by omega) (by omega), show (i : Int) + 1 = ((i + 1 : Nat) : Int) by omega]
  exact lossT_l5 c lim l hl d (i + 1) n (by omega) (by omega)
theorem lossT_l3 (c : Call) (lim : Nat) (l : List Tok) (hl : l.length < 1073741824) (hlim : 1073741824 ≤ lim) (hk : ∀ t ∈ l, t.k < 200) : ∀ (d i n : Nat), i + d = l.length → d < n → LossT.l3 c lim n l l (l.take i) i () = some (.bool true, ())
 | _, i, 0, hi, hn => by omega
 | 0, i, n + 1, hi, hn => by
  rw [LossT.l3_succ, if_neg (by simp; omega), List.take_of_length_le (by omega), if_neg (by simp)]
  exact lossT_l5 c lim l (by omega) l.length 0 lim (by omega) (by omega)
 | d + 1, i, n + 1, hi, hn => by
  have hx : l.getD i (⟨0, 0, 0⟩ : Tok) = l[i]'(by omega) := by rw [List.getD_eq_getElem?_getD, List.getElem?_eq_getElem (by omega)]; rfl
  have hm : (l.getD i (⟨0, 0, 0⟩ : Tok)) ∈ l := by rw [hx]; exact List.getElem_mem _
  have hlt := hk _ hm
  have htl : (l.take i).length ≤ i := by rw [List.length_take]; omega
  rw [LossT.l3_succ, if_pos (by simp; omega), if_pos (by omega), if_pos (by omega), Int.toNat_natCast, if_pos (by simp only [decide_eq_true_eq]; omega), if_pos (by omega), if_pos (by omega), if_pos (by simp only [List.length_singleton]; unfold maxRow; omega), wi _ (by omega) (by omega), show (i : Int) + 1 = ((i + 1 : Nat) : Int) by omega]
  have := lossT_l3 c lim l hl hlim hk d (i + 1) n (by omega) (by omega)
  rw [← List.take_append_getElem (by omega : i < l.length)] at this
  rw [hx]
  exact this
theorem lossD_val {s : ByteArray} {d : Diag} (c : Call) (lim : Nat) (h1 : d.c = 201 ∨ d.c = 202) (h2 : 0 ≤ d.f) (h3 : d.f ≤ d.t) (h4 : d.t ≤ s.size) : exec T0 c .unit (FnI.mask LossD.I) lim (Func.code LossD.I.fn).r1.r1.r1.r1.r1.r1.r1.l1.r1.l1 0 ⟨[(0, .str s), (7, .sl .node []), (8, .lbox 8 0)], [(8, [.int d.c, .int d.f, .int d.t])], [], [], 0, []⟩ (fin T0 .unit LossD.I) = some (.bool true, ()) := by
 refine (LossD_eq c lim s [] d ()).trans ?_
 rw [if_pos (by decide)]
 rcases h1 with h1 | h1 <;> simp [h1, h2, h3, h4]
end Go.AI.Rd
end
section
set_option maxRecDepth 100000
namespace Go.AI.Rd
noncomputable def LsI : FnI := { fn := Go.Proofs.Try.f3, masks := [] }
theorem LsI.ok : FnOK PG 3 LsI := ⟨Go.Proofs.Try.func3, by kernel_rfl, ⟨_, rfl⟩, by kernel_rfl⟩
noncomputable abbrev LsC : Code := Func.code LsI.fn
section
variable {tid : El → Nat} {B : Base} {N : Nat} {c : Cx} {σ : St} {a : Act} {w w' : World}
theorem Rel_reset (h : Rel tid B N c σ a w) (hs : σ.s = []) {σ' : St} (hs' : σ'.s = []) (hv : σ'.v = []) (hc : σ'.c = 0) (hfr : σ'.fr = []) (hb : ∀ k, getB σ'.b k = [] ∨ (getB σ'.b k = getB σ.b k ∧ (getB σ.b k).all AV.fz1 = true))
  (ht : ∀ i, getT σ'.t i = .undef ∨ (getT σ'.t i = getT σ.t i ∧ (getT σ.t i).fz1 = true) ∨ (∃ k j, getT σ'.t i = .lbox k j ∧ getT σ.t i = .lbox k j ∧ getB σ'.b k ≠ []) ∨ (∃ k ver e l, getT σ'.t i = .own k 0 e l ∧ getT σ.t i = .own k ver e l ∧ ver = getV σ.v k ∧ k ∉ σ.fr) ∨ (∃ k e, getT σ'.t i = .own k 0 e [] ∧ getT σ.t i = .nil)) :
  ∃ c', Rel tid B N c' σ' a w := by
 have hbk : ∀ k, getB σ'.b k ≠ [] → getB σ.b k ≠ [] := fun k hk => by
  rcases hb k with e | ⟨e, _⟩
  ·exact absurd e hk
  ·rw [← e]; exact hk
 refine ⟨{ c with κ := fun k => if k ∈ σ.fr then none else c.κ k }, ?_⟩
 have hF : ∀ {x : AV} {v : Value}, x.fz1 = true → A1 tid c σ x v → A1 tid { c with κ := fun k => if k ∈ σ.fr then none else c.κ k } σ' x v := fun hx hA => A1.of_F tid (hA.to_F tid hx)
 refine { hw := h.hw, ds := h.ds, n := h.n, t := fun i => ?_, b := fun k hk => ?_, s := fun hne => absurd hs' hne, ver := fun k => by rw [hv]; exact Nat.zero_le _, fz := fun k b hk => (by rw [hfr] at hk; cases hk), own := fun k b _ hk => ?_, inj := fun k k' b _ _ h1 h2 => ?_, box := fun k hk => ?_, gg := fun hne => absurd hs' hne, old := h.old, grow := h.grow, stsz := h.stsz, keep := h.keep }
 ·have hi := h.t i
  rcases ht i with e | ⟨e, hz⟩ | ⟨k, j, e, e', hk⟩ | ⟨k, ver, el, l, e, e', hver, hk⟩ | ⟨k, el, e, e'⟩
  ·rw [e]; exact FRel.undef _
  ·rw [e]
   exact AR.of_F tid ((hi.to_A1 tid (fun l hl => by rw [hl] at hz; cases hz)).to_F tid hz)
  ·rw [e]; rw [e'] at hi
   exact ⟨hi.1, hk⟩
  ·rw [e]; rw [e'] at hi
   obtain ⟨h1, h2, h3⟩ := hi
   refine ⟨h1, Nat.zero_le _, fun _ => ?_⟩
   rcases h3 hver with h4 | ⟨b, vs, h4, h5, h6, h7⟩
   ·exact .inl h4
   ·exact .inr ⟨b, vs, (if_neg hk).trans h4, h5, h6, h7⟩
  ·rw [e]; rw [e'] at hi
   have hi' : FRel c.w c.S c.g .nil (a.tmps.getD i Go.undef) := hi
   generalize a.tmps.getD i Go.undef = v at hi' ⊢
   cases hi' with
   | nil ad => exact ⟨⟨_, _, _, rfl⟩, Nat.zero_le _, fun _ => .inl ⟨rfl, _, rfl⟩⟩
 ·rcases hb k with e | ⟨e, hz⟩
  ·exact absurd e hk
  ·obtain ⟨vs, T, h1, h2, h3⟩ := h.b k (hbk k hk)
   rw [e]
   refine ⟨vs, T, h1, h2, fun i hi => hF ?_ (h3 i hi)⟩
   exact one_of_all hz i hi
 ·simp only at hk
  split at hk
  ·cases hk
  ·rename_i hkf
   have ho := h.own k b hkf hk
   exact ⟨ho.1, ho.2.1, ho.2.2.1, fun hne => absurd hs' hne, fun j hj => ho.2.2.2.2 j (hbk j hj)⟩
 ·simp only at h1 h2
  split at h1
  ·cases h1
  split at h2
  ·cases h2
  rename_i q1 q2
  exact h.inj k k' b q1 q2 h1 h2
 ·have hx := h.box k (hbk k hk)
  exact ⟨hx.1, hx.2.1, fun hne => absurd hs' hne, fun j hj => hx.2.2.2 j (hbk j hj)⟩
theorem eqnilp_wp {P : Program} {o : Oper} {T T' i : Nat} (hop : o.op = .binOp .eql T (.tmp i) (.const (.pointer none)) T') (hu : P.underlying T = some (.pointer (P.pointee T))) {p : Option Addr} {a : Act} {w : World} (hv : a.eval (.tmp i) = .pointer p) {next : Act → World → Prop} {Q : Exit → Act → World → Prop}
  (hQ : next (a.put o.dst (.bool p.isNone)) w) : o.wp P a w next Q := by
 obtain ⟨dst, op, type, pos, after, guard⟩ := o
 simp only at hop hQ
 subst hop
 have hq := run_eql_pointer_nil (P := P) w T p hu
 have hg : (eqGuard .eql T (.tmp i) (.const (.pointer none)) (.pointer p) (.pointer none)).run P w = .ok () w := by unfold eqGuard; split <;> rfl
 have he : a.eval (.const (.pointer none)) = .pointer none := rfl
 unfold Oper.wp
 have : (execOp a.eval ⟨dst, .binOp .eql T (.tmp i) (.const (.pointer none)) T', type, pos, after, guard⟩).run P w = .ok (.value (.bool p.isNone)) w := by
  simp only [execOp, Sem.run_bind, hv, he, hg, hq, Result.andThen_ok, Sem.run_pure]
 rw [this]
 exact hQ
end
def ls0 (s : ByteArray) (which : Int) : St := ⟨[(0, .str s), (1, .int which)], [], [], [], 0, []⟩
def ls1 (s : ByteArray) (which : Int) (l : List Tok) : St := ⟨[(0, .str s), (1, .int which), (5, .sl .tok l)], [], [], [], 0, []⟩
def ls2 (s : ByteArray) (which : Int) (l : List Tok) (p : PS) : St := ⟨[(0, .str s), (1, .int which), (5, .sl .tok l), (6, .lbox 23 0)], [(23, STy.enc .prog 0 p)], [], [], 0, []⟩
def ls3 (s : ByteArray) (l : List Tok) (row : List Node) (d : Diag) (ok : Bool) : St := ⟨[(0, .str s), (5, .sl .tok l), (7, .sl .node row), (8, .lbox 8 0), (9, .bool ok)], [(8, [.int d.c, .int d.f, .int d.t])], [], [], 0, []⟩
def ls4 (l : List Tok) (row : List Node) (ys : List Tok) (ver : Nat) (i : Int) (v : List (Nat × Nat)) (c : Nat) : St := ⟨[(5, .sl .tok l), (7, .sl .node row), (10, .own 10 ver .tok ys), (11, .int i)], [], [], v, c, []⟩
def ls5 (l : List Tok) (row : List Node) (ys : List Tok) (ver : Nat) (i : Int) (ok : Bool) (v : List (Nat × Nat)) (c : Nat) : St := ⟨[(5, .sl .tok l), (7, .sl .node row), (10, .own 10 ver .tok ys), (11, .int i), (13, .bool ok)], [], [], v, c, []⟩
section
variable (call : Call) (s : ByteArray) (which : Int) (l : List Tok)
theorem ls_3 : exec T0 call .unit (FnI.mask LsI) 0 LsC.r1.r1.l1 0 (ls0 s which) (fun ex σ => some (ex, [getT σ.t 0, getT σ.t 1, getT σ.t 5], σ.b, σ.s, σ.v, σ.c, σ.fr)) =
  cX call (.s .tok) .unit toks.n [.str s] () fun (x : List Tok) _ => some (.normal, [.str s, .int which, .sl .tok x], [], [], [], 0, []) := by kernel_rfl
theorem ls_4 : exec T0 call .unit (FnI.mask LsI) 0 LsC.r1.r1.r1.l1 0 (ls1 s which l) (fun ex σ => some (ex, [getT σ.t 0, getT σ.t 1, getT σ.t 5, getT σ.t 6], σ.b, σ.s, σ.v, σ.c, σ.fr)) =
  cX call (.n .prog) .unit NewReader.n [.sl .tok l] () fun (x : PS) _ => some (.normal, [.str s, .int which, .sl .tok l, .lbox 23 0], [(23, STy.enc .prog 0 x)], [], [], 0, []) := by kernel_rfl
def K2 : Ex → St → Option (Ex × List AV × List AV × List AV × List Nat) := fun ex σ => some (ex, [getT σ.t 0, getT σ.t 5, getT σ.t 7, getT σ.t 8, getT σ.t 9], getB σ.b 8, σ.s, σ.fr)
noncomputable def K1 : Ex → St → Option (Ex × List AV × List AV × List AV × List Nat) := Kseq T0 call .unit (FnI.mask LsI) 0 LsC.r1.r1.r1.r1.r1.r1.l1 0 K2
def G2 (q : PS) : Option (Ex × List AV × List AV × List AV × List Nat) :=
 cX call (.t3 (.s .node) (.e .diag) .b) .prog Done.n [.rdr 0] q fun (x : List Node × Diag × Bool) _ => some (.normal, [.str s, .sl .tok l, .sl .node x.1, .lbox 8 0, .bool x.2.2], [.int x.2.1.c, .int x.2.1.f, .int x.2.1.t], [], [])
theorem ls_sw (p : PS) : exec T0 call .unit (FnI.mask LsI) 0 LsC.r1.r1.r1.r1.r1.l1 0 (ls2 s which l p) (K1 call) =
  if decide (which = 0) then cX call .u .prog X.n [.rdr 0, .bool true] p fun _ q => G2 call s l q
  else if decide (which = 1) then cX call .u .prog Type_.n [.rdr 0] p fun _ q => G2 call s l q
  else if decide (which = 2) then cX call .u .prog Sig.n [.rdr 0] p fun _ q => G2 call s l q
  else if decide (which = 3) then cX call .u .prog TParams.n [.rdr 0] p fun _ q => G2 call s l q
  else cX call .u .prog List_.n [.rdr 0, .bool false] p fun _ q => G2 call s l q := by kernel_rfl
noncomputable abbrev LsB : Code := LsC.r1.r1.r1.r1.r1.r1.r1.r1.r1.l1.r1.l1.l1
theorem ls_24 (row : List Node) (ys : List Tok) (ver : Nat) (i : Int) (v : List (Nat × Nat)) (c : Nat) : exec T0 call .unit (FnI.mask LsI) 0 LsB.r1.l1.l1.l1 0 (ls4 l row ys ver i v c) (fun ex σ => some (ex, [getT σ.t 5, getT σ.t 7, getT σ.t 10, getT σ.t 11, getT σ.t 13], σ.b, σ.s, σ.v, σ.c, σ.fr)) =
  if 0 ≤ i then if i < (row.length : Int) then
   cX call (.t2 .i .b) .unit neat.n [.agg [.int (Node.k (List.getD row (Int.toNat i) (El.dflt .node))), .int (Node.f (List.getD row (Int.toNat i) (El.dflt .node))), .int (Node.t (List.getD row (Int.toNat i) (El.dflt .node))), .sl .node (Node.kids (List.getD row (Int.toNat i) (El.dflt .node)))]] () fun (x : Int × Bool) _ =>
    some (.normal, [.sl .tok l, .sl .node row, .own 10 ver .tok ys, .int i, .bool x.2], [], [], v, c, [])
  else none else none := by kernel_rfl
end
end Go.AI.Rd
end
section
set_option maxRecDepth 100000
namespace Go.AI.Rd
theorem W2_W {τ : STy} {f : Nat} {args : List AV} {p : τ.T} (h2 : f ≠ NewReader.n) (h3 : f ≠ Clone.n) : W2 τ f args p = W τ f args p := by
 unfold W2 W1
 rw [ov_ne h2, ov_ne h3]
def whP (which : Int) : Proc := if which = 0 then .X true else if which = 1 then .Type else if which = 2 then .Sig else if which = 3 then .TParams else .List false
theorem tokOK_of : ∀ {r : List Tok} {a b : Int}, 0 ≤ a → Sn.Ch2 a r b → a ≤ b ∧ ∀ t ∈ r, t.k < 200 ∧ 0 ≤ t.f ∧ t.f ≤ t.t ∧ t.t ≤ b
 | [], a, b, h0, h => ⟨by have : a = b := h; omega, fun t ht => by cases ht⟩
 | u :: r, a, b, h0, ⟨h1, h2⟩ => by
  unfold Sn.tOK at h1
  have hq : u.f = a ∧ a ≤ u.t ∧ u.k < 200 := by
   obtain ⟨q1, q2⟩ := h1
   rcases q2 with ⟨q3, q2⟩ | ⟨q2, q3⟩
   ·unfold Sn.kOK at q3; exact ⟨q1, by omega, by omega⟩
   ·exact ⟨q1, by omega, by omega⟩
  have ih := tokOK_of (by omega) h2
  refine ⟨by omega, fun t ht => ?_⟩
  rcases List.mem_cons.1 ht with rfl | ht
  ·omega
  ·exact ih.2 t ht
theorem ls_read (s : ByteArray) (which : Int) {l : List Tok} (hl : l.length ≤ 500000000) (hT : TokOK l s.size) : ∃ o : Out, (∀ x ∈ o.row, Small x) ∧ (o.ok = true → lvL o.row = l ∧ neatL o.row) ∧ (o.ok = false → o.row = [] ∧ (o.d.c = 201 ∨ o.d.c = 202) ∧ 0 ≤ o.d.f ∧ o.d.f ≤ o.d.t ∧ o.d.t ≤ s.size) ∧ o.row.length < 4294967290 ∧
  exec T0 W2 .unit (FnI.mask LsI) 0 LsC.r1.r1.r1.r1.r1.l1 0 (ls2 s which l (toP (a0 l))) (K1 W2) = some (.normal, [.str s, .sl .tok l, .sl .node o.row, .lbox 8 0, .bool o.ok], [.int o.d.c, .int o.d.f, .int o.d.t], [], []) := by
 have main : ∀ pr : Proc, fnP pr = true → Pre' pr (a0 l) [] → slack pr ≤ 1000 → WF pr → ar pr = 0 → ∃ o : Out, (∀ x ∈ o.row, Small x) ∧ (o.ok = true → lvL o.row = l ∧ neatL o.row) ∧ (o.ok = false → o.row = [] ∧ (o.d.c = 201 ∨ o.d.c = 202) ∧ 0 ≤ o.d.f ∧ o.d.f ≤ o.d.t ∧ o.d.t ≤ s.size) ∧ o.row.length < 4294967290 ∧
   ∃ e q, W .prog (argsOf pr).1 (argsOf pr).2 (toP (a0 l)) = some (e, q) ∧ G2 W2 s l q = some (.normal, [.str s, .sl .tok l, .sl .node o.row, .lbox 8 0, .bool o.ok], [.int o.d.c, .int o.d.f, .int o.d.t], [], []) := by
  intro pr h1 h2 h3 h4 h5
  obtain ⟨n, r, b, hc, hg, hsm, hB, hW⟩ := prog_reads hl h1 h2 h3
  obtain ⟨i1, i2⟩ := outA_inv hT (by omega) h4 h5 hc
  obtain ⟨pd, hD⟩ := W_Done hg (by omega)
  refine ⟨outA b, outA_small hsm, i1, fun h => ⟨outA_row b h, i2 h⟩, ?_, _, _, hW, ?_⟩
  ·unfold outA
   split
   ·simp
   ·simp only [List.length_append, List.length_map]
    rw [finA_row]; omega
  ·unfold G2
   rw [cX_done ((W2_W (by decide) (by decide)).trans hD) (outA_row b)]
 obtain ⟨o, h1, h2, h3, h4, e, q, h5, h6⟩ := main (whP which) (by unfold whP; (repeat' split) <;> rfl) (by unfold whP; (repeat' split) <;> rfl) (by unfold whP; (repeat' split) <;> decide) (by unfold whP; (repeat' split) <;> trivial) (by unfold whP; (repeat' split) <;> rfl)
 refine ⟨o, h1, h2, h3, h4, ?_⟩
 rw [ls_sw]
 unfold whP at h5
 by_cases c0 : which = 0
 ·rw [if_pos c0] at h5
  rw [if_pos (decide_eq_true c0)]
  exact (cX_c (h := .u) (x := ()) ((W2_W (by decide) (by decide)).trans h5) rfl).trans h6
 rw [if_neg c0] at h5
 rw [if_neg (by simpa using c0)]
 by_cases c1 : which = 1
 ·rw [if_pos c1] at h5
  rw [if_pos (decide_eq_true c1)]
  exact (cX_c (h := .u) (x := ()) ((W2_W (by decide) (by decide)).trans h5) rfl).trans h6
 rw [if_neg c1] at h5
 rw [if_neg (by simpa using c1)]
 by_cases c2 : which = 2
 ·rw [if_pos c2] at h5
  rw [if_pos (decide_eq_true c2)]
  exact (cX_c (h := .u) (x := ()) ((W2_W (by decide) (by decide)).trans h5) rfl).trans h6
 rw [if_neg c2] at h5
 rw [if_neg (by simpa using c2)]
 by_cases c3 : which = 3
 ·rw [if_pos c3] at h5
  rw [if_pos (decide_eq_true c3)]
  exact (cX_c (h := .u) (x := ()) ((W2_W (by decide) (by decide)).trans h5) rfl).trans h6
 rw [if_neg c3] at h5
 rw [if_neg (by simpa using c3)]
 exact (cX_c (h := .u) (x := ()) ((W2_W (by decide) (by decide)).trans h5) rfl).trans h6
theorem loss_calls (s : ByteArray) (which : Int) (w : World) : Calls PG 3 #[.string s, .int .i64 which] w (True' w) := by
 refine calls_of_wp LsI.ok.fn (c := LsC) rfl ?_
 have hs : SRep T0.tid .unit w (fun _ _ => False) 0 (fun _ => none) () := ⟨fun h => absurd rfl h, fun _ _ h => h.elim, fun h => absurd rfl h, fun k b hk => (by cases hk), fun k k' b hk => (by cases hk)⟩
 have hC : CR w (fun _ _ => False) 0 [.str s, .int which] [.string s, .int .i64 which] := ⟨rfl, fun i hi => by
  match i, hi with
  | 0, _ => exact .str s
  | 1, _ => exact .int which⟩
 have h0 := start_ok (τ := .unit) (n := LsI.fn.ntmps) (p := ()) hs hC
 generalize hN : ([Value.string s, .int .i64 which].toArray ++ Array.replicate (LsI.fn.ntmps - [Value.string s, .int .i64 which].toArray.size) Go.undef).size = N at h0
 have hNle : LsI.fn.ntmps ≤ N := by rw [← hN]; simp only [Array.size_append, Array.size_replicate]; omega
 have hco : ∀ co, codeOK LsI.fn.ntmps co = true → codeOK N co = true := fun co h => codeOK_mono hNle co h
 generalize hB : (⟨w, Foot .unit 0 (fun _ => none), fun _ _ => False, 0⟩ : Base) = B at h0
 have fin' : ∀ {ex : Ex} {σ : St} {c : Cx} {a : Act} {w' : World} {fi : FnI}, fi.fn = LsI.fn → Rel T0.tid B N c σ a w' → fin T0 .unit fi ex σ = some (.bool true, ()) → bodyPost PG LsI.fn (True' w) (exOf ex) a w' := by
  intro ex σ c a w' fi hfi h hf
  subst hB
  have := fin_ok (fi := fi) tabT h hf
  rw [hfi] at this
  exact bodyPost.mono (fun e w' hR => true_of hR) this
 refine wp_seq (segm tabT W2_ok mix_ok (τ := .unit) (masks := FnI.mask LsI) (lim := 0) (bid := 0) (hco _ (by kernel_rfl)) h0 rfl fun c1 a1 w1 h1 => ?_)
 refine wp_seq (wp_seq (segm tabT W2_ok mix_ok (τ := .unit) (masks := FnI.mask LsI) (lim := 0) (bid := 0) (hco _ (by kernel_rfl)) h1 rfl fun c2 a2 w2 h2 => ?_))
 have hv : a2.eval (.tmp 19) = .bool (decide ((s.size : Int) > 16384)) := bool_of h2 (by with_unfolding_all rfl)
 by_cases hgt : (s.size : Int) > 16384
 ·rw [decide_eq_true hgt] at hv
  refine wp_cond_true hv (segm tabT W2_ok mix_ok (τ := .unit) (masks := FnI.mask LsI) (lim := 0) (bid := 0) (hco _ (by kernel_rfl)) h2 rfl fun c3 a3 w3 h3 => ?_)
  exact fin' (ex := .ret) (fi := LsI) rfl h3 rfl
 rw [decide_eq_false hgt] at hv
 refine wp_cond_false hv (wp_skip ?_)
 obtain ⟨l, ht1, ht2, ht3⟩ := Sn.toks_sp s (by omega)
 have hT : TokOK l s.size := (tokOK_of (Int.le_refl _) ht2).2
 have hl : l.length ≤ 500000000 := by omega
 obtain ⟨o, o1, o2, o3, o4, o5⟩ := ls_read s which hl hT
 have h3 : Rel T0.tid B N c2 (ls0 s which) a2 w2 := by
  refine Rel_drop h2 (fun i => ?_) (fun _ => rfl) rfl rfl rfl rfl
  match i with
  | 0 => exact .inl rfl
  | 1 => exact .inl rfl
  | n + 2 => exact .inr rfl
 -- the tokens
 refine wp_seq (exec_ok (τ := .unit) tabT W2_ok mix_ok (FnI.mask LsI) 0 _ 0 _ _ _ _ _ _ (hco _ (by kernel_rfl)) h3 ((ls_3 W2 s which).trans (cX_c (h := .s .tok) (x := l) ((W2_W (by decide) (by decide)).trans ht1) rfl)) fun ex4 σ4 c4 a4 w4 h4 hk => ?_)
 simp only [Option.some.injEq, Prod.mk.injEq, List.cons.injEq, and_true] at hk
 obtain ⟨rfl, ⟨t0, t1, t5⟩, tb, ts, tv, tc, tf⟩ := hk
 have h5 : Rel T0.tid B N c4 (ls1 s which l) a4 w4 := by
  refine Rel_drop h4 (fun i => ?_) (fun _ => by rw [tb]; rfl) ts.symm tv.symm tc.symm tf.symm
  match i with
  | 0 => exact .inl t0.symm
  | 1 => exact .inl t1.symm
  | 5 => exact .inl t5.symm
  | 2 => exact .inr rfl
  | 3 => exact .inr rfl
  | 4 => exact .inr rfl
  | n + 6 => exact .inr rfl
 -- a reader
 refine wp_seq (exec_ok (τ := .unit) tabT W2_ok mix_ok (FnI.mask LsI) 0 _ 0 _ _ _ _ _ _ (hco _ (by kernel_rfl)) h5 ((ls_4 W2 s which l).trans (cX_c (h := .n .prog) (x := toP (a0 l)) (W2_NewReader (by omega)) rfl)) fun ex6 σ6 c6 a6 w6 h6 hk => ?_)
 simp only [Option.some.injEq, Prod.mk.injEq, List.cons.injEq, and_true] at hk
 obtain ⟨rfl, ⟨q0, q1, q5, q6⟩, qb, qs, qv, qc, qf⟩ := hk
 have h7 : Rel T0.tid B N c6 (ls2 s which l (toP (a0 l))) a6 w6 := by
  refine Rel_drop h6 (fun i => ?_) (fun _ => by rw [qb]; rfl) qs.symm qv.symm qc.symm qf.symm
  match i with
  | 0 => exact .inl q0.symm
  | 1 => exact .inl q1.symm
  | 5 => exact .inl q5.symm
  | 6 => exact .inl q6.symm
  | 2 => exact .inr rfl
  | 3 => exact .inr rfl
  | 4 => exact .inr rfl
  | n + 7 => exact .inr rfl
 -- is it nil?
 refine wp_seq (wp_seq (region_hand_at tabT W2_ok (τ := .unit) 1 rfl (hco (.region 0 _ false) (by kernel_rfl)) rfl rfl h7 rfl fun c8 a8 w8 h8 => ?_))
 have hp8 : a8.eval (.tmp 24) = .pointer (some ⟨c8.β 23, 0, none⟩) := (show AR T0.tid c8 _ (.lbox 23 0) (a8.eval (.tmp 24)) from h8.getO (.tmp 24)).1
 refine eqnilp_wp rfl (by kernel_rfl) hp8 ?_
 have h9 := h8.put (d := some 25) (x := .bool false) (v := .bool false) (fun x hx => by cases hx; exact Nat.lt_of_lt_of_le (by decide) hNle) (AR.of_F T0.tid (.bool _))
 refine region_rest_at tabT W2_ok (τ := .unit) 1 (by decide) (hco (.region 0 _ false) (by kernel_rfl)) h9 rfl fun c10 a10 w10 h10 => ?_
 refine wp_cond_false (bool_of h10 (by with_unfolding_all rfl)) (wp_skip ?_)
 have h11 : Rel T0.tid B N c10 (ls2 s which l (toP (a0 l))) a10 w10 := by
  refine Rel_drop h10 (fun i => ?_) (fun _ => rfl) rfl rfl rfl rfl
  match i with
  | 0 => exact .inl rfl
  | 1 => exact .inl rfl
  | 5 => exact .inl rfl
  | 6 => exact .inl rfl
  | 2 => exact .inr rfl
  | 3 => exact .inr rfl
  | 4 => exact .inr rfl
  | n + 7 => exact .inr rfl
 -- the reading
 refine wp_seq (exec_ok (τ := .unit) tabT W2_ok mix_ok (FnI.mask LsI) 0 _ 0 _ _ _ _ _ _ (hco _ (by kernel_rfl)) h11 o5 fun exs σs cs as_ ws hs hk => ?_)
 have hex : exs = .normal := by
  cases exs with
  | normal => rfl
  | ret => exact absurd (Prod.mk.inj (Option.some.inj (show some _ = some _ from hk))).1 (fun h => by cases h)
  | exit i => exact absurd (Prod.mk.inj (Option.some.inj (show some _ = some _ from hk))).1 (fun h => by cases h)
 subst hex
 refine wp_seq (exec_ok (τ := .unit) tabT W2_ok mix_ok (FnI.mask LsI) 0 _ 0 _ K2 _ _ _ _ (hco _ (by kernel_rfl)) hs hk fun ex12 σ12 c12 a12 w12 h12 hk2 => ?_)
 unfold K2 at hk2
 simp only [Option.some.injEq, Prod.mk.injEq, List.cons.injEq, and_true] at hk2
 obtain ⟨rfl, ⟨r0, r5, r7, r8, r9⟩, rb, rs, rf⟩ := hk2
 obtain ⟨c13, h13⟩ : ∃ c', Rel T0.tid B N c' (ls3 s l o.row o.d o.ok) a12 w12 := by
  refine Rel_reset h12 rs rfl rfl rfl rfl (fun k => ?_) (fun i => ?_)
  ·by_cases k8 : k = 8
   ·subst k8; exact .inr ⟨rb.symm, by rw [rb]; rfl⟩
   ·refine .inl ?_
    have : Nat.beq 8 k = false := by
     cases hb : Nat.beq 8 k with
     | false => rfl
     | true => exact absurd (Nat.eq_of_beq_eq_true hb).symm k8
    simp only [ls3, getB, this]
  ·match i with
   | 0 => exact .inr (.inl ⟨r0.symm, by rw [r0]; rfl⟩)
   | 5 => exact .inr (.inl ⟨r5.symm, by rw [r5]; rfl⟩)
   | 7 => exact .inr (.inl ⟨r7.symm, by rw [r7]; rfl⟩)
   | 8 => exact .inr (.inr (.inl ⟨8, 0, rfl, r8, by simp [ls3, getB]⟩))
   | 9 => exact .inr (.inl ⟨r9.symm, by rw [r9]; rfl⟩)
   | 1 => exact .inl rfl
   | 2 => exact .inl rfl
   | 3 => exact .inl rfl
   | 4 => exact .inl rfl
   | 6 => exact .inl rfl
   | n + 10 => exact .inl rfl
 refine wp_seq (wp_seq (segm tabT W2_ok mix_ok (τ := .unit) (masks := FnI.mask LsI) (lim := 0) (bid := 0) (hco _ (by kernel_rfl)) h13 rfl fun c14 a14 w14 h14 => ?_))
 have hv14 : a14.eval (.tmp 52) = .bool (!o.ok) := bool_of h14 (by with_unfolding_all rfl)
 cases hok : o.ok with
 | false =>
  rw [hok] at hv14
  obtain ⟨p1, p2, p3, p4, p5⟩ := o3 hok
  have h15 : Rel T0.tid B N c14 ⟨[(0, .str s), (7, .sl .node []), (8, .lbox 8 0)], [(8, [.int o.d.c, .int o.d.f, .int o.d.t])], [], [], 0, []⟩ a14 w14 := by
   refine Rel_drop h14 (fun i => ?_) (fun _ => rfl) rfl rfl rfl rfl
   match i with
   | 0 => exact .inl rfl
   | 7 => exact .inl (congrArg (AV.sl .node) p1.symm)
   | 8 => exact .inl rfl
   | 1 => exact .inr rfl
   | 2 => exact .inr rfl
   | 3 => exact .inr rfl
   | 4 => exact .inr rfl
   | 5 => exact .inr rfl
   | 6 => exact .inr rfl
   | n + 9 => exact .inr rfl
  refine wp_cond_true hv14 (wp_seq (exec_ok (τ := .unit) tabT W2_ok mix_ok (FnI.mask LossD.I) 0 _ 0 _ (Kseq T0 W2 .unit (FnI.mask LossD.I) 0 .ret 0 (fin T0 .unit LossD.I)) _ _ _ _ (hco _ (by kernel_rfl)) h15 (lossD_val W2 0 p2 p3 p4 p5) fun ex σ' c' a' w'' h' hk => ?_))
  cases ex with
  | normal => exact wp_ret (fin' (ex := .ret) (fi := LossD.I) rfl h' hk)
  | ret => exact fin' (ex := .ret) (fi := LossD.I) rfl h' hk
  | exit i => cases (show none = some _ from hk)
 | true =>
 rw [hok] at hv14
 obtain ⟨e1, e2⟩ := o2 hok
 refine wp_cond_false hv14 (wp_skip ?_)
 refine wp_seq (segm tabT W2_ok mix_ok (τ := .unit) (masks := FnI.mask LsI) (lim := 0) (bid := 0) (hco _ (by kernel_rfl)) h14 rfl fun c16 a16 w16 h16 => ?_)
 refine wp_seq (wp_seq (segm tabT W2_ok mix_ok (τ := .unit) (masks := FnI.mask LsI) (lim := 0) (bid := 0) (hco _ (by kernel_rfl)) h16 rfl fun c17 a17 w17 h17 => ?_))
 obtain ⟨c18, h18⟩ : ∃ c', Rel T0.tid B N c' (ls4 l o.row [] 0 ((0 : Nat) : Int) [] 0) a17 w17 := by
  refine Rel_reset h17 rfl rfl rfl rfl rfl (fun k => .inl rfl) (fun i => ?_)
  match i with
  | 5 => exact .inr (.inl ⟨rfl, rfl⟩)
  | 7 => exact .inr (.inl ⟨rfl, rfl⟩)
  | 10 => exact .inr (.inr (.inr (.inr ⟨10, .tok, rfl, rfl⟩)))
  | 11 => exact .inr (.inl ⟨rfl, rfl⟩)
  | 0 => exact .inl rfl
  | 1 => exact .inl rfl
  | 2 => exact .inl rfl
  | 3 => exact .inl rfl
  | 4 => exact .inl rfl
  | 6 => exact .inl rfl
  | 8 => exact .inl rfl
  | 9 => exact .inl rfl
  | n + 12 => exact .inl rfl
 refine wp_block (wp_loop_n (fun m a w' => ∃ (i : Nat) (v : List (Nat × Nat)) (cc : Nat) (c : Cx), i + m = o.row.length + 1 ∧ 0 < m ∧ Rel T0.tid B N c (ls4 l o.row (lvL (o.row.take i)) (getV v 10) (i : Int) v cc) a w') (fun a w h => ?_) (fun m a w' hJ => ?_) (o.row.length + 1) ⟨0, [], 0, c18, by omega, by omega, h18⟩)
 ·obtain ⟨_, _, _, _, _, h, _⟩ := h
  omega
 obtain ⟨i, v, cc, c20, g1, g2, h20⟩ := hJ
 refine wp_seq (wp_seq (segm tabT W2_ok mix_ok (τ := .unit) (masks := FnI.mask LsI) (lim := 0) (bid := 0) (hco _ (by kernel_rfl)) h20 rfl fun c21 a21 w21 h21 => ?_))
 have hv21 : a21.eval (.tmp 89) = .bool (decide ((i : Int) < (o.row.length : Int))) := bool_of h21 (by with_unfolding_all rfl)
 have h22 : Rel T0.tid B N c21 (ls4 l o.row (lvL (o.row.take i)) (getV v 10) (i : Int) v cc) a21 w21 := by
  refine Rel_drop h21 (fun j => ?_) (fun _ => rfl) rfl rfl rfl rfl
  match j with
  | 5 => exact .inl rfl
  | 7 => exact .inl rfl
  | 10 => exact .inl rfl
  | 11 => exact .inl rfl
  | 0 => exact .inr rfl
  | 1 => exact .inr rfl
  | 2 => exact .inr rfl
  | 3 => exact .inr rfl
  | 4 => exact .inr rfl
  | 6 => exact .inr rfl
  | 8 => exact .inr rfl
  | 9 => exact .inr rfl
  | n + 12 => exact .inr rfl
 have e3 := lvL_take_le o.row (i + 1)
 rw [e1] at e3
 by_cases hi : (i : Int) < (o.row.length : Int)
 ·rw [decide_eq_true hi] at hv21
  have hi' : i < o.row.length := by omega
  have hkid : o.row.getD i (El.dflt .node) ∈ o.row := by rw [getD_kid _ _ hi']; exact List.getElem_mem _
  rw [take_kid _ _ hi', List.length_append] at e3
  refine wp_cond_true hv21 (wp_skip ?_)
  -- neat
  refine wp_seq (wp_block (wp_seq (exec_ok (τ := .unit) tabT W2_ok mix_ok (FnI.mask LsI) 0 _ 0 _ _ _ _ _ _ (hco _ (by kernel_rfl)) h22 ((ls_24 W2 l o.row (lvL (o.row.take i)) (getV v 10) i v cc).trans ((if_pos (by omega)).trans ((if_pos hi).trans (cX_c (h := .t2 .i .b) (x := (htN (o.row.getD (Int.toNat (i : Int)) (El.dflt .node)), true)) ((W2_W (by decide) (by decide)).trans (neat_ok (o1 _ (by rw [Int.toNat_natCast]; exact hkid)) (neatL_mem e2 _ (by rw [Int.toNat_natCast]; exact hkid)))) rfl)))) fun ex23 σ23 c23 a23 w23 h23 hk => ?_)))
  simp only [Option.some.injEq, Prod.mk.injEq, List.cons.injEq, and_true] at hk
  obtain ⟨rfl, ⟨y5, y7, y10, y11, y13⟩, yb, ys, yv, yc, yf⟩ := hk
  have h24 : Rel T0.tid B N c23 (ls5 l o.row (lvL (o.row.take i)) (getV v 10) (i : Int) true v cc) a23 w23 := by
   refine Rel_drop h23 (fun j => ?_) (fun _ => by rw [yb]; rfl) ys.symm yv.symm yc.symm yf.symm
   match j with
   | 5 => exact .inl y5.symm
   | 7 => exact .inl y7.symm
   | 10 => exact .inl y10.symm
   | 11 => exact .inl y11.symm
   | 13 => exact .inl y13.symm
   | 0 => exact .inr rfl
   | 1 => exact .inr rfl
   | 2 => exact .inr rfl
   | 3 => exact .inr rfl
   | 4 => exact .inr rfl
   | 6 => exact .inr rfl
   | 8 => exact .inr rfl
   | 9 => exact .inr rfl
   | 12 => exact .inr rfl
   | n + 14 => exact .inr rfl
  refine wp_seq (wp_seq (segm tabT W2_ok mix_ok (τ := .unit) (masks := FnI.mask LsI) (lim := 0) (bid := 0) (hco _ (by kernel_rfl)) h24 rfl fun c25 a25 w25 h25 => ?_))
  refine wp_cond_false (bool_of h25 (by with_unfolding_all rfl)) (wp_skip ?_)
  -- leaves
  refine region_hand_at tabT W2_ok (τ := .unit) 5 rfl (hco (.region 0 _ false) (by kernel_rfl)) rfl rfl h25 (Eq.trans (if_pos (c := 0 ≤ (i : Int)) (e := (none : Option St)) (by omega)) (if_pos (c := (i : Int) < (o.row.length : Int)) (e := (none : Option St)) hi)) fun c7 a7 w7 h7 => ?_
  have hk7 : FRel c7.w c7.S c7.g (ndAV (o.row.getD (Int.toNat (i : Int)) (El.dflt .node))) (a7.eval (.tmp 105)) := (h7.getO (.tmp 105)).to_F T0.tid rfl
  obtain ⟨_, hle7, hO7⟩ : AR T0.tid c7 _ (.own 10 (getV v 10) .tok (lvL (o.row.take i))) (a7.eval (.tmp 106)) := h7.getO (.tmp 106)
  obtain ⟨κ7, q1, q2⟩ := Owd.of (hO7 rfl)
  rw [Int.toNat_natCast, h7.hw] at hk7
  rw [h7.hw] at q2
  have hown := fun b hb => h7.own 10 b (fun hh => absurd (show (10 : Nat) ∈ ([] : List Nat) from hh) (by simp)) (q1 b hb)
  refine call_wp rfl Lv.ok.goes (leaves_calls (o1 _ hkid) w7 c7.S c7.g κ7 (lvL (o.row.take i)) _ _ (by unfold maxRow; omega) hk7 q2 (fun b hb => ⟨(hown b hb).2.1, (hown b hb).2.2.1⟩) h7.stsz) (fun e w' he => ?_) fun u w8 he => ?_
  ·cases e <;> first | exact ⟨_, rfl⟩ | exact he.elim
  obtain ⟨κ8, z1, z2, z3⟩ := he
  obtain ⟨c8, h8, k1, k2, k3, k4⟩ := Rel_own h7 rfl (k := 10) (fun hh => absurd (show (10 : Nat) ∈ ([] : List Nat) from hh) (by simp)) q1 z3 z2
  have h8' := h8.put (d := some 107) (x := .own 10 (cc + 1) .tok (lvL (o.row.take i) ++ lvN (o.row.getD i (El.dflt .node)))) (v := u) (fun x hx => by cases hx; exact Nat.lt_of_lt_of_le (by decide) hNle) ⟨z1.sl, Nat.le_refl _, fun _ => z1.to k4 k1⟩
  refine region_rest_at tabT W2_ok (τ := .unit) 5 (by decide) (hco (.region 0 _ false) (by kernel_rfl)) h8' rfl fun c9 a9 w9 h9 => ?_
  refine segm tabT W2_ok mix_ok (τ := .unit) (masks := FnI.mask LsI) (lim := 0) (bid := 0) (hco _ (by kernel_rfl)) h9 rfl fun c10 a10 w10 h10 => ?_
  have hw : IntKind.i64.wrap ((i : Int) + 1) = ((i + 1 : Nat) : Int) := by rw [wi _ (by omega) (by omega)]; omega
  refine ⟨i + 1, (10, cc + 1) :: v, cc + 1, c10, by omega, by omega, ?_⟩
  rw [take_kid _ _ hi']
  refine Rel_drop h10 (fun j => ?_) (fun _ => rfl) rfl rfl rfl rfl
  match j with
  | 5 => exact .inl rfl
  | 7 => exact .inl rfl
  | 10 => exact .inl rfl
  | 11 => exact .inl (congrArg AV.int hw.symm)
  | 0 => exact .inr rfl
  | 1 => exact .inr rfl
  | 2 => exact .inr rfl
  | 3 => exact .inr rfl
  | 4 => exact .inr rfl
  | 6 => exact .inr rfl
  | 8 => exact .inr rfl
  | 9 => exact .inr rfl
  | n + 12 => exact .inr rfl
 ·rw [decide_eq_false hi] at hv21
  refine wp_cond_false hv21 (wp_exit ?_)
  have e4 : o.row.take i = o.row := List.take_of_length_le (by omega)
  rw [e4, e1] at h22
  obtain ⟨c30, h30⟩ : ∃ c', Rel T0.tid B N c' ⟨[(5, .sl .tok l), (10, .own 10 0 .tok l)], [], [], [], 0, []⟩ a21 w21 := by
   refine Rel_reset h22 rfl rfl rfl rfl rfl (fun k => .inl rfl) (fun i => ?_)
   match i with
   | 5 => exact .inr (.inl ⟨rfl, rfl⟩)
   | 10 => exact .inr (.inr (.inr (.inl ⟨10, _, .tok, l, rfl, rfl, rfl, fun hh => absurd (show (10 : Nat) ∈ ([] : List Nat) from hh) (by simp)⟩)))
   | 0 => exact .inl rfl
   | 1 => exact .inl rfl
   | 2 => exact .inl rfl
   | 3 => exact .inl rfl
   | 4 => exact .inl rfl
   | 6 => exact .inl rfl
   | 7 => exact .inl rfl
   | 8 => exact .inl rfl
   | 9 => exact .inl rfl
   | n + 11 => exact .inl rfl
  refine exec_ok (τ := .unit) tabT W2_ok mix_ok (FnI.mask LossT.I) LIM _ 0 _ (fin T0 .unit LossT.I) _ _ _ _ (hco _ (by kernel_rfl)) h30 ((LossT_eq W2 LIM l l ()).trans (lossT_l3 W2 LIM l (by omega) (by unfold LIM; omega) (fun t ht => (hT t ht).1) l.length 0 LIM (by omega) (by unfold LIM; omega))) fun ex σ' c' a' w'' h' hk => fin' (fi := LossT.I) rfl h' hk
end Go.AI.Rd
end
