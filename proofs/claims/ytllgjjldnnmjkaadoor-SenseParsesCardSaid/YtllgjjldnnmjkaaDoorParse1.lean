/-
  The parser's reader: a token, a number, a clause, a line: its code comes to what 'peekS' .. 'lineS' say, or panics with the fault. No condition.
-/
import Derived.Test.YtllgjjldnnmjkaaDoorParseS
import Derived.Test.YtllgjjldnnmjkaaDoorWlMap
import Derived.Test.YtllgjjldnnmjkaaDoorCodeParse
set_option linter.unusedVariables false
set_option linter.unusedSimpArgs false
set_option maxRecDepth 100000
namespace Go.Proofs.YtllgjjldnnmjkaaDoor
open Go.RowKit

/-- A fault, as it is thrown. -/
def faultV (e p : Int) : List PanicEntry := [{ v := .iface 73 (.agg ⟨[.int .i64 e, .int .i64 p]⟩), recovered := false }]
/-- The reader lies at a block, its tokens at another one; both below lo. -/
structure RdAt (w : World) (lo bt rb : Nat) (l : List Tk) (en : Int) (i : Nat) : Prop where
  there : ∃ a c, IsB w rb [.slice a l.length c, .int .i64 i, .int .i64 en] ∧ Lst w 79 4 Tk.enc a l.length c l ∧ ∀ k, inB a k → k ≠ rb ∧ k < lo ∧ bt ≤ k
  lt : rb < lo
  lo_le : lo ≤ w.heap.size
  short : l.length ≤ 10000
  place : i ≤ l.length + 1
section
variable {Z : List PanicEntry → PT} {w w' : World} {lo bt rb : Nat} {l : List Tk} {en : Int} {i : Nat}
theorem RdAt.keep {S : Nat → Prop} (h : RdAt w lo bt rb l en i) (k : Keep S w w') (hs : ∀ k, S k → lo ≤ k) : RdAt w' lo bt rb l en i := by
  obtain ⟨⟨a, c, h1, h2, h3⟩, h4, h5, h6, h7⟩ := h
  exact ⟨⟨a, c, h1.keep k fun g => by have := hs _ g; omega, h2.keep k fun q hq g => by have := hs _ g; have := (h3 q hq).2.1; omega, h3⟩, h4, Nat.le_trans h5 k.size, h6, h7⟩
theorem RdAt.ext (h : RdAt w lo bt rb l en i) (k : Ext w w') : RdAt w' lo bt rb l en i := h.keep k fun _ g => g.elim
theorem RdAt.low {q : Nat} (h : RdAt w lo bt rb l en i) (k : Keep (· = q) w w') (hq : q < bt) (hn : q ≠ rb) : RdAt w' lo bt rb l en i := by
  obtain ⟨⟨a, c, h1, h2, h3⟩, h4, h5, h6, h7⟩ := h
  exact ⟨⟨a, c, h1.keep k fun g => hn g.symm, h2.keep k fun p hp g => by have := (h3 p hp).2.2; omega, h3⟩, h4, Nat.le_trans h5 k.size, h6, h7⟩
/-- The place at hand is read. -/
theorem ldRd {K : Int → PT} (h : RdAt w lo bt rb l en i) (hk : K i w) : ldI .i64 ⟨rb, 1, none⟩ K w := by
  obtain ⟨⟨a, c, h1, h2, h3⟩, _⟩ := h
  exact ldI_B h1 rfl hk
/-- The place at hand is set. -/
theorem stRd {K : PT} {j : Int} {n : Nat} (h : RdAt w lo bt rb l en i) (hj : j = n) (hn : n ≤ l.length + 1) (hk : ∀ w', RdAt w' lo bt rb l en n → Keep (· = rb) w w' → K w') : st1 ⟨rb, 1, none⟩ (.int .i64 j) K w := by
  subst hj
  obtain ⟨⟨a, c, h1, h2, h3⟩, h4, h5, h6, h7⟩ := h
  refine st1_B h1 (by simp) rfl fun w' b' k' => hk w' ⟨⟨a, c, b', h2.keep k' fun q hq e => (h3 q hq).1 e, h3⟩, h4, Nat.le_trans h5 k'.size, h6, hn⟩ k'

theorem peek_F {Q : List Value → PT} (h : RdAt w lo bt rb l en i) (hq : ∀ w', RdAt w' lo bt rb l en i → Ext w w' → Q (peekS l en i).enc w') : parse_reader_peek.F Z Q (some ⟨rb, 0, none⟩) w := by
  unfold parse_reader_peek.F
  refine newC_B fun w1 b1 k1 s1 => ?_
  have h1 := (h.ext k1).ext (Keep.refl.drew)
  have b1' := b1.drew
  show nn _ _ w1.drew
  have k1' : Ext w w1.drew := k1.drew
  have hlt : w.heap.size < w1.drew.heap.size := b1'.lt
  generalize w1.drew = w2 at h1 b1' k1' hlt ⊢
  obtain ⟨⟨a, c, g1, g2, g3⟩, g4, g5, g6, g7⟩ := h1
  simp only [nn_some, add_mk, Nat.zero_add]
  refine ldI_B g1 rfl ?_
  refine ldL_of (g1.cell 0) ?_
  rw [pif_dec]
  have hlo := h.lo_le
  -- the end: the cells of a token are laid and read
  have fin : ∀ (t : Tk) (w3 : World), t = peekS l en i → IsB w3 w.heap.size (Tk.enc ⟨0, 0, noText, 0⟩) → RdAt w3 lo bt rb l en i → Ext w w3 → stN 4 ⟨w.heap.size, 0, none⟩ t.enc (ldN 4 ⟨w.heap.size, 0, none⟩ fun v => Q v) w3 := fun t w3 ht b3 r3 e3 => by
    refine stN_B b3 (by simp [Tk.enc]) rfl (Tk.enc_one t) fun w4 b4 k4 => ?_
    replace b4 : IsB w4 w.heap.size t.enc := by simpa [lay, Tk.enc] using b4
    refine ldN_B b4 (vs := t.enc) rfl rfl ?_
    rw [ht]
    exact hq w4 (r3.keep k4 fun k e => by omega) (e3.trans_new k4 fun q hq' e => by omega)
  split
  · rename_i hi
    refine drawn_of (fun w' => IsB w' rb [.slice a l.length c, .int .i64 i, .int .i64 en] ∧ Lst w' 79 4 Tk.enc a l.length c l) ⟨g1.drew, g2.ext Keep.refl.drew⟩ ?_
    refine hL_of (fun w' hw' => hw'.1.cell 0) ?_
    refine hI_of (fun w' hw' => hw'.1.cell 1) ?_
    have hx := List.getElem?_eq_getElem (show i < l.length by omega)
    refine ixS_Lst Tk.enc_len (g2.ext Keep.refl.drew) hx fun b hb hc => ?_
    refine hN_of (cs := (l[i]).enc) rfl (fun w' hw' j v hj => ?_) ?_
    · have hc' := (hw'.2.2.cells hb).2
      rw [add_mk]
      refine hc' _ _ ?_
      rw [flat_at Tk.enc_len hx (by rw [← Tk.enc_len l[i]]; exact (List.getElem?_eq_some_iff.1 hj).1)]
      exact hj
    · refine fin l[i] w2.drew ?_ b1'.drew ⟨⟨a, c, g1.drew, g2.ext Keep.refl.drew, g3⟩, g4, g5, g6, g7⟩ k1'.drew
      unfold peekS
      rw [if_pos (by omega), hx]
      rfl
  · rename_i hi
    refine ldI_B g1 rfl ?_
    refine fin ⟨0, en, noText, 0⟩ w2 ?_ b1' ⟨⟨a, c, g1, g2, g3⟩, g4, g5, g6, g7⟩ k1'
    unfold peekS
    rw [if_neg (by omega)]
theorem fail_F {Q : PT} {e : Int} (h : RdAt w lo bt rb l en i) (hz : ∀ w', Ext w w' → Z (faultV e (peekS l en i).pos) w') : parse_reader_fail.F Z Q (some ⟨rb, 0, none⟩) e w := by
  unfold parse_reader_fail.F
  refine parse_reader_peek.cal (peek_F h fun w1 h1 k1 => ?_)
  exact ⟨_, rfl, hz w1 k1⟩

/-- What is asked behind a part. -/
def After {α : Type} (Z : List PanicEntry → PT) (r : Res α) (w : World) (K : α → Nat → Prop) : Prop := match r with
  | .ok a j => K a j
  | .no e p => Z (faultV e p) w

theorem want_F {Q : List Value → PT} {k : Int} (h : RdAt w lo bt rb l en i) (hi : i ≤ l.length) (hq : ∀ w', Keep (· = rb) w w' → After Z (wantS l en k i) w' fun t j => RdAt w' lo bt rb l en j → Q t.enc w') : parse_reader_want.F Z Q (some ⟨rb, 0, none⟩) k w := by
  unfold parse_reader_want.F parse_reader_want.s9
  refine newC_B fun w1 b1 k1 s1 => ?_
  refine parse_reader_peek.cal (peek_F (h.ext k1) fun w2 h2 k2 => ?_)
  refine newC_B fun w3 b3 k3 s3 => ?_
  refine stN_B b3 (by simp) rfl (Tk.enc_one _) fun w4 b4 k4 => ?_
  have hlo := h.lo_le
  have z1 := b1.lt
  have z2 := k2.size
  have z3 := k3.size
  replace b4 : IsB w4 w2.heap.size (peekS l en i).enc := by simpa [lay, Tk.enc] using b4
  have r4 : RdAt w4 lo bt rb l en i := (h2.ext k3).keep k4 fun k e => by omega
  have c4 : IsB w4 w.heap.size (Tk.enc ⟨0, 0, noText, 0⟩) := ((b1.ext k2).ext k3).keep k4 (by omega)
  have e4 : Ext w w4 := ((k1.trans k2).trans k3).trans_new k4 fun q hq' e => by omega
  simp only [add_mk, Nat.zero_add]
  refine ldI_B b4 rfl ?_
  rw [pif_bne]
  unfold wantS at hq
  split
  · rename_i hk
    rw [if_neg (by simpa using hk)] at hq
    unfold parse_reader_want.s6
    simp only [nn_some, add_mk, Nat.zero_add]
    refine ldRd r4 ?_
    refine stRd (n := i + 1) r4 (wrap_nat1 (by have := r4.short; omega)) (by omega) fun w5 r5 k5 => ?_
    have n1 : w.heap.size ≠ rb := by have := h.lt; omega
    have n2 : w2.heap.size ≠ rb := by have := h.lt; omega
    refine ldN_B (b4.keep k5 n2) (vs := (peekS l en i).enc) rfl rfl ?_
    refine stN_B (c4.keep k5 n1) (by simp [Tk.enc]) rfl (Tk.enc_one _) fun w6 b6 k6 => ?_
    replace b6 : IsB w6 w.heap.size (peekS l en i).enc := by simpa [lay, Tk.enc] using b6
    refine ldN_B b6 (vs := (peekS l en i).enc) rfl rfl ?_
    have kk : Keep (· = rb) w w6 := (e4.ext.trans k5).trans_new k6 fun q hq' e => by omega
    exact hq w6 kk (r5.keep k6 fun k e => by omega)
  · rename_i hk
    rw [if_pos (by simpa using hk)] at hq
    refine parse_reader_fail.cal (fail_F r4 fun w5 k5 => ?_)
    exact hq w5 (e4.trans k5).ext

theorem fig_F {Q : List Value → PT} (h : RdAt w lo bt rb l en i) (hi : i ≤ l.length) (hq : ∀ w', Keep (· = rb) w w' → After Z (figS l en i) w' fun f j => RdAt w' lo bt rb l en j → Q f.enc w') : parse_reader_figure.F Z Q (some ⟨rb, 0, none⟩) w := by
  unfold parse_reader_figure.F
  refine newC_B fun w1 b1 k1 s1 => ?_
  have hlo := h.lo_le
  have hrb := h.lt
  refine parse_reader_want.cal (want_F (h.ext k1) hi fun w2 k2 => ?_)
  have z1 := b1.lt
  have z2 := k2.size
  unfold figS at hq
  cases hw : wantS l en 2 i with
  | no e p => rw [hw] at hq; exact hq w2 (k1.ext.trans k2)
  | ok t j =>
    rw [hw] at hq
    intro r2
    refine newC_B fun w3 b3 k3 s3 => ?_
    refine stN_B b3 (by simp) rfl (Tk.enc_one _) fun w4 b4 k4 => ?_
    have z3 := k3.size
    replace b4 : IsB w4 w2.heap.size t.enc := by simpa [lay, Tk.enc] using b4
    simp only [add_mk, Nat.zero_add]
    refine ldI_B b4 rfl (ldI_B b4 rfl ?_)
    have c4 : IsB w4 w.heap.size [.int .i64 0, .int .i64 0] := ((b1.keep k2 (by omega)).ext k3).keep k4 (by omega)
    refine stN_B c4 (by simp) rfl (by simp [Value.oneCell']) fun w5 b5 k5 => ?_
    replace b5 : IsB w5 w.heap.size (Fg.enc ⟨t.n, t.pos⟩) := by simpa [lay, Fg.enc] using b5
    refine ldN_B b5 (vs := Fg.enc ⟨t.n, t.pos⟩) rfl rfl ?_
    have e4 : Keep (· = rb) w w4 := ((k1.ext.trans k2).trans k3.ext).trans_new k4 fun q hq' e => by omega
    exact hq w5 (e4.trans_new k5 fun q hq' e => by omega) (((r2.ext k3).keep k4 fun k e => by omega).keep k5 fun k e => by omega)

/-- A number is put behind others. -/
theorem app_fig {s : Sl3} {ns : List Fg} {f : Fg} {K : Option Addr → Nat → Nat → PT} {ad : Addr} (hl : Lst w 49 2 Fg.enc s.a s.n s.c ns) (hn : ns.length ≤ 1000) (hc : ∀ j u, f.enc[j]? = some u → w.cell? (ad.add j) = some u)
    (hk : ∀ (s' : Sl3) w', Lst w' 49 2 Fg.enc s'.a s'.n s'.c (ns ++ [f]) → Keep (inB s.a) w w' → (∀ k, inB s'.a k → inB s.a k ∨ w.heap.size ≤ k) → K s'.a s'.n s'.c w') :
    runL Tryd.prog (bi .append #[53, 53] 53 [false, false] [.slice s.a s.n s.c, .slice (some ad) 1 1]) K w :=
  app_Lst (bytes := 16) (z := .agg #[.int .i64 0, .int .i64 0]) Tryd.underlying53 (by kernel_rfl) rfl (by decide) Fg.enc_len f.enc_one hl hc (by decide) (by have := hl.1; omega) fun a' c' w' g1 g2 g3 => hk ⟨a', s.n + 1, c'⟩ w' g1 g2 g3

theorem more_F {Q : Option Addr → Nat → Nat → Bool → PT} {k : Int} {s : Sl3} {ns : List Fg} (hk0 : k ≠ 0) (h : RdAt w lo bt rb l en i) (hi : i ≤ l.length) (hl : Lst w 49 2 Fg.enc s.a s.n s.c ns) (hs : ∀ k, inB s.a k → lo ≤ k) (hn : ns.length ≤ 1000)
    (hq : ∀ w', Keep (fun k => k = rb ∨ inB s.a k) w w' → After Z (moreS l en k i ns) w' fun r j => ∀ s' : Sl3, RdAt w' lo bt rb l en j → Lst w' 49 2 Fg.enc s'.a s'.n s'.c r.1 → (∀ k, inB s'.a k → inB s.a k ∨ w.heap.size ≤ k) → Q s'.a s'.n s'.c r.2 w') : parse_reader_more.F Z Q (some ⟨rb, 0, none⟩) k s.a s.n s.c w := by
  unfold parse_reader_more.F
  have hlo := h.lo_le
  have hrb := h.lt
  refine parse_reader_peek.cal (peek_F h fun w1 h1 k1 => ?_)
  refine ptI_of (n := (peekS l en i).kind) rfl ?_
  rw [pif_bne]
  unfold moreS at hq
  split
  · rename_i hk
    rw [if_neg (by simpa using hk)] at hq
    simp only [nn_some, add_mk, Nat.zero_add]
    refine ldRd h1 ?_
    have hin : i < l.length := peekS_in (en := en) (by rw [hk]; exact hk0)
    refine stRd (n := i + 1) h1 (wrap_nat1 (by have := h1.short; omega)) (by omega) fun w2 r2 k2 => ?_
    refine parse_reader_figure.cal (fig_F r2 (by omega) fun w3 k3 => ?_)
    cases hf : figS l en (i + 1) with
    | no e p => rw [hf] at hq; exact hq w3 ((k1.ext.trans (k2.trans k3)).mono fun q _ e => .inl e)
    | ok f j =>
      rw [hf] at hq
      intro r3
      refine cnd_of rfl ?_
      refine newC_B fun w4 b4 k4 s4 => ?_
      rw [List.append_nil] at b4
      have k13 : Keep (· = rb) w w4 := k1.ext.trans (k2.trans (k3.trans k4.ext))
      have hl4 : Lst w4 49 2 Fg.enc s.a s.n s.c ns := hl.keep k13 fun q hq' e => by have := hs q hq'; omega
      refine app_fig hl4 hn (fun q u hu => by rw [add_mk, Nat.zero_add, b4.cell]; exact hu) fun s' w5 l5 k5 i5 => ?_
      refine hq w5 ((k13.mono fun q _ e => .inl e).trans (k5.mono fun q _ e => .inr e)) s' ((r3.ext k4).keep k5 fun q e => hs q e) l5 fun q hq' => ?_
      rcases i5 q hq' with g | g
      · exact .inl g
      · exact .inr (by have := k13.size; omega)
  · rename_i hk
    rw [if_pos (by simpa using hk)] at hq
    exact hq w1 k1.ext s h1 (hl.ext k1) fun q hq' => .inl hq'
end
end Go.Proofs.YtllgjjldnnmjkaaDoor
