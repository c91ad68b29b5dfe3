/-
  The parser's lines: the code comes to 'lineS', or panics with the fault. No condition.
-/
import Derived.Test.YtllgjjldnnmjkaaDoorParse4
set_option linter.unusedVariables false
set_option linter.unusedSimpArgs false
set_option maxRecDepth 100000
namespace Go.Proofs.YtllgjjldnnmjkaaDoor
open Go.RowKit

section
variable {Z : List PanicEntry → PT} {w0 w : World} {lo bt rb ob xb : Nat} {l : List Tk} {en : Int} {F : Nat → Prop}
/-- What lies there while a line is read. -/
structure LnSt (w0 w : World) (F : Nat → Prop) (lo bt rb ob xb : Nat) (l : List Tk) (en : Int) (j : Nat) (x : Rw) (s : Sl3) : Prop where
  out : ∃ z, IsB w ob z ∧ z.length = 8
  cell : IsB w xb (rwEnc (x, s))
  cls : ClsAt w F s x.clauses
  rd : RdAt w lo bt rb l en j
  kept : Keep (· = rb) w0 w
structure LnEnv (w0 : World) (F : Nat → Prop) (lo bt rb ob xb : Nat) : Prop where
  hrb : rb < lo
  hlo : lo ≤ w0.heap.size
  hob : w0.heap.size ≤ ob
  hxb : ob < xb
  hF : ∀ k, F k → w0.heap.size ≤ k ∧ k ≠ ob ∧ k ≠ xb
variable {x : Rw} {s : Sl3}
theorem LnSt.keep {w' : World} {S : Nat → Prop} {j : Nat} (h : LnSt w0 w F lo bt rb ob xb l en j x s) (e : LnEnv w0 F lo bt rb ob xb) (k : Keep S w w') (hs : ∀ q, S q → w0.heap.size ≤ q ∧ q ≠ ob ∧ q ≠ xb ∧ ¬ F q) : LnSt w0 w' F lo bt rb ob xb l en j x s := by
  obtain ⟨⟨z, h1, h1'⟩, h2, h3, h4, h5⟩ := h
  have := e.hlo
  exact ⟨⟨z, h1.keep k fun g => (hs _ g).2.1 rfl, h1'⟩, h2.keep k fun g => (hs _ g).2.2.1 rfl, h3.keep k fun q g g' => (hs q g').2.2.2 g, h4.keep k fun q g => by have := (hs q g).1; omega, h5.trans_new k fun q hq g => by have := (hs q g).1; omega⟩
theorem LnSt.ext {w' : World} {j : Nat} (h : LnSt w0 w F lo bt rb ob xb l en j x s) (e : LnEnv w0 F lo bt rb ob xb) (k : Ext w w') : LnSt w0 w' F lo bt rb ob xb l en j x s := h.keep e k fun _ g => g.elim
theorem LnSt.step {w' : World} {j j' : Nat} (h : LnSt w0 w F lo bt rb ob xb l en j x s) (e : LnEnv w0 F lo bt rb ob xb) (k : Keep (· = rb) w w') (hr : RdAt w' lo bt rb l en j') : LnSt w0 w' F lo bt rb ob xb l en j' x s := by
  obtain ⟨⟨z, h1, h1'⟩, h2, h3, h4, h5⟩ := h
  have := e.hlo; have := e.hrb; have := e.hob; have := e.hxb
  exact ⟨⟨z, h1.keep k (by omega), h1'⟩, h2.keep k (by omega), h3.keep k fun q g g' => by have := (e.hF q g).1; omega, hr, h5.trans k⟩
/-- The line's cell is written. -/
theorem LnSt.put {w' : World} {j : Nat} {x' : Rw} {s' : Sl3} (h : LnSt w0 w F lo bt rb ob xb l en j x s) (e : LnEnv w0 F lo bt rb ob xb) (hb : IsB w' xb (rwEnc (x', s'))) (k : Keep (· = xb) w w') (hc : ClsAt w F s' x'.clauses) : LnSt w0 w' F lo bt rb ob xb l en j x' s' := by
  obtain ⟨⟨z, h1, h1'⟩, h2, h3, h4, h5⟩ := h
  have := e.hlo; have := e.hrb; have := e.hob; have := e.hxb
  exact ⟨⟨z, h1.keep k (by omega), h1'⟩, hb, hc.keep k fun q g g' => (e.hF q g).2.2 g', h4.keep k fun q g => by omega, h5.trans_new k fun q hq g => by omega⟩
theorem LnSt.put1 {K : PT} {j : Nat} {x' : Rw} {q : Nat} {v : Value} (h : LnSt w0 w F lo bt rb ob xb l en j x s) (e : LnEnv w0 F lo bt rb ob xb) (hq : q < 8) (hv : v.oneCell' = true) (he : (rwEnc (x, s)).set q v = rwEnc (x', s)) (hc : x'.clauses = x.clauses) (hk : ∀ w', LnSt w0 w' F lo bt rb ob xb l en j x' s → K w') : st1 ⟨xb, q, none⟩ v K w :=
  st1_B h.cell (by simp [rwEnc]; omega) hv fun w' b' k' => hk w' (h.put e (by rw [← he]; exact b') k' (by rw [hc]; exact h.cls))

/-- What is asked behind a line. -/
def LnQ (Q : List Value → PT) (w0 : World) (F : Nat → Prop) (lo bt rb : Nat) (l : List Tk) (en : Int) (x : Rw) (j : Nat) : Prop := ∀ (s : Sl3) w', Keep (· = rb) w0 w' → RdAt w' lo bt rb l en j → ClsAt w' F s x.clauses → Q (rwEnc (x, s)) w'
theorem ln_fin {Q : List Value → PT} {j : Nat} (h : LnSt w0 w F lo bt rb ob xb l en j x s) (e : LnEnv w0 F lo bt rb ob xb) (hq : LnQ Q w0 F lo bt rb l en x j) : ldN 8 ⟨xb, 0, none⟩ (fun v => stN 8 ⟨ob, 0, none⟩ v (ldN 8 ⟨ob, 0, none⟩ fun u => Q u)) w := by
  obtain ⟨⟨z, h1, h1'⟩, h2, h3, h4, h5⟩ := h
  have := e.hlo; have := e.hrb; have := e.hob; have := e.hxb
  refine ldN_B h2 (vs := rwEnc (x, s)) rfl rfl ?_
  refine stN_B h1 (by omega) rfl (rwEnc_one _) fun w1 b1 k1 => ?_
  replace b1 : IsB w1 ob (rwEnc (x, s)) := by
    have : lay z 0 (rwEnc (x, s)) = rwEnc (x, s) := by
      unfold lay
      rw [List.take_zero, List.drop_eq_nil_of_le (by rw [rwEnc_len]; omega)]
      simp
    rwa [this] at b1
  refine ldN_B b1 (vs := rwEnc (x, s)) rfl rfl ?_
  exact hq s w1 (h5.trans_new k1 fun q hq g => by omega) (h4.keep k1 fun q g => by omega) (h3.keep k1 fun q g g' => (e.hF q g).2.1 g')
/-- A token is looked at: it is laid into a cell. -/
theorem ln_peek {K : Addr → PT} {j : Nat} (h : LnSt w0 w F lo bt rb ob xb l en j x s) (e : LnEnv w0 F lo bt rb ob xb) (hk : ∀ w' b, IsB w' b (peekS l en j).enc → LnSt w0 w' F lo bt rb ob xb l en j x s → K ⟨b, 0, none⟩ w') :
    parse_reader_peek.F Z (fun v => newC 79 [.int .i64 0, .int .i64 0, .string ⟨#[]⟩, .int .i64 0] fun a => stN 4 a v (K a)) (some ⟨rb, 0, none⟩) w := by
  refine peek_F h.rd fun w1 r1 k1 => ?_
  refine newC_B fun w2 b2 k2 s2 => ?_
  refine stN_B b2 (by simp) rfl (Tk.enc_one _) fun w3 b3 k3 => ?_
  replace b3 : IsB w3 w1.heap.size (peekS l en j).enc := by simpa [lay, Tk.enc] using b3
  have h2 := (h.ext e k1).ext e k2
  have l1 := (h.ext e k1).cell.lt
  have hs1 := (h.ext e k1).cls
  have sz := h.kept.size
  have sz1 := k1.size
  obtain ⟨z, o1, o2⟩ := (h.ext e k1).out
  have lo1 := o1.lt
  -- the new cell is none of F's that matter: the clauses are kept by their own places
  obtain ⟨⟨z', g1, g1'⟩, g2, g3, g4, g5⟩ := h2
  refine hk w3 _ b3 ⟨⟨z', g1.keep k3 (by omega), g1'⟩, g2.keep k3 (by omega), ?_, g4.keep k3 fun q g => by have := e.hlo; omega, g5.trans_new k3 fun q hq g => by omega⟩
  have g3' : ClsAt w2 (fun k => F k ∧ k < w1.heap.size) s x.clauses := ((hs1.mono (G := fun k => F k ∧ k < w1.heap.size) fun k hk hf => ⟨hf, hk⟩).keep k2 fun _ _ g => g)
  exact (g3'.keep k3 fun q hq g => by have := hq.2; omega).mono fun k _ hf => hf.1

theorem ln_tail {Q : List Value → PT} {j : Nat} (h : LnSt w0 w F lo bt rb ob xb l en j x s) (e : LnEnv w0 F lo bt rb ob xb)
    (hz : ∀ e' p w', tailS l en x j = .no e' p → Keep (· = rb) w0 w' → Z (faultV e' p) w') (hq : ∀ y k, tailS l en x j = .ok y k → LnQ Q w0 F lo bt rb l en y k) : parse_reader_line.s15 Z Q (some ⟨rb, 0, none⟩) ⟨ob, 0, none⟩ ⟨xb, 0, none⟩ w := by
  unfold parse_reader_line.s15
  refine parse_reader_peek.cal (ln_peek h e fun w1 b h1 st1 => ?_)
  simp only [add_mk, Nat.zero_add]
  unfold tailS at hz hq
  refine ldI_B h1 rfl ?_
  rw [pif_bne]
  split
  · rename_i h7
    rw [if_neg (by intro g; exact g.1 h7)] at hq
    exact ln_fin st1 e (hq x j rfl)
  · rename_i h7
    refine ldI_B h1 rfl ?_
    rw [pif_bne]
    split
    · rename_i h0
      rw [if_neg (by intro g; exact g.2 h0)] at hq
      exact ln_fin st1 e (hq x j rfl)
    · rename_i h0
      rw [if_pos ⟨h7, h0⟩] at hz
      refine parse_reader_fail.cal (fail_F st1.rd fun w2 k2 => ?_)
      exact hz _ _ w2 rfl (st1.kept.trans k2.ext)
theorem ln_act {Q : List Value → PT} {j : Nat} (h : LnSt w0 w F lo bt rb ob xb l en j x s) (e : LnEnv w0 F lo bt rb ob xb) (hj : j ≤ l.length)
    (hz : ∀ e' p w', actS l en x j = .no e' p → Keep (· = rb) w0 w' → Z (faultV e' p) w') (hq : ∀ y k, actS l en x j = .ok y k → LnQ Q w0 F lo bt rb l en y k) : parse_reader_line.s36 Z Q (some ⟨rb, 0, none⟩) ⟨ob, 0, none⟩ ⟨xb, 0, none⟩ w := by
  unfold parse_reader_line.s36
  refine parse_reader_want.cal (want_F h.rd hj fun w1 k1 => ?_)
  unfold actS at hz hq
  cases hw : wantS l en 6 j with
  | no e' p => rw [hw] at hz; exact hz e' p w1 rfl (h.kept.trans k1)
  | ok t j1 =>
    rw [hw] at hz hq
    simp only at hz hq
    intro r1
    have h1 := h.step e k1 r1
    obtain ⟨hj1, ht1, hkd⟩ := wantS_at hw
    have hin := peekS_in (l := l) (en := en) (i := j) (by omega)
    unfold parse_reader_line.s33
    refine parse_reader_peek.cal (ln_peek h1 e fun w2 b b2 h2 => ?_)
    unfold parse_reader_line.s30
    simp only [add_mk, Nat.zero_add]
    generalize ht : peekS l en j1 = t2 at hz hq b2
    -- no drop
    have other : ¬ (t2.kind = 1 ∧ same t2.text wDrop = true) → parse_reader_line.s26 Z Q (some ⟨rb, 0, none⟩) ⟨ob, 0, none⟩ ⟨xb, 0, none⟩ ⟨b, 0, none⟩ false w2 := fun hn => by
      rw [if_neg hn] at hz hq
      unfold parse_reader_line.s26
      rw [pif_false]
      simp only [add_mk, Nat.zero_add]
      refine ldI_B b2 rfl ?_
      have bad : ¬ (t2.kind = 1 ∧ same t2.text wPort = true) → cal Tryd.prog Z 38 [.pointer (some ⟨rb, 0, none⟩), .int .i64 8] (isU (parse_reader_line.s15 Z Q (some ⟨rb, 0, none⟩) ⟨ob, 0, none⟩ ⟨xb, 0, none⟩)) w2 := fun hp => by
        rw [if_neg hp] at hz
        refine parse_reader_fail.cal (fail_F h2.rd fun w3 k3 => ?_)
        rw [ht]
        exact hz _ _ w3 rfl (h2.kept.trans k3.ext)
      rw [pif_beq]
      split
      · rename_i hk1
        refine ldS_of (b2.cell 2) ?_
        show pif (same t2.text wPort) _ _ w2
        rw [pif_bool]
        split
        · rename_i hp
          rw [if_pos ⟨hk1, hp⟩] at hz hq
          have hin1 := peekS_in (l := l) (en := en) (i := j1) (by rw [ht]; omega)
          simp only [nn_some, add_mk, Nat.zero_add]
          refine ldRd h2.rd ?_
          refine stRd (n := j1 + 1) h2.rd (wrap_nat1 (by have := h2.rd.short; omega)) (by omega) fun w3 r3 k3 => ?_
          have h3 := h2.step e k3 r3
          refine parse_reader_figure.cal (fig_F h3.rd (by omega) fun w4 k4 => ?_)
          cases hf : figS l en (j1 + 1) with
          | no e' p => rw [hf] at hz; exact hz e' p w4 rfl (h3.kept.trans k4)
          | ok f j2 =>
            rw [hf] at hz hq
            simp only at hz hq
            intro r4
            have h4 := h3.step e k4 r4
            refine stN_B h4.cell (by simp [rwEnc]) rfl (Fg.enc_one f) fun w5 b5 k5 => ?_
            have h5 : LnSt w0 w5 F lo bt rb ob xb l en j2 { x with port := f } s := h4.put e (by simpa [lay, rwEnc, Fg.enc] using b5) k5 h4.cls
            exact ln_tail h5 e hz hq
        · rename_i hp
          exact bad (fun g => hp g.2)
      · rename_i hk1
        exact bad (fun g => hk1 g.1)
    refine ldI_B b2 rfl ?_
    rw [pif_beq]
    split
    · rename_i hk1
      refine ldS_of (b2.cell 2) ?_
      show parse_reader_line.s26 Z Q _ _ _ _ (same t2.text wDrop) w2
      cases hd : same t2.text wDrop with
      | false => exact other (fun g => by rw [hd] at g; exact absurd g.2 (by decide))
      | true =>
        rw [if_pos ⟨hk1, hd⟩] at hz hq
        have hin1 := peekS_in (l := l) (en := en) (i := j1) (by rw [ht]; omega)
        unfold parse_reader_line.s26
        rw [pif_true]
        simp only [add_mk, Nat.zero_add]
        refine h2.put1 (x' := { x with drop := true }) e (by decide) rfl rfl rfl fun w3 h3 => ?_
        simp only [nn_some, add_mk, Nat.zero_add]
        refine ldRd h3.rd ?_
        refine stRd (n := j1 + 1) h3.rd (wrap_nat1 (by have := h3.rd.short; omega)) (by omega) fun w4 r4 k4 => ?_
        exact ln_tail (h3.step e k4 r4) e hz hq
    · rename_i hk1
      exact other (fun g => hk1 g.1)
end
end Go.Proofs.YtllgjjldnnmjkaaDoor
