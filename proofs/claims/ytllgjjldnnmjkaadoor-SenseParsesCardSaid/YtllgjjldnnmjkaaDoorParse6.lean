/-
  The parser's lines, whole. No condition.
-/
import Derived.Test.YtllgjjldnnmjkaaDoorParse5
set_option linter.unusedVariables false
set_option linter.unusedSimpArgs false
set_option maxRecDepth 100000
namespace Go.Proofs.YtllgjjldnnmjkaaDoor
open Go.RowKit

section
variable {Z : List PanicEntry → PT} {w0 w : World} {lo bt rb ob xb mb : Nat} {l : List Tk} {en : Int} {F : Nat → Prop}
def words1 (cs : List Cl) : List (ByteArray × Int) := cs.map fun c => (c.word, 1)
theorem words1_fst (cs : List Cl) : (words1 cs).map Prod.fst = cs.map Cl.word := by simp [words1]
theorem ln_loop {Q : List Value → PT} (e : LnEnv w0 F lo bt rb ob xb) (hmF : ∀ k, F k → k ≠ mb) (hmb : lo ≤ mb) (hFn : ∀ k, xb < k → k ≠ mb → F k) (hmx : xb ≠ mb ∧ ob ≠ mb ∧ w0.heap.size ≤ mb) :
    ∀ (m j : Nat) (x : Rw) (s : Sl3) (w : World), l.length ≤ j + m → LnSt w0 w F lo bt rb ob xb l en j x s → MapB w mb (words1 x.clauses) → j ≤ l.length → x.clauses.length ≤ j →
    (∀ e' p w', (match clausesS l en m j x.clauses with
      | .no e p => (.no e p : Res Rw)
      | .ok cs k => actS l en { x with clauses := cs } k) = .no e' p → Keep (· = rb) w0 w' → Z (faultV e' p) w') →
    (∀ y k, (match clausesS l en m j x.clauses with
      | .no e p => (.no e p : Res Rw)
      | .ok cs k => actS l en { x with clauses := cs } k) = .ok y k → LnQ Q w0 F lo bt rb l en y k) →
    parse_reader_line.l55 Z Q (m + 1) (some ⟨rb, 0, none⟩) ⟨ob, 0, none⟩ ⟨xb, 0, none⟩ (some mb) w
  | m, j, x, s, w, hlen, h, hm, hj, hcl, hz, hq => by
    have := e.hlo; have := e.hrb; have := e.hob; have := e.hxb
    unfold parse_reader_line.l55 parse_reader_line.s57
    refine parse_reader_peek.cal (peek_F h.rd fun w1 r1 k1 => ?_)
    have h1 := h.ext e k1
    have m1 := hm.ext k1
    refine ptI_of (n := (peekS l en j).kind) rfl ?_
    rw [pif_beq]
    split
    · rename_i hk
      have hin := peekS_in (l := l) (en := en) (i := j) (by omega)
      cases m with
      | zero => omega
      | succ m =>
        unfold clausesS at hz hq
        rw [if_pos hk] at hz hq
        refine drawn_of (fun w' => IsB w' xb (rwEnc (x, s))) h1.cell.drew ?_
        have h1 := h1.ext e Keep.refl.drew
        have m1 : MapB w1.drew mb _ := m1.ext Keep.refl.drew
        generalize w1.drew = w1' at h1 m1 ⊢
        rw [add_mk]
        refine hL_of (fun w' hw' => hw'.cell 4) ?_
        refine parse_reader_clause.cal (clause_F h1.rd hj m1 hmb (by simp [words1]) (fun e' p w2 hc k2 => ?_) fun c j2 hc => ?_)
        · rw [words1_fst] at hc
          rw [hc] at hz
          refine hz e' p w2 rfl (h1.kept.trans_new k2 fun q hq' g => ?_)
          rcases g with g | g
          · exact g
          · omega
        · rw [words1_fst] at hc
          rw [hc] at hz hq
          simp only at hz hq
          obtain ⟨c1, c2, c3⟩ := clauseS_at hc
          intro sc w2 k2 r2 m2 n2 i2
          have kk2 : Keep (· = rb) w0 w2 := h1.kept.trans_new k2 fun q hq' g => by
            rcases g with g | g
            · exact g
            · omega
          obtain ⟨⟨z, g1, g1'⟩, g2, g3, g4, g5⟩ := h1
          have lt1 := g1.lt; have lt2 := g2.lt; have ltm := m1.lt
          have h2 : LnSt w0 w2 F lo bt rb ob xb l en j2 x s := ⟨⟨z, g1.keep k2 (by omega), g1'⟩, g2.keep k2 (by omega), g3.keep k2 (fun q hf g => by
            have := e.hF q hf
            rcases g with g | g
            · omega
            · exact hmF q hf g), r2, kk2⟩
          refine sAnd_of h2.cell (cnd_of (clEnc_len _) ?_)
          refine newC_B fun w3 b3 k3 s3 => ?_
          rw [List.append_nil] at b3
          have h3 := h2.ext e k3
          refine sAnd_of h3.cell ?_
          have sz2 := k2.size
          have hnew : ∀ k, w2.heap.size ≤ k → F k := fun k hk => hFn k (by omega) (by have := m2.lt; omega)
          have sz3 := k3.size
          have nc : NumsAt w3 (fun k => F k ∧ ¬ inB s.a k) sc c.nums := ⟨n2.ext k3, fun k hk => ⟨hFn k (by have := i2 k hk; omega) (by have := i2 k hk; omega), fun g => by
            obtain ⟨ps, p1, p2, p3, p4⟩ := g3
            have := p2.lt g
            have := i2 k hk
            omega⟩⟩
          refine app_cls h3.cls nc (fun k hk => hnew k (by omega)) (by have := h.rd.short; omega) (fun q u hu => by rw [add_mk, Nat.zero_add, b3.cell]; exact hu) fun s' w4 l4 k4 i4 => ?_
          obtain ⟨ps, p1, p2, p3, p4⟩ := h3.cls
          have nF : ∀ q, inB s.a q → F q := p3
          have b4 := h3.cell.keep k4 fun g => (e.hF _ (nF _ g)).2.2 rfl
          refine sAnd_of b4 ?_
          have kk4 : Keep (· = rb) w0 w4 := h3.kept.trans_new k4 fun q hq' g => by have := (e.hF _ (nF _ g)).1; omega
          have r4 : RdAt w4 lo bt rb l en j2 := h3.rd.keep k4 fun q g => by have := (e.hF _ (nF _ g)).1; omega
          have m4 : MapB w4 mb (words1 (x.clauses ++ [c])) := by
            have : words1 (x.clauses ++ [c]) = words1 x.clauses ++ [(c.word, 1)] := by simp [words1]
            rw [this]
            exact (m2.ext k3).keep k4 fun g => hmF _ (nF _ g) rfl
          obtain ⟨z3, o3, o3'⟩ := h3.out
          have o4 := o3.keep k4 fun g => (e.hF _ (nF _ g)).2.1 rfl
          refine st1_B b4 (by simp [rwEnc]) rfl fun w5 b5 k5 => ?_
          have h5 : LnSt w0 w5 F lo bt rb ob xb l en j2 { x with clauses := x.clauses ++ [c] } s' :=
            ⟨⟨z3, o4.keep k5 (by omega), o3'⟩, b5, l4.keep k5 fun q g g' => (e.hF q g).2.2 g', r4.keep k5 fun q g => by omega, kk4.trans_new k5 fun q hq' g => by omega⟩
          exact ln_loop e hmF hmb hFn hmx m j2 _ s' w5 (by omega) h5 (m4.keep k5 (by omega)) c2 (by simp; omega) hz hq
    · rename_i hk
      have hcs : clausesS l en m j x.clauses = .ok x.clauses j := by
        cases m with
        | zero => rfl
        | succ m => unfold clausesS; rw [if_neg hk]
      rw [hcs] at hz hq
      exact ln_act h1 e hj hz hq

theorem line_F {Q : List Value → PT} {i : Nat} (h : RdAt w lo bt rb l en i) (hi : i ≤ l.length)
    (hz : ∀ e p w', lineS l en i = .no e p → Keep (· = rb) w w' → Z (faultV e p) w')
    (hq : ∀ x j, lineS l en i = .ok x j → LnQ Q w (fun k => w.heap.size ≤ k) lo bt rb l en x j) : parse_reader_line.F Z Q (some ⟨rb, 0, none⟩) w := by
  have hlo := h.lo_le
  have hrb := h.lt
  unfold parse_reader_line.F parse_reader_line.s71
  refine newC_B fun w1 b1 k1 s1 => ?_
  refine parse_reader_peek.cal (peek_F (h.ext k1) fun w2 h2 k2 => ?_)
  refine newC_B fun w3 b3 k3 s3 => ?_
  refine stN_B b3 (by simp) rfl (Tk.enc_one _) fun w4 b4 k4 => ?_
  have z1 := b1.lt; have z2 := k2.size; have z3 := k3.size; have z4 := k4.size
  unfold lineS at hz hq
  simp only at hz hq
  generalize ht : peekS l en i = t at hz hq b4
  replace b4 : IsB w4 w2.heap.size t.enc := by simpa [lay, Tk.enc] using b4
  simp only [add_mk, Nat.zero_add]
  refine ldI_B b4 rfl ?_
  refine newC_B fun w5 b5 k5 s5 => ?_
  refine stN_B b5 (by simp) rfl (by simp [Value.oneCell']) fun w6 b6 k6 => ?_
  have z5 := k5.size
  have z6 := k6.size
  replace b6 : IsB w6 w4.heap.size (rwEnc (rw0 t.pos, ⟨none, 0, 0⟩)) := by simpa [lay, rwEnc, rw0] using b6
  have e4 : Ext w w4 := ((k1.trans k2).trans k3).trans_new k4 fun q hq' g => by omega
  have e6 : Ext w w6 := (e4.trans k5).trans_new k6 fun q hq' g => by omega
  have e : LnEnv w (fun k => w.heap.size ≤ k ∧ k ≠ w.heap.size ∧ k ≠ w4.heap.size) lo bt rb w.heap.size w4.heap.size := ⟨hrb, hlo, Nat.le_refl _, by omega, fun k hk => hk⟩
  have st : LnSt w w6 (fun k => w.heap.size ≤ k ∧ k ≠ w.heap.size ∧ k ≠ w4.heap.size) lo bt rb w.heap.size w4.heap.size l en i (rw0 t.pos) ⟨none, 0, 0⟩ :=
    ⟨⟨_, ((((b1.ext k2).ext k3).keep k4 (by omega)).ext k5).keep k6 (by omega), rfl⟩, b6, ClsAt.nil, ((((h2.ext k3).keep k4 fun q g => by omega).ext k5).keep k6 fun q g => by omega), e6.ext⟩
  have btk : IsB w6 w2.heap.size t.enc := (b4.ext k5).keep k6 (by omega)
  have hxlt := st.cell.lt
  have hob : w.heap.size < w4.heap.size := by omega
  clear b1 b3 b4 b5 b6 k1 k2 k3 k4 k5 k6 s1 s3 s5 h2 e4 e6 z1 z2 z3 z4 z5 z6
  generalize w4.heap.size = xb at *
  generalize w2.heap.size = tb at *
  have mono : ∀ {G : Nat → Prop} {x : Rw} {j : Nat}, (∀ k, G k → w.heap.size ≤ k) → LnQ Q w (fun k => w.heap.size ≤ k) lo bt rb l en x j → LnQ Q w G lo bt rb l en x j := fun hg hh s w' a1 a2 a3 => hh s w' a1 a2 (a3.mono fun k _ g => hg k g)
  -- no default
  have other : ¬ (t.kind = 1 ∧ same t.text wDefault = true) → parse_reader_line.s65 Z Q (some ⟨rb, 0, none⟩) ⟨w.heap.size, 0, none⟩ ⟨xb, 0, none⟩ w6 := fun hn => by
    rw [if_neg hn] at hz hq
    unfold parse_reader_line.s65
    refine parse_reader_figure.cal (fig_F st.rd hi fun w7 k7 => ?_)
    cases hf : figS l en i with
    | no e' p => rw [hf] at hz; exact hz e' p w7 rfl (st.kept.trans k7)
    | ok f j =>
      rw [hf] at hz hq
      simp only at hz hq
      intro r7
      obtain ⟨f1, f2⟩ := figS_at hf
      have h7 := st.step e k7 r7
      rw [add_mk, Nat.zero_add]
      refine stN_B h7.cell (by simp [rwEnc]) rfl (Fg.enc_one f) fun w8 b8 k8 => ?_
      have h8 : LnSt w w8 _ lo bt rb w.heap.size xb l en j { rw0 t.pos with prio := f } ⟨none, 0, 0⟩ := h7.put e (by simpa [lay, rwEnc, Fg.enc] using b8) k8 h7.cls
      refine mkmap_B fun w9 m9 k9 s9 => ?_
      have h9 := h8.ext e k9
      have lt8 := h8.cell.lt
      have sz8 := h8.kept.size
      obtain ⟨g1, g2, g3, g4, g5⟩ := h9
      refine exK_of (l.length - j + 1) (ln_loop (F := fun k => (w.heap.size ≤ k ∧ k ≠ w.heap.size ∧ k ≠ xb) ∧ k ≠ w8.heap.size) (mb := w8.heap.size) ⟨e.hrb, e.hlo, e.hob, e.hxb, fun k hk => hk.1⟩ (fun k hk => hk.2) (by omega) (fun k hk hk2 => ⟨⟨by omega, by omega, by omega⟩, hk2⟩) ⟨by omega, by omega, by omega⟩ (l.length - j) j { rw0 t.pos with prio := f } ⟨none, 0, 0⟩ w9 (by omega) ⟨g1, g2, ClsAt.nil, g4, g5⟩ m9 (by omega) (by simp [rw0]) (fun e' p w' hh hk => ?_) fun y k hh => ?_)
      · exact hz e' p w' hh hk
      · exact mono (fun k hk => hk.1.1) (hq y k hh)
  unfold parse_reader_line.s68
  simp only [add_mk, Nat.zero_add]
  refine ldI_B btk rfl ?_
  rw [pif_beq]
  split
  · rename_i hk1
    refine ldS_of (btk.cell 2) ?_
    show pif (same t.text wDefault) _ _ w6
    rw [pif_bool]
    split
    · rename_i hd
      rw [if_pos ⟨hk1, hd⟩] at hz hq
      have hin := peekS_in (l := l) (en := en) (i := i) (by rw [ht]; omega)
      unfold parse_reader_line.s44
      simp only [add_mk, Nat.zero_add]
      refine st.put1 (x' := { rw0 t.pos with default := true }) e (by decide) rfl rfl rfl fun w7 h7 => ?_
      simp only [nn_some, add_mk, Nat.zero_add]
      refine ldRd h7.rd ?_
      refine stRd (n := i + 1) h7.rd (wrap_nat1 (by have := h.short; omega)) (by omega) fun w8 r8 k8 => ?_
      exact ln_act (h7.step e k8 r8) e (by omega) hz fun y k hh => mono (fun k hk => hk.1) (hq y k hh)
    · rename_i hd
      exact other (fun g => hd g.2)
  · rename_i hk1
    exact other (fun g => hk1 g.1)
end
end Go.Proofs.YtllgjjldnnmjkaaDoor
