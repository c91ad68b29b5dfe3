/-
  The parser's clauses: the code comes to 'clauseS'. No condition.
-/
import Derived.Test.YtllgjjldnnmjkaaDoorParse3
set_option linter.unusedVariables false
set_option linter.unusedSimpArgs false
set_option maxRecDepth 100000
namespace Go.Proofs.YtllgjjldnnmjkaaDoor
open Go.RowKit

section
variable {Z : List PanicEntry → PT} {w0 w : World} {lo bt rb mb b0 tb cb : Nat} {l : List Tk} {en : Int} {i : Nat} {m : List (ByteArray × Int)}
theorem clause_F {Q : List Value → PT} (h : RdAt w lo bt rb l en i) (hi : i ≤ l.length) (hm : MapB w mb m) (hmb : lo ≤ mb) (h1 : ∀ p ∈ m, p.2 = 1)
    (hz : ∀ e p w', clauseS l en (m.map Prod.fst) i = .no e p → Keep (fun k => k = rb ∨ k = mb) w w' → Z (faultV e p) w')
    (hq : ∀ c j, clauseS l en (m.map Prod.fst) i = .ok c j → ClQ Z Q w lo bt rb mb l en (m ++ [(c.word, 1)]) c j) : parse_reader_clause.F Z Q (some ⟨rb, 0, none⟩) (some mb) w := by
  have hlo := h.lo_le
  have hrb := h.lt
  have hml := hm.lt
  unfold parse_reader_clause.F parse_reader_clause.s98
  refine newC_B fun w1 b1 k1 s1 => ?_
  refine parse_reader_peek.cal (peek_F (h.ext k1) fun w2 h2 k2 => ?_)
  generalize ht : peekS l en i = t at hz hq ⊢
  refine newC_B fun w3 b3 k3 s3 => ?_
  refine stN_B b3 (by simp) rfl (Tk.enc_one _) fun w4 b4 k4 => ?_
  have z1 := b1.lt
  have z2 := k2.size
  have z3 := k3.size
  have z4 := k4.size
  replace b4 : IsB w4 w2.heap.size t.enc := by simpa [lay, Tk.enc] using b4
  simp only [add_mk, Nat.zero_add]
  refine ldS_of (b4.cell 2) ?_
  refine ldI_B b4 rfl ?_
  refine newC_B fun w5 b5 k5 s5 => ?_
  refine stN_B b5 (by simp) rfl (by simp [Value.oneCell']) fun w6 b6 k6 => ?_
  have z5 := k5.size
  replace b6 : IsB w6 w4.heap.size (clEnc (⟨t.text, t.pos, [], false, false⟩, ⟨none, 0, 0⟩)) := by simpa [lay, clEnc] using b6
  have e : ClEnv w lo bt rb mb w.heap.size w2.heap.size w4.heap.size := ⟨hrb, hlo, ⟨hmb, hml⟩, Nat.le_refl _, by omega, by omega⟩
  have e4 : Ext w w4 := ((k1.trans k2).trans k3).trans_new k4 fun q hq' g => by omega
  have e6 : Ext w w6 := (e4.trans k5).trans_new k6 fun q hq' g => by omega
  have st : ClSt w w6 lo bt rb mb w.heap.size w2.heap.size w4.heap.size l en t i ⟨t.text, t.pos, [], false, false⟩ ⟨none, 0, 0⟩ m := by
    refine ⟨⟨_, ((((b1.ext k2).ext k3).keep k4 (by omega)).ext k5).keep k6 (by omega), rfl⟩, (b4.ext k5).keep k6 (by omega), b6, Lst.nil, fun k ⟨p, hp, _⟩ => (by cases hp), ((((h2.ext k3).keep k4 fun q g => by omega).ext k5).keep k6 fun q g => by omega), hm.ext e6, e6.ext⟩
  clear b1 b3 b4 b5 b6 k1 k2 k3 k4 k5 k6 s1 s3 s5 h2 e4 e6 z1 z2 z3 z4 z5 w1 w3 w5
  generalize w.heap.size = b0 at *
  generalize w2.heap.size = tb at *
  generalize w4.heap.size = cb at *
  clear w2 w4
  unfold clauseS at hz hq
  simp only [ht] at hz hq
  -- behind both tests
  have there : (same t.text wSrc || same t.text wDst || same t.text wSport || same t.text wDport || same t.text wProto) ≠ false → i < l.length := fun g => by
    refine Classical.byContradiction fun hn => g ?_
    rw [← ht]
    unfold peekS
    rw [if_neg hn]
    simp only [same, ByteArray.toList_eq]
    rfl
  have read : (same t.text wSrc || same t.text wDst || same t.text wSport || same t.text wDport || same t.text wProto) ≠ false → (m.map Prod.fst).any (same t.text) = false → parse_reader_clause.s76 Z Q (some ⟨rb, 0, none⟩) (some mb) ⟨b0, 0, none⟩ ⟨tb, 0, none⟩ ⟨cb, 0, none⟩ w6 := fun g1 g2 => by
    rw [if_neg g1, if_neg (by rw [g2]; decide)] at hz hq
    have hno : mhas m t.text = false := by rw [mhas_same]; exact g2
    unfold parse_reader_clause.s76
    simp only [add_mk, Nat.zero_add]
    refine ldS_of (st.tok.cell 2) ?_
    refine look_B Tryd.underlying109 Tryd.underlying9 (by kernel_rfl) st.map ?_
    rw [mget_no hno]
    refine upd_B Tryd.underlying109 Tryd.underlying9 st.map hno fun w7 b7 k7 s7 => ?_
    have st7 : ClSt w w7 lo bt rb mb b0 tb cb l en t i ⟨t.text, t.pos, [], false, false⟩ ⟨none, 0, 0⟩ (m ++ [(t.text, 1)]) := by
      have := e.hlo; have := e.hmb; have := e.hrb; have := e.hb0; have := e.htb; have := e.hcb
      obtain ⟨⟨z, g1, g1'⟩, g2, g3, g4, g5, g6, g7, g8⟩ := st
      exact ⟨⟨z, g1.keep k7 (by omega), g1'⟩, g2.keep k7 (by omega), g3.keep k7 (by omega), Lst.nil, g5, g6.keep k7 fun q g => by omega, b7, g8.trans (k7.mono fun q _ g => .inr g)⟩
    simp only [nn_some, add_mk, Nat.zero_add]
    refine ldRd st7.rd ?_
    refine stRd (n := i + 1) st7.rd (wrap_nat1 (by have := h.short; omega)) (by omega) fun w8 r8 k8 => ?_
    have st8 := st7.step e k8 r8
    have hin : i + 1 ≤ l.length := there g1
    have : True := trivial
    refine parse_reader_figure.cal (fig_F st8.rd hin fun w9 k9 => ?_)
    cases hf : figS l en (i + 1) with
    | no e' p => rw [hf] at hz; exact hz e' p w9 rfl (st8.kept.trans (k9.mono fun q _ g => .inl g))
    | ok f j =>
      rw [hf] at hz hq
      simp only at hz hq
      intro r9
      obtain ⟨hj, _⟩ := figS_at hf
      have st9 := st8.step e k9 r9
      refine cnd_of rfl ?_
      show newC _ (f.enc ++ []) _ _
      rw [List.append_nil]
      refine newC_E fun wa ba ka sa => ?_
      have sta := st9.ext e ka
      have lt := st9.cl.lt
      have sz := st9.kept.size
      have ltt := st9.tok.lt
      obtain ⟨z, gz, gz'⟩ := st9.out
      have ltz := gz.lt
      refine st1_B sta.cl (by simp [clEnc]) rfl fun wb bb kb => ?_
      have n := e.hcb
      refine cl_s73 (j := j) (f := f) (s := ⟨some ⟨w9.heap.size, 0, none⟩, 1, 1⟩) (sta.cell e bb kb rfl ?_ ?_) e (by omega) (fun e' p w' hh hk => hz e' p w' hh hk) fun c j' hh => ?_
      · exact Lst.one ba rfl
      · rintro k ⟨p, hp, rfl⟩
        cases hp
        exact ⟨by simp only; omega, by simp only; omega, by simp only; omega, by simp only; omega⟩
      · have hw : c.word = t.text := by
          split at hh
          · split at hh
            · cases hh
            · split at hh
              · cases hh
              · cases hh; rfl
          · split at hh
            · split at hh
              · cases hh
              · cases hh; rfl
            · cases hh; rfl
        have := hq c j' hh
        rw [hw] at this
        exact this
  -- the second test
  have second : (same t.text wSrc || same t.text wDst || same t.text wSport || same t.text wDport || same t.text wProto) ≠ false → parse_reader_clause.s78 Z Q (some ⟨rb, 0, none⟩) (some mb) ⟨b0, 0, none⟩ ⟨tb, 0, none⟩ ⟨cb, 0, none⟩ w6 := fun g1 => by
    unfold parse_reader_clause.s78
    simp only [add_mk, Nat.zero_add]
    refine ldS_of (st.tok.cell 2) ?_
    refine look_B Tryd.underlying109 Tryd.underlying9 (by kernel_rfl) st.map ?_
    show pif (decide (mget m t.text > 0)) _ _ w6
    cases hb : mhas m t.text with
    | true =>
      rw [mget_one h1 hb]
      show cal _ _ _ _ _ w6
      refine parse_reader_fail.cal (fail_F st.rd fun w7 k7 => ?_)
      rw [ht]
      refine hz 9 t.pos w7 ?_ (st.kept.trans k7.ext)
      rw [if_neg g1, if_pos (by rw [← mhas_same]; exact hb)]
    | false =>
      rw [mget_no hb]
      exact read g1 (by rw [← mhas_same]; exact hb)
  have first : ∀ b : Bool, b = (same t.text wSrc || same t.text wDst || same t.text wSport || same t.text wDport || same t.text wProto) → parse_reader_clause.s88 Z Q (some ⟨rb, 0, none⟩) (some mb) ⟨b0, 0, none⟩ ⟨tb, 0, none⟩ ⟨cb, 0, none⟩ b w6 := fun b hb => by
    unfold parse_reader_clause.s88
    cases b with
    | true => exact second (by rw [← hb]; decide)
    | false =>
      rw [pif_false]
      refine parse_reader_fail.cal (fail_F st.rd fun w7 k7 => ?_)
      rw [ht]
      refine hz 8 t.pos w7 ?_ (st.kept.trans k7.ext)
      rw [if_pos hb.symm]
  unfold parse_reader_clause.s95
  simp only [add_mk, Nat.zero_add]
  refine ldS_of (st.tok.cell 2) ?_
  show parse_reader_clause.s92 Z Q _ _ _ _ _ t.text w6
  unfold parse_reader_clause.s92
  show pif (same t.text wSrc) (parse_reader_clause.s88 Z Q _ _ _ _ _ (same t.text wSrc)) (pif (same t.text wDst) (parse_reader_clause.s88 Z Q _ _ _ _ _ (same t.text wDst)) (pif (same t.text wSport) (parse_reader_clause.s88 Z Q _ _ _ _ _ (same t.text wSport)) (pif (same t.text wDport) (parse_reader_clause.s88 Z Q _ _ _ _ _ (same t.text wDport)) (parse_reader_clause.s88 Z Q _ _ _ _ _ (same t.text wProto))))) w6
  rw [pif_bool]; split
  · rename_i g; rw [g]; exact first true (by simp [g])
  rename_i g1
  rw [pif_bool]; split
  · rename_i g; rw [g]; exact first true (by simp [g])
  rename_i g2
  rw [pif_bool]; split
  · rename_i g; rw [g]; exact first true (by simp [g])
  rename_i g3
  rw [pif_bool]; split
  · rename_i g; rw [g]; exact first true (by simp [g])
  rename_i g4
  exact first _ (by simp [g1, g2, g3, g4])
end
end Go.Proofs.YtllgjjldnnmjkaaDoor
