/-
  The parser's clauses, whole. No condition.
-/
import Derived.Test.YtllgjjldnnmjkaaDoorParse2
set_option linter.unusedVariables false
set_option linter.unusedSimpArgs false
set_option maxRecDepth 100000
namespace Go.Proofs.YtllgjjldnnmjkaaDoor
open Go.RowKit

section
variable {Z : List PanicEntry → PT} {w0 w : World} {lo bt rb mb b0 tb cb : Nat} {l : List Tk} {en : Int} {t : Tk} {m : List (ByteArray × Int)}
theorem cl_dots {Q : List Value → PT} (e : ClEnv w0 lo bt rb mb b0 tb cb) : ∀ (k j : Nat) (c : Cl) (s : Sl3) (w : World), k ≤ 3 → ClSt w0 w lo bt rb mb b0 tb cb l en t j c s m → c.nums.length + k ≤ 10 → j ≤ l.length →
    (∀ e' p w', dotsS l en k j c.nums = .no e' p → Keep (fun k => k = rb ∨ k = mb) w0 w' → Z (faultV e' p) w') →
    (∀ ns j' s' w', dotsS l en k j c.nums = .ok ns j' → ClSt w0 w' lo bt rb mb b0 tb cb l en t j' { c with nums := ns } s' m → parse_reader_clause.s37 Z Q (some ⟨rb, 0, none⟩) ⟨b0, 0, none⟩ ⟨cb, 0, none⟩ w') →
    parse_reader_clause.l48 Z Q (k + 1) (some ⟨rb, 0, none⟩) ⟨b0, 0, none⟩ ⟨cb, 0, none⟩ (3 - k : Int) w
  | 0, j, c, s, w, hk, h, hn, hj, hz, hq => by
    unfold parse_reader_clause.l48 parse_reader_clause.s51
    rw [pif_dec, if_neg (by omega)]
    exact hq c.nums j s w rfl h
  | k + 1, j, c, s, w, hk, h, hn, hj, hz, hq => by
    have := e.hlo; have := e.hmb; have := e.hrb; have := e.hb0; have := e.htb; have := e.hcb
    unfold parse_reader_clause.l48 parse_reader_clause.s51
    rw [pif_dec, if_pos (by omega)]
    unfold dotsS at hz hq
    refine parse_reader_want.cal (want_F h.rd hj fun w1 k1 => ?_)
    have kk1 := h.kept.trans (k1.mono fun q _ g => .inl g : Keep (fun k => k = rb ∨ k = mb) w w1)
    cases hw : wantS l en 3 j with
    | no e' p => rw [hw] at hz; exact hz e' p w1 rfl kk1
    | ok t1 j1 =>
      rw [hw] at hz hq
      simp only at hz hq
      intro r1
      have h1 := h.step e k1 r1
      obtain ⟨hj1, ht1, hkd⟩ := wantS_at hw
      have hin := peekS_in (l := l) (en := en) (i := j) (by omega)
      refine drawn_of (fun w' => IsB w' cb (clEnc (c, s))) h1.cl.drew ?_
      have h1 := h1.ext e Keep.refl.drew
      generalize w1.drew = w1' at h1 ⊢
      rw [add_mk]
      refine hL_of (fun w' hw' => hw'.cell 2) ?_
      refine parse_reader_figure.cal (fig_F h1.rd (by omega) fun w2 k2 => ?_)
      have kk2 := h1.kept.trans (k2.mono fun q _ g => .inl g : Keep (fun k => k = rb ∨ k = mb) w1' w2)
      cases hf : figS l en j1 with
      | no e' p => rw [hf] at hz; exact hz e' p w2 rfl kk2
      | ok f j2 =>
        rw [hf] at hz hq
        simp only at hz hq
        intro r2
        have h2 := h1.step e k2 r2
        obtain ⟨hj2, hin2⟩ := figS_at hf
        refine sAnd_of h2.cl (cnd_of rfl ?_)
        refine newC_B fun w3 b3 k3 s3 => ?_
        rw [List.append_nil] at b3
        have h3 := h2.ext e k3
        refine sAnd_of h3.cl ?_
        refine app_fig h3.nums (by omega) (fun q u hu => by rw [add_mk, Nat.zero_add, b3.cell]; exact hu) fun s' w4 l4 k4 i4 => ?_
        have n4 : ¬ inB s.a cb := fun g => (h3.mine cb g).2.2.2 rfl
        have b4 := h3.cl.keep k4 n4
        refine sAnd_of b4 ?_
        -- the cell is written
        have lt := h2.cl.lt
        have sz := h3.kept.size
        have mine' : ∀ q, inB s'.a q → w0.heap.size ≤ q ∧ q ≠ b0 ∧ q ≠ tb ∧ q ≠ cb := fun q hq' => by
          rcases i4 q hq' with g | g
          · exact h3.mine q g
          · have := h3.cl.lt; exact ⟨by omega, by omega, by omega, by omega⟩
        refine st1_B b4 (by simp [clEnc]) rfl fun w5 b5 k5 => ?_
        obtain ⟨⟨z, g1, g1'⟩, g2, g3, g4, g5, g6, g7, g8⟩ := h3
        have no : ∀ q, inB s.a q → q ≠ b0 ∧ q ≠ tb ∧ q ≠ mb ∧ lo ≤ q := fun q g => by obtain ⟨y1, y2, y3, y4⟩ := g5 q g; exact ⟨y2, y3, by omega, by omega⟩
        have h5 : ClSt w0 w5 lo bt rb mb b0 tb cb l en t j2 { c with nums := c.nums ++ [f] } s' m := by
          refine ⟨⟨z, (g1.keep k4 fun g => (no _ g).1 rfl).keep k5 (by omega), g1'⟩, (g2.keep k4 fun g => (no _ g).2.1 rfl).keep k5 (by omega), b5, l4.keep k5 fun q hq' g => (mine' q hq').2.2.2 g, mine', (g6.keep k4 fun q g => (no q g).2.2.2).keep k5 fun q g => by omega, (g7.keep k4 fun g => (no _ g).2.2.1 rfl).keep k5 (by omega), ?_⟩
          exact (g8.trans_new k4 fun q hq' g => by have := (g5 q g).1; omega).trans_new k5 fun q hq' g => by omega
        rw [show IntKind.wrap .i64 ((3 - ((k + 1 : Nat) : Int)) + 1) = 3 - (k : Int) by rw [wrap_in (by omega) (by omega)]; omega]
        exact cl_dots e k j2 _ s' w5 (by omega) h5 (by simp; omega) (by omega) hz hq

/-- What is asked behind a clause. -/
def ClQ (Z : List PanicEntry → PT) (Q : List Value → PT) (w0 : World) (lo bt rb mb : Nat) (l : List Tk) (en : Int) (m : List (ByteArray × Int)) (c : Cl) (j : Nat) : Prop := ∀ (s : Sl3) w', Keep (fun k => k = rb ∨ k = mb) w0 w' → RdAt w' lo bt rb l en j → MapB w' mb m → Lst w' 49 2 Fg.enc s.a s.n s.c c.nums → (∀ k, inB s.a k → w0.heap.size ≤ k) → Q (clEnc (c, s)) w'
theorem cl_fin {Q : List Value → PT} {j : Nat} {c : Cl} {s : Sl3} (h : ClSt w0 w lo bt rb mb b0 tb cb l en t j c s m) (e : ClEnv w0 lo bt rb mb b0 tb cb) (hq : ClQ Z Q w0 lo bt rb mb l en m c j) : parse_reader_clause.s20 Z Q ⟨b0, 0, none⟩ ⟨cb, 0, none⟩ w :=
  cl_end h e fun w' h1 h2 h3 h4 h5 => hq s w' h1 h2 h3 h4 h5
/-- Behind 'more': both cells are written. -/
theorem cl_laid {Q : List Value → PT} {j : Nat} {c : Cl} {s s' : Sl3} {ns : List Fg} {q : Nat} {b : Bool} {c' : Cl} (e : ClEnv w0 lo bt rb mb b0 tb cb) (ho : ∃ z, IsB w b0 z ∧ z.length = 5) (ht : IsB w tb t.enc) (hc : IsB w cb (clEnc (c, s))) (hl : Lst w 49 2 Fg.enc s'.a s'.n s'.c ns) (hm : ∀ k, inB s'.a k → w0.heap.size ≤ k ∧ k ≠ b0 ∧ k ≠ tb ∧ k ≠ cb)
    (hr : RdAt w lo bt rb l en j) (hmm : MapB w mb m) (hk : Keep (fun k => k = rb ∨ k = mb) w0 w) (hq5 : q < 5) (he : ((clEnc (c, s)).set 2 (.slice s'.a s'.n s'.c)).set q (.bool b) = clEnc (c', s')) (hn : c'.nums = ns) (hq : ClQ Z Q w0 lo bt rb mb l en m c' j) :
    st1 ⟨cb, 2, none⟩ (.slice s'.a s'.n s'.c) (st1 ⟨cb, q, none⟩ (.bool b) (parse_reader_clause.s20 Z Q ⟨b0, 0, none⟩ ⟨cb, 0, none⟩)) w := by
  have := e.hlo; have := e.hmb; have := e.hrb; have := e.hb0; have := e.htb; have := e.hcb
  obtain ⟨z, g1, g1'⟩ := ho
  refine st1_B hc (by simp [clEnc]) rfl fun w1 b1 k1 => ?_
  refine st1_B b1 (by simp [clEnc]; omega) rfl fun w2 b2 k2 => ?_
  have k12 := k1.trans k2
  rw [he] at b2
  refine cl_fin (t := t) (s := s') ⟨⟨z, g1.keep k12 (by omega), g1'⟩, ht.keep k12 (by omega), b2, ?_, hm, hr.keep k12 fun q g => by omega, hmm.keep k12 (by omega), hk.trans_new k12 fun q hq' g => by omega⟩ e hq
  rw [hn]
  exact hl.keep k12 fun q hq' g => (hm q hq').2.2.2 g
theorem cl_s37 {Q : List Value → PT} {j : Nat} {c : Cl} {s : Sl3} (h : ClSt w0 w lo bt rb mb b0 tb cb l en t j c s m) (e : ClEnv w0 lo bt rb mb b0 tb cb) (hj : j ≤ l.length) (hn : c.nums.length ≤ 100) (hd : c.dash = false)
    (hz : ∀ e' p w', moreS l en 4 j c.nums = .no e' p → Keep (fun k => k = rb ∨ k = mb) w0 w' → Z (faultV e' p) w') (hq : ∀ r j', moreS l en 4 j c.nums = .ok r j' → ClQ Z Q w0 lo bt rb mb l en m ⟨c.word, c.pos, r.1, r.2, false⟩ j') : parse_reader_clause.s37 Z Q (some ⟨rb, 0, none⟩) ⟨b0, 0, none⟩ ⟨cb, 0, none⟩ w := by
  unfold parse_reader_clause.s37
  simp only [add_mk, Nat.zero_add]
  refine ldL_of (h.cl.cell 2) ?_
  refine parse_reader_more.cal (cl_more (Q := fun s' b => st1 ⟨cb, 2, none⟩ (.slice s'.a s'.n s'.c) (st1 ⟨cb, 3, none⟩ (.bool b) (parse_reader_clause.s20 Z Q ⟨b0, 0, none⟩ ⟨cb, 0, none⟩))) (by decide) h e hj hn hz fun r j' s' w' h1 _ h2 h3 h4 h5 h6 h7 h8 h9 => ?_)
  exact cl_laid e h2 h3 h4 h5 h6 h7 h8 h9 (by decide) (by simp [clEnc, hd]) rfl (hq r j' h1)
theorem cl_s65 {Q : List Value → PT} {j : Nat} {c : Cl} {s : Sl3} (h : ClSt w0 w lo bt rb mb b0 tb cb l en t j c s m) (e : ClEnv w0 lo bt rb mb b0 tb cb) (hj : j ≤ l.length) (hn : c.nums.length ≤ 100) (hs : c.slash = false)
    (hz : ∀ e' p w', moreS l en 5 j c.nums = .no e' p → Keep (fun k => k = rb ∨ k = mb) w0 w' → Z (faultV e' p) w') (hq : ∀ r j', moreS l en 5 j c.nums = .ok r j' → ClQ Z Q w0 lo bt rb mb l en m ⟨c.word, c.pos, r.1, false, r.2⟩ j') : parse_reader_clause.s65 Z Q (some ⟨rb, 0, none⟩) ⟨b0, 0, none⟩ ⟨cb, 0, none⟩ true w := by
  unfold parse_reader_clause.s65
  rw [pif_true]
  simp only [add_mk, Nat.zero_add]
  refine ldL_of (h.cl.cell 2) ?_
  refine parse_reader_more.cal (cl_more (Q := fun s' b => st1 ⟨cb, 2, none⟩ (.slice s'.a s'.n s'.c) (st1 ⟨cb, 4, none⟩ (.bool b) (parse_reader_clause.s20 Z Q ⟨b0, 0, none⟩ ⟨cb, 0, none⟩))) (by decide) h e hj hn hz fun r j' s' w' h1 _ h2 h3 h4 h5 h6 h7 h8 h9 => ?_)
  exact cl_laid e h2 h3 h4 h5 h6 h7 h8 h9 (by decide) (by simp [clEnc, hs]) rfl (hq r j' h1)

/-- Behind the first number. -/
theorem cl_s73 {Q : List Value → PT} {j : Nat} {f : Fg} {s : Sl3} (h : ClSt w0 w lo bt rb mb b0 tb cb l en t j ⟨t.text, t.pos, [f], false, false⟩ s m) (e : ClEnv w0 lo bt rb mb b0 tb cb) (hj : j ≤ l.length)
    (hz : ∀ e' p w', (if (same t.text wSrc || same t.text wDst) = true then (match dotsS l en 3 j [f] with
          | .no e p => (.no e p : Res Cl)
          | .ok ns j => match moreS l en 4 j ns with
            | .no e p => .no e p
            | .ok r j => .ok ⟨t.text, t.pos, r.1, r.2, false⟩ j)
        else if (same t.text wSport || same t.text wDport) = true then (match moreS l en 5 j [f] with
          | .no e p => .no e p
          | .ok r j => .ok ⟨t.text, t.pos, r.1, false, r.2⟩ j)
        else .ok ⟨t.text, t.pos, [f], false, false⟩ j) = .no e' p → Keep (fun k => k = rb ∨ k = mb) w0 w' → Z (faultV e' p) w')
    (hq : ∀ c j', (if (same t.text wSrc || same t.text wDst) = true then (match dotsS l en 3 j [f] with
          | .no e p => (.no e p : Res Cl)
          | .ok ns j => match moreS l en 4 j ns with
            | .no e p => .no e p
            | .ok r j => .ok ⟨t.text, t.pos, r.1, r.2, false⟩ j)
        else if (same t.text wSport || same t.text wDport) = true then (match moreS l en 5 j [f] with
          | .no e p => .no e p
          | .ok r j => .ok ⟨t.text, t.pos, r.1, false, r.2⟩ j)
        else .ok ⟨t.text, t.pos, [f], false, false⟩ j) = .ok c j' → ClQ Z Q w0 lo bt rb mb l en m c j') : parse_reader_clause.s73 Z Q (some ⟨rb, 0, none⟩) ⟨b0, 0, none⟩ ⟨tb, 0, none⟩ ⟨cb, 0, none⟩ w := by
  unfold parse_reader_clause.s73
  simp only [add_mk, Nat.zero_add]
  refine ldS_of (h.tok.cell 2) ?_
  show parse_reader_clause.s70 Z Q _ _ _ t.text w
  have addr : (same t.text wSrc || same t.text wDst) = true → parse_reader_clause.s59 Z Q (some ⟨rb, 0, none⟩) ⟨b0, 0, none⟩ ⟨cb, 0, none⟩ w := fun hs => by
    rw [if_pos hs] at hz hq
    unfold parse_reader_clause.s59
    refine exK_of (3 + 1) ?_
    refine cl_dots e 3 j ⟨t.text, t.pos, [f], false, false⟩ s w (by decide) h (by simp) hj (fun e' p w' hd hk => ?_) fun ns j' s' w' hd h' => ?_
    · simp only at hd
      rw [hd] at hz
      exact hz e' p w' rfl hk
    · simp only at hd
      rw [hd] at hz hq
      simp only at hz hq
      obtain ⟨d1, d2, d3⟩ := dotsS_at hd
      refine cl_s37 h' e (d3 hj) (by simp at d2; simp only; omega) rfl (fun e' p w2 hm hk => ?_) fun r j2 hm => ?_
      · simp only at hm
        rw [hm] at hz
        exact hz e' p w2 rfl hk
      · simp only at hm
        rw [hm] at hq
        exact hq _ _ rfl
  have rest : (same t.text wSrc || same t.text wDst) = false → parse_reader_clause.s67 Z Q (some ⟨rb, 0, none⟩) ⟨b0, 0, none⟩ ⟨cb, 0, none⟩ t.text w := fun hs => by
    rw [if_neg (by rw [hs]; decide)] at hz hq
    have port : (same t.text wSport || same t.text wDport) = true → parse_reader_clause.s65 Z Q (some ⟨rb, 0, none⟩) ⟨b0, 0, none⟩ ⟨cb, 0, none⟩ true w := fun hp => by
      rw [if_pos hp] at hz hq
      refine cl_s65 h e hj (by simp) rfl (fun e' p w2 hm hk => ?_) fun r j2 hm => ?_
      · simp only at hm
        rw [hm] at hz
        exact hz e' p w2 rfl hk
      · simp only at hm
        rw [hm] at hq
        exact hq _ _ rfl
    unfold parse_reader_clause.s67
    show pif (same t.text wSport) (parse_reader_clause.s65 Z Q _ _ _ (same t.text wSport)) (parse_reader_clause.s65 Z Q _ _ _ (same t.text wDport)) w
    rw [pif_bool]
    split
    · rename_i h1; rw [h1]; exact port (by simp [h1])
    · rename_i h1
      cases h2 : same t.text wDport with
      | true => exact port (by simp [h2])
      | false =>
        rw [if_neg (by simp [h1, h2])] at hq
        unfold parse_reader_clause.s65
        rw [pif_false]
        exact cl_fin h e (hq _ _ rfl)
  unfold parse_reader_clause.s70
  show pif (same t.text wSrc) (pif (same t.text wSrc) (parse_reader_clause.s59 Z Q _ _ _) _) (pif (same t.text wDst) (parse_reader_clause.s59 Z Q _ _ _) (parse_reader_clause.s67 Z Q _ _ _ t.text)) w
  rw [pif_bool]
  split
  · rename_i h1
    rw [h1, pif_true]
    exact addr (by simp [h1])
  · rename_i h1
    rw [pif_bool]
    split
    · rename_i h2; exact addr (by simp [h2])
    · rename_i h2; exact rest (by simp [h1, h2])
end
end Go.Proofs.YtllgjjldnnmjkaaDoor
