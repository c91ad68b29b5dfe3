/-
  The program's clauses: its code comes to 'snWithin' .. 'snClause'. No condition.
-/
import Derived.Test.YtllgjjldnnmjkaaDoorSenseS
import Derived.Test.YtllgjjldnnmjkaaDoorCodeSense
set_option linter.unusedVariables false
set_option linter.unusedSimpArgs false
set_option maxRecDepth 100000
namespace Go.Proofs.YtllgjjldnnmjkaaDoor
open Go.RowKit
section
variable {Z : List PanicEntry → PT} {S : Nat → Prop} {w0 w : World} {L : List Fct}
theorem within_cal {K : List Value → PT} {n : Fg} {lo hi : Int} (hk : ∀ w', Ext w w' → K (snWithin n lo hi).enc w') : cal Tryd.prog Z 29 [.agg ⟨n.enc⟩, .int .i64 lo, .int .i64 hi] (isN fun v => K v) w := by
  refine sense_within.cal ?_
  unfold sense_within.F
  refine (Sep.start (fun _ => False) w).new fun w1 b1 h1 k1 => ?_
  refine h1.new fun w2 b2 h2 k2 => ?_
  simp only [add_mk, Nat.zero_add]
  refine h2.ldI 1 (x := n.n) rfl rfl ?_
  have fin : ∀ (f : Ft), f = snWithin n lo hi → stN 2 ⟨b2, 0, none⟩ f.enc (ldN 2 ⟨b2, 0, none⟩ fun v => K v) w2 := fun f hf => by
    refine h2.stN 0 rfl (by simp) rfl (Ft.enc_one f) (lay_full rfl rfl) fun w3 h3 k3 => ?_
    refine h3.ldN 0 rfl (vs := f.enc) rfl rfl ?_
    rw [hf]
    exact hk w3 h3.kept
  rw [pif_dec]
  split
  · rename_i h
    refine h2.ldI 1 (x := n.pos) rfl rfl ?_
    exact fin ⟨10, n.pos⟩ (by unfold snWithin; rw [if_pos h])
  · rename_i h
    refine h2.ldI 1 (x := n.n) rfl rfl ?_
    rw [pif_dec]
    split
    · rename_i h'
      refine h2.ldI 1 (x := n.pos) rfl rfl ?_
      exact fin ⟨10, n.pos⟩ (by unfold snWithin; rw [if_neg h, if_pos h'])
    · rename_i h'
      exact fin ft0 (by unfold snWithin; rw [if_neg h, if_neg h'])
theorem first_loop {Q : List Value → PT} {a : Option Addr} {n c tb : Nat} {fs : List Ft} {R : Ft} (hr : Ro w0 2 Ft.enc a n c fs) (hq : ∀ w', Ext w0 w' → Q R.enc w') :
    ∀ (m j : Nat) (w : World), fs.length = j + m → snFirst (fs.drop j) = R → Sep (fun _ => False) w0 w [fB tb ft0.enc] → sense_first.l17 Z Q (m + 1) ⟨tb, 0, none⟩ a n c ((n : Nat) : Int) j w := by
  have hmax := hr.max
  have hn := hr.1
  have fin : ∀ (f : Ft) (w : World), f = R → Sep (fun _ => False) w0 w [fB tb ft0.enc] → stN 2 ⟨tb, 0, none⟩ f.enc (ldN 2 ⟨tb, 0, none⟩ fun v => Q v) w := fun f w hf h => by
    refine h.stN 0 rfl (by simp [Ft.enc]) rfl (Ft.enc_one f) (lay_full rfl rfl) fun w3 h3 k3 => ?_
    refine h3.ldN 0 rfl (vs := f.enc) rfl rfl ?_
    rw [hf]
    exact hq w3 h3.kept
  intro m
  induction m with
  | zero =>
    intro j w hm he h
    unfold sense_first.l17 sense_first.s20
    rw [pif_dec, if_neg (by omega)]
    unfold sense_first.s7
    refine fin ft0 w ?_ h
    rw [← he, List.drop_eq_nil_of_le (by omega)]
    rfl
  | succ m ih =>
    intro j w hm he h
    have hx := List.getElem?_eq_getElem (show j < fs.length by omega)
    have hd := List.drop_eq_getElem_cons (show j < fs.length by omega)
    unfold sense_first.l17 sense_first.s20
    rw [pif_dec, if_pos (by omega)]
    refine ixS_Ro (hr.ext h.kept) hx fun ad had => ?_
    refine ldN_at had rfl ?_
    refine h.new fun w1 b1 h1 k1 => ?_
    refine h1.stN 0 rfl (by simp) rfl (Ft.enc_one _) (lay_full rfl rfl) fun w2 h2 k2 => ?_
    simp only [add_mk, Nat.zero_add]
    refine h2.ldI 0 (x := (fs[j]).e) rfl rfl ?_
    rw [hd] at he
    unfold snFirst at he
    rw [pif_bne]
    split
    · rename_i h0
      rw [if_neg (by simpa using h0)] at he
      rw [wrap_nat1 (by omega)]
      exact ih (j + 1) w2 (by omega) he (h2.drop 0)
    · rename_i h0
      rw [if_pos h0] at he
      refine h2.ldN 0 rfl (vs := (fs[j]).enc) rfl rfl ?_
      exact fin _ w2 he (h2.drop 0)
theorem first_cal' {K : List Value → PT} {a : Option Addr} {n c : Nat} {fs : List Ft} (hr : Ro w 2 Ft.enc a n c fs) (hk : ∀ w', Ext w w' → K (snFirst fs).enc w') : cal Tryd.prog Z 83 [.slice a n c] (isN fun v => K v) w := by
  refine sense_first.cal ?_
  unfold sense_first.F sense_first.s31
  refine (Sep.start (fun _ => False) w).new fun w1 b1 h1 k1 => ?_
  unfold sense_first.s28
  exact exK_of (fs.length + 1) (first_loop hr hk fs.length 0 w1 (by omega) rfl h1)
theorem addr_loop {Q : Int → Int → List Value → PT} {tb : Nat} {s : Sl3} {l : List Fg} {R : Int × Int × Ft} (hr : NumsO w0 s l) (hq : ∀ w', Ext w0 w' → Q R.1 R.2.1 R.2.2.enc w') :
    ∀ (m j : Nat) (v b : Int) (w : World), l.length = j + m → snAddr (l.drop j) j v b = R → Sep (fun _ => False) w0 w [fB tb ft0.enc] → sense_address.l19 Z Q (m + 1) ⟨tb, 0, none⟩ v b s.a s.n s.c ((s.n : Nat) : Int) j w := by
  have hmax := hr.max
  have hn := hr.1
  have fin : ∀ (f : Ft) (v b : Int) (w : World), (v, b, f) = R → Sep (fun _ => False) w0 w [fB tb ft0.enc] → stN 2 ⟨tb, 0, none⟩ f.enc (ldN 2 ⟨tb, 0, none⟩ fun u => Q v b u) w := fun f v b w hf h => by
    refine h.stN 0 rfl (by simp [Ft.enc]) rfl (Ft.enc_one f) (lay_full rfl rfl) fun w3 h3 k3 => ?_
    refine h3.ldN 0 rfl (vs := f.enc) rfl rfl ?_
    subst hf
    exact hq w3 h3.kept
  intro m
  induction m with
  | zero =>
    intro j v b w hm he h
    unfold sense_address.l19 sense_address.s48
    rw [pif_dec, if_neg (by omega)]
    unfold sense_address.s9
    refine fin ft0 v b w ?_ h
    rw [← he, List.drop_eq_nil_of_le (by omega)]
    rfl
  | succ m ih =>
    intro j v b w hm he h
    have hx := List.getElem?_eq_getElem (show j < l.length by omega)
    have hd := List.drop_eq_getElem_cons (show j < l.length by omega)
    unfold sense_address.l19 sense_address.s48
    rw [pif_dec, if_pos (by omega)]
    unfold sense_address.s44
    refine ixS_Ro (hr.ext h.kept) hx fun ad had => ?_
    refine ldN_at had rfl ?_
    refine h.new fun w1 nb h1 k1 => ?_
    refine h1.stN 0 rfl (by simp) rfl (Fg.enc_one _) (lay_full rfl rfl) fun w2 h2 k2 => ?_
    rw [hd] at he
    generalize l[j] = x at hx he h2 hd
    unfold snAddr at he
    have step : ∀ (v b hi : Int), (if (snWithin x 0 hi).e ≠ 0 then (0, 0, snWithin x 0 hi) else snAddr (l.drop (j + 1)) (j + 1) v b) = R →
        sense_address.s40 Z Q (sense_address.l19 Z Q (m + 1)) ⟨tb, 0, none⟩ v b ⟨nb, 0, none⟩ hi s.a s.n s.c ((s.n : Nat) : Int) j w2 := fun v b hi he => by
      unfold sense_address.s40
      refine h2.ldN 0 rfl (vs := x.enc) rfl rfl ?_
      refine within_cal fun w3 k3 => ?_
      refine (h2.ext k3).new fun w4 fb h4 k4 => ?_
      refine h4.stN 0 rfl (by simp) rfl (Ft.enc_one _) (lay_full rfl rfl) fun w5 h5 k5 => ?_
      simp only [add_mk, Nat.zero_add]
      refine h5.ldI 0 (x := (snWithin x 0 hi).e) rfl rfl ?_
      rw [pif_bne]
      split
      · rename_i h0
        rw [if_neg (by simpa using h0)] at he
        unfold sense_address.s29
        rw [wrap_nat1 (by omega)]
        exact ih (j + 1) v b w5 (by omega) he ((h5.drop 0).drop 0)
      · rename_i h0
        rw [if_pos h0] at he
        refine h5.drawn (fun w' => IsB w' fb (snWithin x 0 hi).enc) ((h5.drew).at (n := 0) rfl) fun h6 => ?_
        refine hN_of (cs := (snWithin x 0 hi).enc) rfl (fun w' hw' => cellsAt_B hw' rfl) ?_
        exact fin _ 0 0 w5.drew he ((h6.drop 0).drop 0)
    simp only [add_mk, Nat.zero_add]
    rw [pif_beq]
    split
    · rename_i h0
      rw [if_pos (by omega)] at he
      refine h2.ldI 0 (x := x.n) rfl rfl ?_
      exact step v x.n 32 he
    · rename_i h0
      rw [if_neg (by omega)] at he
      refine cnd_of (by decide) ?_
      refine h2.ldI 0 (x := x.n) rfl rfl ?_
      exact step (mixS v x.n) b 255 he
theorem addr_cal {K : Int → Int → List Value → PT} {c : Cl} {s : Sl3} (hr : NumsO w s c.nums) (hk : ∀ w', Ext w w' → K (snAddr c.nums 0 0 32).1 (snAddr c.nums 0 0 32).2.1 (snAddr c.nums 0 0 32).2.2.enc w') :
    cal Tryd.prog Z 76 [.agg ⟨clEnc (c, s)⟩] (isT3 fun x y z => (isI .u32 fun r0 => (isI .i64 fun r1 => (isN fun r2 => K r0 r1 r2) z) y) x) w := by
  refine sense_address.cal ?_
  unfold sense_address.F sense_address.s57
  refine (Sep.start (fun _ => False) w).new fun w1 b1 h1 k1 => ?_
  refine h1.new fun w2 b2 h2 k2 => ?_
  unfold sense_address.s54
  simp only [add_mk, Nat.zero_add]
  refine h2.ldL 1 (x := s.a) (y := s.n) (z := s.c) rfl rfl ?_
  have h3 := h2.sub (M := [fB b2 ft0.enc]) (by simp [ft0, Ft.enc])
  exact exK_of (c.nums.length + 1) (addr_loop hr hk c.nums.length 0 0 32 w2 (by omega) rfl h3)
theorem many_cal {K : Int → PT} {c : Cl} {s : Sl3} (hk : ∀ w', Ext w w' → K (snMany c) w') : cal Tryd.prog Z 48 [.agg ⟨clEnc (c, s)⟩] (isI .i64 fun v => K v) w := by
  refine sense_many.cal ?_
  unfold sense_many.F sense_many.s39
  refine (Sep.start (fun _ => False) w).new fun w1 b1 h1 k1 => ?_
  unfold sense_many.s36
  simp only [add_mk, Nat.zero_add]
  refine h1.ldS 0 (x := c.word) rfl rfl ?_
  have hk := hk w1 h1.kept
  unfold snMany at hk
  have h21 : (same c.word wSrc = true ∨ same c.word wDst = true) → sense_many.s21 Z K ⟨b1, 0, none⟩ w1 := fun e => by
    unfold sense_many.s21
    simp only [add_mk, Nat.zero_add]
    refine h1.ldB 0 (x := c.slash) rfl rfl ?_
    rw [if_pos e] at hk
    rw [pif_bool]
    split
    · rename_i h; rw [if_pos h] at hk; exact hk
    · rename_i h; rw [if_neg h] at hk; exact hk
  have h30 : ¬ (same c.word wSrc = true ∨ same c.word wDst = true) → sense_many.s30 Z K ⟨b1, 0, none⟩ c.word w1 := fun e => by
    rw [if_neg e] at hk
    have h28 : ∀ b, b = true → (same c.word wSport = true ∨ same c.word wDport = true) → sense_many.s28 Z K ⟨b1, 0, none⟩ c.word b w1 := fun b hb e => by
      unfold sense_many.s28
      simp only [add_mk, Nat.zero_add]
      subst hb
      rw [pif_true]
      refine h1.ldB 0 (x := c.dash) rfl rfl ?_
      rw [if_pos e] at hk
      rw [pif_bool]
      split
      · rename_i h; rw [if_pos h] at hk; exact hk
      · rename_i h; rw [if_neg h] at hk; exact hk
    unfold sense_many.s30
    change pif (same c.word wSport) (sense_many.s28 Z K _ _ (same c.word wSport)) (sense_many.s28 Z K _ _ (same c.word wDport)) w1
    cases e1 : same c.word wSport with
    | true => rw [pif_true]; exact h28 _ rfl (.inl e1)
    | false =>
      rw [pif_false]
      cases e2 : same c.word wDport with
      | true => exact h28 _ rfl (.inr e2)
      | false =>
        rw [if_neg (by simp [e1, e2])] at hk
        unfold sense_many.s28
        rw [pif_false]
        change pif (same c.word wProto) _ _ w1
        cases e3 : same c.word wProto with
        | true => rw [if_pos e3] at hk; exact hk
        | false => rw [if_neg (by simp [e3])] at hk; exact hk
  unfold sense_many.s33
  change pif (same c.word wSrc) (pif (same c.word wSrc) _ _) (pif (same c.word wDst) _ _) w1
  cases e1 : same c.word wSrc with
  | true => rw [pif_true, pif_true]; exact h21 (.inl e1)
  | false =>
    rw [pif_false]
    cases e2 : same c.word wDst with
    | true => rw [pif_true]; exact h21 (.inr e2)
    | false => rw [pif_false]; exact h30 (by simp [e1, e2])
end
end Go.Proofs.YtllgjjldnnmjkaaDoor
