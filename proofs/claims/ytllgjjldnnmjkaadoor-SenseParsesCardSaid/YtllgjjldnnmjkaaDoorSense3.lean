/-
  The program's line. No condition.
-/
import Derived.Test.YtllgjjldnnmjkaaDoorSense2
set_option linter.unusedVariables false
set_option linter.unusedSimpArgs false
set_option maxRecDepth 100000
namespace Go.Proofs.YtllgjjldnnmjkaaDoor
open Go.RowKit
section
variable {Z : List PanicEntry → PT} {Q : List Value → List Value → PT} {W w : World} {tb ub xb rb : Nat} {r : Rw} {s : Sl3} {R : En × Ft}
/-- What is told at the end. -/
theorem line_out {M : List Fct} {f : Ft} {x : En} {K : List Value → List Value → PT} {i j : Nat} {g g' : List Value} (h : Sep (fun _ => False) W w M) (hi : M[i]? = some (fB tb x.enc)) (hj : M[j]? = some (fB ub ft0.enc)) (hk : ∀ w', Ext W w' → K x.enc f.enc w') (hij : j ≠ i) :
    stN 2 ⟨ub, 0, none⟩ f.enc (ldN 12 ⟨tb, 0, none⟩ fun a => ldN 2 ⟨ub, 0, none⟩ fun b => K a b) w := by
  refine h.stN j hj (by simp [Ft.enc, ft0]) rfl (Ft.enc_one f) (lay_full rfl rfl) fun w1 h1 k1 => ?_
  refine h1.ldN i (vs := x.enc) (by rw [List.getElem?_set_ne hij]; exact hi) rfl rfl ?_
  refine h1.ldN j (vs := f.enc) (set_at hj) rfl rfl ?_
  exact hk w1 h1.kept
/-- A fault of a clause is told. -/
theorem line_no {cb : Nat} {c : Cl} {sc : Sl3} {x : En} {e : Int} (h : Sep (fun _ => False) W w [fB cb (clEnc (c, sc)), fB xb x.enc, fB ub ft0.enc, fB tb en0.enc, fB rb (rwEnc (r, s))]) (hk : ∀ w', Ext W w' → Q x.enc (Ft.enc ⟨e, c.pos⟩) w') :
    drawn (fun S => hN S 12 ⟨xb, 0, none⟩ fun v => hI S .i64 ⟨cb, 1, none⟩ fun u => fun w1 => (sAnd S (stN 12 ⟨tb, 0, none⟩ v (sAnd S (stN 2 ⟨ub, 0, none⟩ [.int .i64 e, .int .i64 u] (ldN 12 ⟨tb, 0, none⟩ fun a => ldN 2 ⟨ub, 0, none⟩ fun b => Q a b))))) w1 ∧ (stN 12 ⟨tb, 0, none⟩ v (sAnd S (sAnd S (stN 2 ⟨ub, 0, none⟩ [.int .i64 e, .int .i64 u] (ldN 12 ⟨tb, 0, none⟩ fun a => ldN 2 ⟨ub, 0, none⟩ fun b => Q a b))))) w1) w := by
  refine h.drawn (fun w' => IsB w' xb x.enc ∧ IsB w' cb (clEnc (c, sc))) ⟨h.drew.at (n := 1) rfl, h.drew.at (n := 0) rfl⟩ fun h => ?_
  refine hN_of (cs := x.enc) rfl (fun w' hw' => cellsAt_B hw'.1 rfl) ?_
  refine hI_of (n := c.pos) (fun w' hw' => hw'.2.cell 1) ?_
  have st : ∀ {K : PT}, (∀ w', Sep (fun _ => False) W w' [fB cb (clEnc (c, sc)), fB xb x.enc, fB ub ft0.enc, fB tb x.enc, fB rb (rwEnc (r, s))] → K w') → stN 12 ⟨tb, 0, none⟩ x.enc K w.drew := fun {K} hK =>
    h.stN 3 rfl (by simp [en0, En.enc]) rfl (En.enc_one x) (lay_full rfl rfl) fun w1 h1 k1 => hK w1 h1
  constructor
  · refine sAnd_of ⟨h.at (n := 1) rfl, h.at (n := 0) rfl⟩ ?_
    refine st fun w1 h1 => ?_
    refine sAnd_of ⟨h1.at (n := 1) rfl, h1.at (n := 0) rfl⟩ ?_
    exact line_out (f := ⟨e, c.pos⟩) (i := 3) (j := 2) (g := []) (g' := []) h1 rfl rfl hk (by decide)
  · refine st fun w1 h1 => ?_
    refine sAnd_of ⟨h1.at (n := 1) rfl, h1.at (n := 0) rfl⟩ (sAnd_of ⟨h1.at (n := 1) rfl, h1.at (n := 0) rfl⟩ ?_)
    exact line_out (f := ⟨e, c.pos⟩) (i := 3) (j := 2) (g := []) (g' := []) h1 rfl rfl hk (by decide)
/-- A fault that lies in memory is told. -/
theorem line_no2 {fb : Nat} {f : Ft} {x : En} {M : List Fct} (h : Sep (fun _ => False) W w (fB fb f.enc :: M)) (n : Nat) (hx : M[n]? = some (fB xb x.enc)) (hu : M[n + 1]? = some (fB ub ft0.enc)) (ht : M[n + 2]? = some (fB tb en0.enc)) (hk : ∀ w', Ext W w' → Q x.enc f.enc w') :
    drawn (fun S => hN S 12 ⟨xb, 0, none⟩ fun v => hN S 2 ⟨fb, 0, none⟩ fun u => stN 12 ⟨tb, 0, none⟩ v (sAnd S (stN 2 ⟨ub, 0, none⟩ u (ldN 12 ⟨tb, 0, none⟩ fun a => ldN 2 ⟨ub, 0, none⟩ fun b => Q a b)))) w := by
  refine h.drawn (fun w' => IsB w' xb x.enc ∧ IsB w' fb f.enc) ⟨h.drew.at (n := n + 1) hx, h.drew.at (n := 0) rfl⟩ fun h => ?_
  refine hN_of (cs := x.enc) rfl (fun w' hw' => cellsAt_B hw'.1 rfl) ?_
  refine hN_of (cs := f.enc) rfl (fun w' hw' => cellsAt_B hw'.2 rfl) ?_
  refine h.stN (n + 3) ht (by simp [en0, En.enc]) rfl (En.enc_one x) (lay_full rfl rfl) fun w1 h1 k1 => ?_
  have h1 : Sep (fun _ => False) W w1 (fB fb f.enc :: M.set (n + 2) (fB tb x.enc)) := h1
  refine sAnd_of ⟨h1.at (n := n + 1) (f := fB xb x.enc) (by rw [List.getElem?_cons_succ, List.getElem?_set_ne (by omega)]; exact hx), h1.at (n := 0) rfl⟩ ?_
  exact line_out (f := f) (i := n + 3) (j := n + 2) (g := []) (g' := []) h1 (set_at ht) (by rw [List.getElem?_cons_succ, List.getElem?_set_ne (by omega)]; exact hu) hk (by omega)
theorem dup_loop {X1 : Addr → Addr → Addr → Addr → Option Addr → Nat → Nat → Int → Int → PT} {a : Option Addr} {n c0 : Nat} {ps : List (Cl × Sl3)} {a' : Option Addr} {n' c' : Nat} {t1 t2 : Int} {cb : Nat} {c : Cl} {sc : Sl3} {x : En}
    (hr : Ro W 5 clEnc a n c0 ps) (hq : ∀ w', Ext W w' → Q R.1.enc R.2.enc w') :
    ∀ (m k : Nat) (w : World), ps.length = k + m → Sep (fun _ => False) W w [fB cb (clEnc (c, sc)), fB xb x.enc, fB ub ft0.enc, fB tb en0.enc, fB rb (rwEnc (r, s))] →
    ((ps.drop k).any (fun d => same d.1.word c.word) = true → (x, ⟨9, c.pos⟩) = R) →
    ((ps.drop k).any (fun d => same d.1.word c.word) = false → ∀ w', Sep (fun _ => False) W w' [fB cb (clEnc (c, sc)), fB xb x.enc, fB ub ft0.enc, fB tb en0.enc, fB rb (rwEnc (r, s))] → sense_line.s42 Z Q X1 ⟨rb, 0, none⟩ ⟨tb, 0, none⟩ ⟨ub, 0, none⟩ ⟨xb, 0, none⟩ ⟨cb, 0, none⟩ a' n' c' t1 t2 w') →
    sense_line.l53 Z Q X1 (m + 1) ⟨rb, 0, none⟩ ⟨tb, 0, none⟩ ⟨ub, 0, none⟩ ⟨xb, 0, none⟩ ⟨cb, 0, none⟩ a' n' c' t1 t2 a n c0 ((n : Nat) : Int) k w := by
  have hmax := hr.max
  have hn := hr.1
  intro m
  induction m with
  | zero =>
    intro k w hm h hT hF
    unfold sense_line.l53 sense_line.s56
    rw [pif_dec, if_neg (by omega)]
    refine hF ?_ w h
    rw [List.drop_eq_nil_of_le (by omega)]
    rfl
  | succ m ih =>
    intro k w hm h hT hF
    have hx := List.getElem?_eq_getElem (show k < ps.length by omega)
    have hd := List.drop_eq_getElem_cons (show k < ps.length by omega)
    unfold sense_line.l53 sense_line.s56
    rw [pif_dec, if_pos (by omega)]
    refine ixS_Ro (hr.ext h.kept) hx fun ad had => ?_
    refine ldN_at had rfl ?_
    generalize ps[k] = d at hx hd
    refine h.new fun w1 db h1 k1 => ?_
    refine h1.stN 0 rfl (by simp) rfl (clEnc_one _) (lay_full rfl rfl) fun w2 h2 k2 => ?_
    simp only [add_mk, Nat.zero_add]
    refine h2.ldS 0 (x := d.1.word) rfl rfl (h2.ldS 1 (x := c.word) rfl rfl ?_)
    change pif (same d.1.word c.word) _ _ w2
    rw [hd, List.any_cons] at hT hF
    cases e : same d.1.word c.word with
    | true =>
      rw [pif_true]
      rw [e] at hT
      have hR := hT rfl
      subst hR
      exact line_no (h2.drop 0) hq
    | false =>
      rw [pif_false]
      rw [e, Bool.false_or] at hT hF
      rw [wrap_nat1 (by omega)]
      exact ih (k + 1) w2 (by omega) (h2.drop 0) hT hF
theorem line_loop {ps : List (Cl × Sl3)} (hr : Ro W 5 clEnc s.a s.n s.c ps) (hp : ∀ p ∈ ps, NumsO W p.2 p.1.nums) (hq : ∀ w', Ext W w' → Q R.1.enc R.2.enc w') :
    ∀ (m j : Nat) (x : En) (w : World), ps.length = j + m → snClauses (ps.map Prod.fst) ((ps.drop j).map Prod.fst) j x = R → Sep (fun _ => False) W w [fB xb x.enc, fB ub ft0.enc, fB tb en0.enc, fB rb (rwEnc (r, s))] →
    sense_line.l19 Z Q (m + 1) ⟨rb, 0, none⟩ ⟨tb, 0, none⟩ ⟨ub, 0, none⟩ ⟨xb, 0, none⟩ s.a s.n s.c ((s.n : Nat) : Int) j w := by
  have hmax := hr.max
  have hn := hr.1
  intro m
  induction m with
  | zero =>
    intro j x w hm he h
    unfold sense_line.l19 sense_line.s71
    rw [pif_dec, if_neg (by omega)]
    unfold sense_line.s9
    refine h.ldN 0 (vs := x.enc) rfl rfl rfl ?_
    refine h.stN 2 rfl (by simp [en0, En.enc]) rfl (En.enc_one x) (lay_full rfl rfl) fun w1 h1 k1 => ?_
    rw [List.drop_eq_nil_of_le (by omega)] at he
    subst he
    exact line_out (f := ft0) (x := x) (i := 2) (j := 1) (g := []) (g' := []) h1 rfl rfl hq (by decide)
  | succ m ih =>
    intro j x w hm he h
    have hx := List.getElem?_eq_getElem (show j < ps.length by omega)
    have hmem := List.getElem_mem (show j < ps.length by omega)
    have hd := List.drop_eq_getElem_cons (show j < ps.length by omega)
    unfold sense_line.l19 sense_line.s71
    rw [pif_dec, if_pos (by omega)]
    unfold sense_line.s67
    refine ixS_Ro (hr.ext h.kept) hx fun ad had => ?_
    refine ldN_at had rfl ?_
    rw [hd] at he
    have hnums := hp _ hmem
    generalize ps[j] = q at hx hd he hnums
    obtain ⟨c, sc⟩ := q
    refine h.new fun w1 cb h1 k1 => ?_
    refine h1.stN 0 rfl (by simp) rfl (clEnc_one _) (lay_full rfl rfl) fun w2 h2 k2 => ?_
    simp only [add_mk, Nat.zero_add]
    have h2 : Sep (fun _ => False) W w2 [fB cb (clEnc (c, sc)), fB xb x.enc, fB ub ft0.enc, fB tb en0.enc, fB rb (rwEnc (r, s))] := h2
    have hcn := hnums.1
    simp only [List.map_cons] at he
    unfold snClauses at he
    refine h2.drawn (fun w' => IsB w' cb (clEnc (c, sc))) (h2.drew.at (n := 0) rfl) fun h3 => ?_
    refine hL_of (b := sc.a) (n := sc.n) (c := sc.c) (fun w' hw' => hw'.cell 2) ?_
    rw [pif_beq]
    split
    · rename_i e0
      rw [if_pos (by simp only at hcn; omega)] at he
      subst he
      exact line_no h3 hq
    rename_i e0
    rw [if_neg (by simp only at hcn; omega)] at he
    refine hL_of (b := sc.a) (n := sc.n) (c := sc.c) (fun w' hw' => hw'.cell 2) ?_
    refine hN_of (cs := clEnc (c, sc)) rfl (fun w' hw' => cellsAt_B hw' rfl) ?_
    refine many_cal fun w4 k4 => ?_
    have h4 := h3.ext k4
    refine sAnd_of (h4.at (n := 0) rfl) ?_
    rw [pif_bne]
    split
    case isFalse e1 =>
      rw [if_pos (by simp only at hcn; omega)] at he
      subst he
      exact line_no h4 hq
    rename_i e1
    rw [if_neg (by simp only at hcn; omega)] at he
    unfold sense_line.s64
    simp only [add_mk, Nat.zero_add]
    refine h4.ldL 4 (x := s.a) (y := s.n) (z := s.c) rfl rfl ?_
    refine slS_Ro (hr.ext h4.kept) (show j ≤ ps.length by omega) ?_
    have hlen : (ps.take j).length = j := by rw [List.length_take]; omega
    have hany : ((ps.map Prod.fst).take j).any (fun d => same d.word c.word) = ((ps.take j).drop 0).any (fun d => same d.1.word c.word) := by
      rw [← List.map_take, List.any_map, List.drop_zero]
      rfl
    rw [hany] at he
    refine exK_of (j + 1) (dup_loop (hr.take (show j ≤ ps.length by omega)) hq j 0 w4 (by omega) h4 (fun e => ?_) (fun e w5 h5 => ?_))
    · rw [if_pos e] at he
      exact he
    rw [if_neg (by simp only [e]; decide)] at he
    unfold sense_line.s42
    refine h5.ldN 0 (vs := clEnc (c, sc)) rfl rfl rfl ?_
    refine clause_cal 1 h5 rfl hnums (by simp only at hcn; omega) fun w6 h6 => ?_
    refine h6.new fun w7 fb h7 k7 => ?_
    refine h7.stN 0 rfl (by simp) rfl (Ft.enc_one _) (lay_full rfl rfl) fun w8 h8 k8 => ?_
    have h8 : Sep (fun _ => False) W w8 [fB fb (snClause x c).2.enc, fB cb (clEnc (c, sc)), fB xb (snClause x c).1.enc, fB ub ft0.enc, fB tb en0.enc, fB rb (rwEnc (r, s))] := h8
    simp only [add_mk, Nat.zero_add]
    refine h8.ldI 0 (x := (snClause x c).2.e) rfl rfl ?_
    rw [pif_bne]
    split
    · rename_i e2
      rw [if_neg (by simpa using e2)] at he
      unfold sense_line.s29
      rw [wrap_nat1 (by omega)]
      exact ih (j + 1) _ w8 (by omega) he ((h8.drop 0).drop 0)
    · rename_i e2
      rw [if_pos e2] at he
      subst he
      exact line_no2 h8 1 rfl rfl rfl hq
theorem line_cal {K : List Value → List Value → PT} (hc : ClsO w s r.clauses) (hk : ∀ w', Ext w w' → K (snLine r).1.enc (snLine r).2.enc w') :
    cal Tryd.prog Z 28 [.agg ⟨rwEnc (r, s)⟩] (isT2 fun x y => (isN fun r0 => (isN fun r1 => K r0 r1) y) x) w := by
  refine sense_line.cal ?_
  unfold sense_line.F sense_line.s80
  refine (Sep.start (fun _ => False) w).new fun w1 rb h1 k1 => ?_
  refine h1.new fun w2 tb h2 k2 => ?_
  refine h2.new fun w3 ub h3 k3 => ?_
  simp only [add_mk, Nat.zero_add]
  refine h3.ldI 2 (x := r.prio.n) rfl rfl ?_
  refine h3.new fun w4 xb h4 k4 => ?_
  generalize ex : (⟨false, r.prio.n, 0, 0, 0, 0, 0, 65535, 0, 65535, -1, 0⟩ : En) = x
  refine h4.stN 0 (cs' := x.enc) rfl (by simp) rfl (by simp [Value.oneCell']) (by subst ex; rfl) fun w5 h5 k5 => ?_
  have h5 : Sep (fun _ => False) w w5 [fB xb x.enc, fB ub ft0.enc, fB tb en0.enc, fB rb (rwEnc (r, s))] := h5
  refine h5.ldN 3 (vs := r.prio.enc) rfl rfl rfl ?_
  refine within_cal fun w6 k6 => ?_
  have h6 := h5.ext k6
  refine h6.new fun w7 fb h7 k7 => ?_
  refine h7.stN 0 rfl (by simp) rfl (Ft.enc_one _) (lay_full rfl rfl) fun w8 h8 k8 => ?_
  simp only [add_mk, Nat.zero_add]
  refine h8.ldI 0 (x := (snWithin r.prio 0 65535).e) rfl rfl ?_
  unfold snLine at hk
  simp only [ex] at hk
  rw [pif_bne]
  split
  · rename_i e0
    rw [if_neg (by simpa using e0)] at hk
    unfold sense_line.s77
    simp only [add_mk, Nat.zero_add]
    have h9 : Sep (fun _ => False) w w8 [fB xb x.enc, fB ub ft0.enc, fB tb en0.enc, fB rb (rwEnc (r, s))] := h8.drop 0
    refine h9.ldL 3 (x := s.a) (y := s.n) (z := s.c) rfl rfl ?_
    obtain ⟨ps, p1, p2, p3⟩ := hc
    rw [p1] at hk
    exact exK_of (ps.length + 1) (line_loop p2 p3 hk ps.length 0 x w8 (by omega) rfl h9)
  · rename_i e0
    rw [if_pos e0] at hk
    exact line_no2 h8 0 rfl rfl rfl hk
end
end Go.Proofs.YtllgjjldnnmjkaaDoor
