/-
  The program's ports and clause. No condition.
-/
import Derived.Test.YtllgjjldnnmjkaaDoorSense1
set_option linter.unusedVariables false
set_option linter.unusedSimpArgs false
set_option maxRecDepth 100000
namespace Go.Proofs.YtllgjjldnnmjkaaDoor
open Go.RowKit
theorem three_ro {w : World} {b : Nat} {f g h : Ft} (hb : IsB w b (f.enc ++ (g.enc ++ (h.enc ++ [])))) : Ro w 2 Ft.enc (some ⟨b, 0, none⟩) 3 3 [f, g, h] := by
  refine ⟨rfl, Nat.le_refl _, by simp [maxLen], fun i x hx => ⟨_, rfl, fun j v hj => ?_⟩⟩
  rw [add_mk, add_mk, hb.cell]
  have hi := (List.getElem?_eq_some_iff.1 hx).1
  have hj' : j < 2 := (List.getElem?_eq_some_iff.1 hj).1
  simp only [List.length_cons, List.length_nil] at hi
  match i, hi, hx with
  | 0, _, hx => cases hx; match j, hj', hj with
    | 0, _, hj => exact hj
    | 1, _, hj => exact hj
  | 1, _, hx => cases hx; match j, hj', hj with
    | 0, _, hj => exact hj
    | 1, _, hj => exact hj
  | 2, _, hx => cases hx; match j, hj', hj with
    | 0, _, hj => exact hj
    | 1, _, hj => exact hj
theorem nth_at {l : List Fg} {i : Nat} (h : i < l.length) : l[i]? = some (nthF l i) := by
  unfold nthF
  rw [List.getElem?_eq_getElem h]
  rfl
section
variable {Z : List PanicEntry → PT} {S : Nat → Prop} {w0 w : World} {L : List Fct}
theorem ports_cal {K : Int → Int → List Value → PT} {c : Cl} {s : Sl3} (hr : NumsO w s c.nums) (h0 : c.nums.length ≠ 0) (hk : ∀ w', Ext w w' → K (snPorts c.nums).1 (snPorts c.nums).2.1 (snPorts c.nums).2.2.enc w') :
    cal Tryd.prog Z 77 [.agg ⟨clEnc (c, s)⟩] (isT3 fun x y z => (isI .i64 fun r0 => (isI .i64 fun r1 => (isN fun r2 => K r0 r1 r2) z) y) x) w := by
  have hmax := hr.max
  have hn := hr.1
  refine sense_ports.cal ?_
  unfold sense_ports.F sense_ports.s10
  refine (Sep.start (fun _ => False) w).new fun w1 b1 h1 k1 => ?_
  refine h1.new fun w2 tb h2 k2 => ?_
  simp only [add_mk, Nat.zero_add]
  refine h2.ldL 1 (x := s.a) (y := s.n) (z := s.c) rfl rfl ?_
  have h3 := h2.sub (M := [fB tb ft0.enc, fB b1 (clEnc (c, s))]) (by simp [ft0, Ft.enc])
  refine ixS_Ro (i := 0) (hr.ext h3.kept) (nth_at (show 0 < c.nums.length by omega)) fun ad had => ?_
  refine ldN_at had rfl ?_
  refine h3.new fun w3 lb h3 k3 => ?_
  generalize elo : nthF c.nums 0 = lo
  refine h3.stN 0 rfl (by simp) rfl (Fg.enc_one lo) (lay_full rfl rfl) fun w4 h4 k4 => ?_
  refine h4.ldL 2 (x := s.a) (y := s.n) (z := s.c) rfl rfl (h4.ldL 2 (x := s.a) (y := s.n) (z := s.c) rfl rfl ?_)
  rw [show IntKind.wrap .i64 (((s.n : Nat) : Int) - 1) = ((c.nums.length - 1 : Nat) : Int) from by rw [wrap_in (by omega) (by omega)]; omega]
  refine ixS_Ro (i := c.nums.length - 1) (hr.ext h4.kept) (nth_at (show c.nums.length - 1 < c.nums.length by omega)) fun ad had => ?_
  refine ldN_at had rfl ?_
  refine h4.new fun w5 hb h5 k5 => ?_
  generalize ehi : nthF c.nums (c.nums.length - 1) = hi
  refine h5.stN 0 rfl (by simp) rfl (Fg.enc_one hi) (lay_full rfl rfl) fun w6 h6 k6 => ?_
  have h7 := h6.turn (n := 3) (g := fT) rfl Keep.refl trivial (fun k hk => hk.elim)
  have h7 : Sep (fun _ => False) w w6 [fB tb ft0.enc, fB hb hi.enc, fB lb lo.enc] := ⟨h6.kept, fun f hf => h6.all f (by simp [List.set] at hf ⊢; grind), fun f hf => h6.own f (by simp [List.set] at hf ⊢; grind), by
    have := h6.dis
    simp only [List.set, List.pairwise_cons, List.mem_cons, List.not_mem_nil, or_false, forall_eq_or_imp, forall_eq, List.Pairwise.nil, and_true] at this ⊢
    exact ⟨⟨this.1.2.1.symm, this.2.1.1.symm⟩, this.1.1, by simp⟩⟩
  unfold snPorts at hk
  simp only [elo, ehi] at hk
  have fin : ∀ (u : World) (fb : Nat), Sep (fun _ => False) w u [fB fb (snFirst [snWithin lo 0 65535, snWithin hi 0 65535, snWithin hi lo.n 65535]).enc, fB tb ft0.enc, fB hb hi.enc, fB lb lo.enc] → sense_ports.s7 Z K ⟨tb, 0, none⟩ ⟨lb, 0, none⟩ ⟨hb, 0, none⟩ ⟨fb, 0, none⟩ u := fun u fb h => by
    unfold sense_ports.s7
    generalize snFirst [snWithin lo 0 65535, snWithin hi 0 65535, snWithin hi lo.n 65535] = f at h hk
    refine h.drawn (fun w' => IsB w' lb lo.enc ∧ IsB w' hb hi.enc ∧ IsB w' fb f.enc) ⟨h.drew.at (n := 3) rfl, h.drew.at (n := 2) rfl, h.drew.at (n := 0) rfl⟩ fun h => ?_
    refine hI_of (n := lo.n) (fun w' hw' => by rw [add_mk]; exact hw'.1.cell 0) ?_
    refine hI_of (n := hi.n) (fun w' hw' => by rw [add_mk]; exact hw'.2.1.cell 0) ?_
    refine hN_of (cs := f.enc) rfl (fun w' hw' => cellsAt_B hw'.2.2 rfl) ?_
    refine h.stN 1 rfl (by simp [Ft.enc]) rfl (Ft.enc_one _) (lay_full rfl rfl) fun w2 h2 k2 => ?_
    refine h2.ldN 1 rfl (vs := f.enc) rfl rfl ?_
    exact hk w2 h2.kept
  refine h7.drawn (fun w' => IsB w' lb lo.enc ∧ IsB w' hb hi.enc) ⟨h7.drew.at (n := 2) rfl, h7.drew.at (n := 1) rfl⟩ fun h9 => ?_
  refine hN_of (cs := lo.enc) rfl (fun w' hw' => cellsAt_B hw'.1 rfl) ?_
  refine hN_of (cs := hi.enc) rfl (fun w' hw' => cellsAt_B hw'.2 rfl) ?_
  refine hN_of (cs := hi.enc) rfl (fun w' hw' => cellsAt_B hw'.2 rfl) ?_
  refine hI_of (n := lo.n) (fun w' hw' => by rw [add_mk]; exact hw'.1.cell 0) ?_
  constructor
  · skip
    refine within_cal fun w11 k11 => ?_
    have h11 := h9.ext k11
    refine sAnd_of ⟨h11.all (fB lb lo.enc) (by simp), h11.all (fB hb hi.enc) (by simp)⟩ ?_
    constructor
    · skip
      refine within_cal fun w12 k12 => ?_
      have h12 := h11.ext k12
      refine sAnd_of ⟨h12.all (fB lb lo.enc) (by simp), h12.all (fB hb hi.enc) (by simp)⟩ ?_
      constructor
      · skip
        refine within_cal fun w13 k13 => ?_
        have h13 := h12.ext k13
        refine sAnd_of ⟨h13.all (fB lb lo.enc) (by simp), h13.all (fB hb hi.enc) (by simp)⟩ ?_
        constructor
        · skip
          refine cnd_of rfl (cnd_of rfl (cnd_of rfl ?_))
          refine h13.new fun w14 ab h14 k14 => ?_
          refine sAnd_of ⟨h14.all (fB lb lo.enc) (by simp), h14.all (fB hb hi.enc) (by simp)⟩ ?_
          constructor
          · skip
            refine first_cal' (three_ro (h14.at (n := 0) rfl)) fun w15 k15 => ?_
            have h15 := h14.ext k15
            refine sAnd_of ⟨h15.all (fB lb lo.enc) (by simp), h15.all (fB hb hi.enc) (by simp)⟩ ?_
            refine h15.new fun w16 fb h16 k16 => ?_
            refine sAnd_of ⟨h16.all (fB lb lo.enc) (by simp), h16.all (fB hb hi.enc) (by simp)⟩ ?_
            refine h16.stN 0 rfl (by simp) rfl (Ft.enc_one _) (lay_full rfl rfl) fun w17 h17 k17 => ?_
            exact fin _ _ (h17.sub (by simp [List.set]))
          · skip
            refine h14.new fun w18 fb h18 k18 => ?_
            refine sAnd_of ⟨h18.all (fB lb lo.enc) (by simp), h18.all (fB hb hi.enc) (by simp)⟩ ?_
            refine first_cal' (three_ro (h18.at (n := 1) rfl)) fun w19 k19 => ?_
            have h19 := h18.ext k19
            refine sAnd_of ⟨h19.all (fB lb lo.enc) (by simp), h19.all (fB hb hi.enc) (by simp)⟩ ?_
            refine h19.stN 0 rfl (by simp) rfl (Ft.enc_one _) (lay_full rfl rfl) fun w20 h20 k20 => ?_
            exact fin _ _ (h20.sub (by simp [List.set]))
        · skip
          refine h13.new fun w21 fb h21 k21 => ?_
          refine sAnd_of ⟨h21.all (fB lb lo.enc) (by simp), h21.all (fB hb hi.enc) (by simp)⟩ ?_
          refine cnd_of rfl (cnd_of rfl (cnd_of rfl ?_))
          refine h21.new fun w22 ab h22 k22 => ?_
          refine sAnd_of ⟨h22.all (fB lb lo.enc) (by simp), h22.all (fB hb hi.enc) (by simp)⟩ ?_
          refine first_cal' (three_ro (h22.at (n := 0) rfl)) fun w23 k23 => ?_
          have h23 := h22.ext k23
          refine sAnd_of ⟨h23.all (fB lb lo.enc) (by simp), h23.all (fB hb hi.enc) (by simp)⟩ ?_
          refine h23.stN 1 rfl (by simp) rfl (Ft.enc_one _) (lay_full rfl rfl) fun w24 h24 k24 => ?_
          exact fin _ _ (h24.sub (by simp [List.set]))
      · skip
        refine h12.new fun w25 fb h25 k25 => ?_
        refine sAnd_of ⟨h25.all (fB lb lo.enc) (by simp), h25.all (fB hb hi.enc) (by simp)⟩ ?_
        refine within_cal fun w26 k26 => ?_
        have h26 := h25.ext k26
        refine sAnd_of ⟨h26.all (fB lb lo.enc) (by simp), h26.all (fB hb hi.enc) (by simp)⟩ ?_
        refine cnd_of rfl (cnd_of rfl (cnd_of rfl ?_))
        refine h26.new fun w27 ab h27 k27 => ?_
        refine sAnd_of ⟨h27.all (fB lb lo.enc) (by simp), h27.all (fB hb hi.enc) (by simp)⟩ ?_
        refine first_cal' (three_ro (h27.at (n := 0) rfl)) fun w28 k28 => ?_
        have h28 := h27.ext k28
        refine sAnd_of ⟨h28.all (fB lb lo.enc) (by simp), h28.all (fB hb hi.enc) (by simp)⟩ ?_
        refine h28.stN 1 rfl (by simp) rfl (Ft.enc_one _) (lay_full rfl rfl) fun w29 h29 k29 => ?_
        exact fin _ _ (h29.sub (by simp [List.set]))
    · skip
      refine h11.new fun w30 fb h30 k30 => ?_
      refine sAnd_of ⟨h30.all (fB lb lo.enc) (by simp), h30.all (fB hb hi.enc) (by simp)⟩ ?_
      refine within_cal fun w31 k31 => ?_
      have h31 := h30.ext k31
      refine sAnd_of ⟨h31.all (fB lb lo.enc) (by simp), h31.all (fB hb hi.enc) (by simp)⟩ ?_
      refine within_cal fun w32 k32 => ?_
      have h32 := h31.ext k32
      refine sAnd_of ⟨h32.all (fB lb lo.enc) (by simp), h32.all (fB hb hi.enc) (by simp)⟩ ?_
      refine cnd_of rfl (cnd_of rfl (cnd_of rfl ?_))
      refine h32.new fun w33 ab h33 k33 => ?_
      refine sAnd_of ⟨h33.all (fB lb lo.enc) (by simp), h33.all (fB hb hi.enc) (by simp)⟩ ?_
      refine first_cal' (three_ro (h33.at (n := 0) rfl)) fun w34 k34 => ?_
      have h34 := h33.ext k34
      refine sAnd_of ⟨h34.all (fB lb lo.enc) (by simp), h34.all (fB hb hi.enc) (by simp)⟩ ?_
      refine h34.stN 1 rfl (by simp) rfl (Ft.enc_one _) (lay_full rfl rfl) fun w35 h35 k35 => ?_
      exact fin _ _ (h35.sub (by simp [List.set]))
  · skip
    refine h9.new fun w36 fb h36 k36 => ?_
    refine sAnd_of ⟨h36.all (fB lb lo.enc) (by simp), h36.all (fB hb hi.enc) (by simp)⟩ ?_
    refine within_cal fun w37 k37 => ?_
    have h37 := h36.ext k37
    refine sAnd_of ⟨h37.all (fB lb lo.enc) (by simp), h37.all (fB hb hi.enc) (by simp)⟩ ?_
    refine within_cal fun w38 k38 => ?_
    have h38 := h37.ext k38
    refine sAnd_of ⟨h38.all (fB lb lo.enc) (by simp), h38.all (fB hb hi.enc) (by simp)⟩ ?_
    refine within_cal fun w39 k39 => ?_
    have h39 := h38.ext k39
    refine sAnd_of ⟨h39.all (fB lb lo.enc) (by simp), h39.all (fB hb hi.enc) (by simp)⟩ ?_
    refine cnd_of rfl (cnd_of rfl (cnd_of rfl ?_))
    refine h39.new fun w40 ab h40 k40 => ?_
    refine sAnd_of ⟨h40.all (fB lb lo.enc) (by simp), h40.all (fB hb hi.enc) (by simp)⟩ ?_
    refine first_cal' (three_ro (h40.at (n := 0) rfl)) fun w41 k41 => ?_
    have h41 := h40.ext k41
    refine sAnd_of ⟨h41.all (fB lb lo.enc) (by simp), h41.all (fB hb hi.enc) (by simp)⟩ ?_
    refine h41.stN 1 rfl (by simp) rfl (Ft.enc_one _) (lay_full rfl rfl) fun w42 h42 k42 => ?_
    exact fin _ _ (h42.sub (by simp [List.set]))
theorem set_at {L : List Fct} {n : Nat} {f g : Fct} (h : L[n]? = some f) : (L.set n g)[n]? = some g := by
  rw [List.getElem?_set_self (List.getElem?_eq_some_iff.1 h).1]
theorem clause_cal {W : World} {K : List Value → PT} (n : Nat) {x : En} {xb : Nat} {c : Cl} {s : Sl3} (h : Sep (fun _ => False) W w L) (hn : L[n]? = some (fB xb x.enc)) (hr : NumsO W s c.nums) (h0 : c.nums.length ≠ 0) (hk : ∀ w', Sep (fun _ => False) W w' (L.set n (fB xb (snClause x c).1.enc)) → K (snClause x c).2.enc w') :
    cal Tryd.prog Z 49 [.pointer (some ⟨xb, 0, none⟩), .agg ⟨clEnc (c, s)⟩] (isN fun v => K v) w := by
  refine sense_clause.cal ?_
  unfold sense_clause.F sense_clause.s8
  refine h.new fun w1 b1 h1 k1 => ?_
  refine h1.new fun w2 fb h2 k2 => ?_
  simp only [add_mk, Nat.zero_add, nn_some]
  refine h2.ldS 1 (x := c.word) rfl rfl ?_
  have fin : ∀ (x' : En) (f : Ft) (w4 : World), (x', f) = snClause x c → Sep (fun _ => False) W w4 (fB fb ft0.enc :: fB b1 (clEnc (c, s)) :: L.set n (fB xb x'.enc)) → stN 2 ⟨fb, 0, none⟩ f.enc (sense_clause.s5 Z K ⟨fb, 0, none⟩) w4 := fun x' f w4 e h4 => by
    have e1 : x' = (snClause x c).1 := by rw [← e]
    have e2 : f = (snClause x c).2 := by rw [← e]
    refine h4.stN 0 rfl (by simp [Ft.enc]) rfl (Ft.enc_one f) (lay_full rfl rfl) fun w5 h5 k5 => ?_
    unfold sense_clause.s5
    refine h5.ldN 0 rfl (vs := f.enc) rfl rfl ?_
    refine h5.stN 0 rfl (by simp [Ft.enc]) rfl (Ft.enc_one f) (lay_full rfl rfl) fun w6 h6 k6 => ?_
    refine h6.ldN 0 rfl (vs := f.enc) rfl rfl ?_
    subst e1 e2
    exact hk w6 ((h6.drop 0).drop 0)
  unfold snClause at fin
  have h2 : Sep (fun _ => False) W w2 (fB fb ft0.enc :: fB b1 (clEnc (c, s)) :: L) := h2
  have two : ∀ {x' x2 : En} {w3 : World} {i j : Nat} {v u : Value} {f : Ft}, Sep (fun _ => False) W w3 (fB fb ft0.enc :: fB b1 (clEnc (c, s)) :: L) → i < 12 → j < 12 → v.oneCell' = true → u.oneCell' = true → x.enc.set i v = x2.enc → x2.enc.set j u = x'.enc →
      (∀ w4, Sep (fun _ => False) W w4 (fB fb ft0.enc :: fB b1 (clEnc (c, s)) :: L.set n (fB xb x'.enc)) → stN 2 ⟨fb, 0, none⟩ f.enc (sense_clause.s5 Z K ⟨fb, 0, none⟩) w4) →
      st1 ⟨xb, i, none⟩ v (st1 ⟨xb, j, none⟩ u (stN 2 ⟨fb, 0, none⟩ f.enc (sense_clause.s5 Z K ⟨fb, 0, none⟩))) w3 := fun {x' x2 w3 i j v u f} h3 hi hj hv hu ev eu hk => by
    refine h3.st1 (n + 2) hn (by simpa [En.enc] using hi) hv fun w4 h4 k4 => ?_
    rw [ev] at h4
    have h4 : Sep (fun _ => False) W w4 (fB fb ft0.enc :: fB b1 (clEnc (c, s)) :: L.set n (fB xb x2.enc)) := h4
    refine h4.st1 (n + 2) (set_at hn) (by simpa [En.enc] using hj) hu fun w5 h5 k5 => ?_
    rw [eu] at h5
    have h5 : Sep (fun _ => False) W w5 (fB fb ft0.enc :: fB b1 (clEnc (c, s)) :: (L.set n (fB xb x2.enc)).set n (fB xb x'.enc)) := h5
    rw [List.set_set] at h5
    exact hk w5 h5
  change pif (same c.word wSrc) _ (pif (same c.word wDst) _ (pif (same c.word wSport) _ (pif (same c.word wDport) _ _))) w2
  cases e1 : same c.word wSrc with
  | true =>
    rw [pif_true]
    refine h2.ldN 1 rfl (vs := clEnc (c, s)) rfl rfl ?_
    refine addr_cal (hr.ext h2.kept) fun w3 k3 => ?_
    rw [if_pos e1] at fin
    exact two (x' := { x with src := (snAddr c.nums 0 0 32).1, srcBits := (snAddr c.nums 0 0 32).2.1 }) (x2 := { x with src := (snAddr c.nums 0 0 32).1 }) (h2.ext k3) (by decide) (by decide) rfl rfl rfl rfl fun w4 h4 => fin _ _ w4 rfl h4
  | false =>
    rw [pif_false]
    rw [if_neg (by simp [e1])] at fin
    cases e2 : same c.word wDst with
    | true =>
      rw [pif_true]
      refine h2.ldN 1 rfl (vs := clEnc (c, s)) rfl rfl ?_
      refine addr_cal (hr.ext h2.kept) fun w3 k3 => ?_
      rw [if_pos e2] at fin
      exact two (x' := { x with dst := (snAddr c.nums 0 0 32).1, dstBits := (snAddr c.nums 0 0 32).2.1 }) (x2 := { x with dst := (snAddr c.nums 0 0 32).1 }) (h2.ext k3) (by decide) (by decide) rfl rfl rfl rfl fun w4 h4 => fin _ _ w4 rfl h4
    | false =>
      rw [pif_false]
      rw [if_neg (by simp [e2])] at fin
      cases e3 : same c.word wSport with
      | true =>
        rw [pif_true]
        refine h2.ldN 1 rfl (vs := clEnc (c, s)) rfl rfl ?_
        refine ports_cal (hr.ext h2.kept) h0 fun w3 k3 => ?_
        rw [if_pos e3] at fin
        exact two (x' := { x with sLow := (snPorts c.nums).1, sHigh := (snPorts c.nums).2.1 }) (x2 := { x with sLow := (snPorts c.nums).1 }) (h2.ext k3) (by decide) (by decide) rfl rfl rfl rfl fun w4 h4 => fin _ _ w4 rfl h4
      | false =>
        rw [pif_false]
        rw [if_neg (by simp [e3])] at fin
        cases e4 : same c.word wDport with
        | true =>
          rw [pif_true]
          refine h2.ldN 1 rfl (vs := clEnc (c, s)) rfl rfl ?_
          refine ports_cal (hr.ext h2.kept) h0 fun w3 k3 => ?_
          rw [if_pos e4] at fin
          exact two (x' := { x with dLow := (snPorts c.nums).1, dHigh := (snPorts c.nums).2.1 }) (x2 := { x with dLow := (snPorts c.nums).1 }) (h2.ext k3) (by decide) (by decide) rfl rfl rfl rfl fun w4 h4 => fin _ _ w4 rfl h4
        | false =>
          rw [pif_false]
          rw [if_neg (by simp [e4])] at fin
          have n0 := nth_at (show 0 < c.nums.length by omega)
          refine h2.ldL 1 (x := s.a) (y := s.n) (z := s.c) rfl rfl ?_
          refine ixS_Ro (i := 0) (hr.ext h2.kept) n0 fun ad had => ?_
          refine ldI_at had (n := (nthF c.nums 0).n) rfl ?_
          refine h2.st1 (n + 2) hn (by simp [En.enc]) rfl fun w4 h4 k4 => ?_
          have h4 : Sep (fun _ => False) W w4 (fB fb ft0.enc :: fB b1 (clEnc (c, s)) :: L.set n (fB xb ({ x with proto := (nthF c.nums 0).n } : En).enc)) := h4
          refine h4.ldL 1 (x := s.a) (y := s.n) (z := s.c) rfl rfl ?_
          refine ixS_Ro (i := 0) (hr.ext h4.kept) n0 fun ad had => ?_
          refine ldN_at had rfl ?_
          refine within_cal fun w5 k5 => ?_
          exact fin { x with proto := (nthF c.nums 0).n } _ w5 rfl (h4.ext k5)
end
end Go.Proofs.YtllgjjldnnmjkaaDoor
