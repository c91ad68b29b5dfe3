/-
  The program's Check and Read. No condition.
-/
import Derived.Test.YtllgjjldnnmjkaaDoorSense3
import Derived.Test.YtllgjjldnnmjkaaDoorParse9
set_option linter.unusedVariables false
set_option linter.unusedSimpArgs false
set_option maxRecDepth 100000
namespace Go.Proofs.YtllgjjldnnmjkaaDoor
open Go.RowKit
/-- Entries in a slice. -/
abbrev fE (o : Sl3) (l : List En) : Fct := fL 35 12 En.enc o.a o.n o.c l
section
variable {Z : List PanicEntry → PT} {Q : Option Addr → Nat → Nat → Int → Int → PT} {W w : World} {s : Sl3} {R : List En × Int × Int} {size : Int}
theorem Sep.eNil {M : List Fct} (h : Sep (fun _ => False) W w M) : Sep (fun _ => False) W w [fE ⟨none, 0, 0⟩ []] :=
  ⟨h.kept, fun f hf => by rw [List.mem_singleton.1 hf]; exact Lst.nil, fun f hf k hk => by
    rw [List.mem_singleton.1 hf] at hk
    obtain ⟨p, hp, _⟩ := hk
    exact absurd hp (by simp), by simp⟩
theorem rows_loop {ps : List (Rw × Sl3)} (hr : Ro W 8 rwEnc s.a s.n s.c ps) (hp : ∀ p ∈ ps, ClsO W p.2 p.1.clauses) (hq : ∀ w' o, Sep (fun _ => False) W w' [fE o R.1] → Q o.a o.n o.c R.2.1 R.2.2 w') :
    ∀ (m j : Nat) (had : Bool) (out : List En) (o : Sl3) (w : World), ps.length = j + m → j ≤ 64 → out.length = j → snRows ((ps.drop j).map Prod.fst) j had out size = R → Sep (fun _ => False) W w [fE o out] →
    sense_Check.l19 Z Q (m + 1) size o.a o.n o.c had s.a s.n s.c ((s.n : Nat) : Int) j w := by
  have hmax := hr.max
  have hn := hr.1
  intro m
  induction m with
  | zero =>
    intro j had out o w hm hj ho he h
    unfold sense_Check.l19 sense_Check.s80
    rw [pif_dec, if_neg (by omega)]
    unfold sense_Check.s9
    rw [List.drop_eq_nil_of_le (by omega)] at he
    simp only [List.map_nil] at he
    unfold snRows at he
    cases had with
    | true => rw [if_pos rfl] at he; subst he; exact hq w o h
    | false => rw [if_neg (by decide)] at he; subst he; exact hq w ⟨none, 0, 0⟩ h.eNil
  | succ m ih =>
    intro j had out o w hm hj ho he h
    have hx := List.getElem?_eq_getElem (show j < ps.length by omega)
    have hmem := List.getElem_mem (show j < ps.length by omega)
    have hd := List.drop_eq_getElem_cons (show j < ps.length by omega)
    unfold sense_Check.l19 sense_Check.s80
    rw [pif_dec, if_pos (by omega)]
    unfold sense_Check.s76
    refine ixS_Ro (hr.ext h.kept) hx fun ad hcell => ?_
    refine ldN_at hcell rfl ?_
    rw [hd] at he
    have hcls := hp _ hmem
    generalize ps[j] = q at hx hd he hcls
    obtain ⟨r, sr⟩ := q
    simp only [List.map_cons] at he
    unfold snRows at he
    simp only at he hcls
    refine h.new fun w1 rb h1 k1 => ?_
    refine h1.stN 0 rfl (by simp) rfl (rwEnc_one _) (lay_full rfl rfl) fun w2 h2 k2 => ?_
    refine h2.new fun w3 xb h3 k3 => ?_
    refine h3.new fun w4 fb h4 k4 => ?_
    have h4 : Sep (fun _ => False) W w4 [fB fb ft0.enc, fB xb en0.enc, fB rb (rwEnc (r, sr)), fE o out] := h4
    -- the row's end
    have fin : ∀ (x : En) (f : Ft) (hd' : Bool) (w : World), (if f.e ≠ 0 then ([], f.e, f.p) else snRows ((ps.drop (j + 1)).map Prod.fst) (j + 1) hd' (out ++ [x]) size) = R → (f.e = 0 → j < 64) →
        Sep (fun _ => False) W w [fB fb f.enc, fB xb x.enc, fB rb (rwEnc (r, sr)), fE o out] → sense_Check.s46 Z Q (sense_Check.l19 Z Q (m + 1)) size o.a o.n o.c hd' ⟨xb, 0, none⟩ ⟨fb, 0, none⟩ s.a s.n s.c ((s.n : Nat) : Int) j w := fun x f hd' w he hlt h => by
      unfold sense_Check.s46
      simp only [add_mk, Nat.zero_add]
      refine h.ldI 0 (x := f.e) rfl rfl ?_
      rw [pif_bne]
      split
      · rename_i e0
        rw [if_neg (by simpa using e0)] at he
        refine h.ldN 1 (vs := x.enc) rfl rfl rfl (cnd_of rfl ?_)
        simp only [List.append_nil]
        refine h.new fun w1 nb h1 k1 => ?_
        refine h1.app 4 rfl (bytes := 96) (z := .agg #[.bool false, .int .i64 0, .int .u32 0, .int .i64 0, .int .u32 0, .int .i64 0, .int .i64 0, .int .i64 0, .int .i64 0, .int .i64 0, .int .i64 0, .int .i64 0]) Tryd.underlying23 (by kernel_rfl) rfl (by decide) En.enc_len (En.enc_one x) (fun i u hu => by rw [add_mk, Nat.zero_add, (h1.at (n := 0) rfl : IsB w1 nb x.enc).cell]; exact hu) (by decide) (by omega) fun a' c' w2 h2 k2 => ?_
        unfold sense_Check.s29
        rw [wrap_nat1 (by omega)]
        have hlt := hlt e0
        exact ih (j + 1) hd' (out ++ [x]) ⟨a', o.n + 1, c'⟩ w2 (by omega) (by omega) (by simp [ho]) he ((((h2.drop 0).drop 0).drop 0).drop 0)
      · rename_i e0
        rw [if_pos e0] at he
        subst he
        refine h.drew.ldI 0 (x := f.e) rfl rfl (h.drew.ldI 0 (x := f.p) rfl rfl ?_)
        exact hq w.drew ⟨none, 0, 0⟩ h.drew.eNil
    have act : ∀ (x : En) (f : Ft) (hd' : Bool) (w : World), (if (snAct r x f).2.e ≠ 0 then ([], (snAct r x f).2.e, (snAct r x f).2.p) else snRows ((ps.drop (j + 1)).map Prod.fst) (j + 1) hd' (out ++ [(snAct r x f).1]) size) = R → (f.e = 0 → j < 64) →
        Sep (fun _ => False) W w [fB fb f.enc, fB xb x.enc, fB rb (rwEnc (r, sr)), fE o out] → sense_Check.s50 Z Q (sense_Check.l19 Z Q (m + 1)) size o.a o.n o.c hd' ⟨rb, 0, none⟩ ⟨xb, 0, none⟩ ⟨fb, 0, none⟩ s.a s.n s.c ((s.n : Nat) : Int) j w := fun x f hd' w he hlt h => by
      unfold sense_Check.s50
      simp only [add_mk, Nat.zero_add]
      refine h.ldI 0 (x := f.e) rfl rfl ?_
      unfold snAct at he
      rw [pif_beq]
      split
      · rename_i e0
        refine h.ldB 2 (x := r.drop) rfl rfl ?_
        cases ed : r.drop with
        | true =>
          rw [if_neg (show ¬ (f.e = 0 ∧ r.drop = false) from by simp [ed])] at he
          exact fin x f hd' w he hlt h
        | false =>
          rw [if_pos (show f.e = 0 ∧ r.drop = false from ⟨e0, ed⟩)] at he
          rw [pif_not, pif_false]
          refine h.ldN 2 (vs := r.port.enc) rfl rfl rfl ?_
          refine within_cal fun w1 k1 => ?_
          have h1 := h.ext k1
          refine h1.stN 0 rfl (by simp [Ft.enc]) rfl (Ft.enc_one _) (lay_full rfl rfl) fun w2 h2 k2 => ?_
          refine h2.ldI 2 (x := r.port.n) rfl rfl ?_
          refine h2.st1 1 rfl (by simp [En.enc]) rfl fun w3 h3 k3 => ?_
          exact fin { x with action := r.port.n } _ hd' w3 he (fun _ => hlt e0) h3
      · rename_i e0
        rw [if_neg (show ¬ (f.e = 0 ∧ r.drop = false) from fun g => e0 g.1)] at he
        exact fin x f hd' w he hlt h
    unfold sense_Check.s72
    unfold snRow at he
    rw [pif_beq]
    split
    · rename_i e0
      rw [if_pos (show j = 64 by omega)] at he
      unfold sense_Check.s60
      simp only [add_mk, Nat.zero_add]
      refine h4.ldI 2 (x := r.pos) rfl rfl ?_
      refine h4.stN 0 rfl (by simp [Ft.enc, ft0]) rfl (Ft.enc_one ⟨4, r.pos⟩) (lay_full rfl rfl) fun w5 h5 k5 => ?_
      exact act en0 ⟨4, r.pos⟩ _ w5 he (fun e => absurd e (by simp)) h5
    · rename_i e0
      rw [if_neg (show ¬ j = 64 by omega)] at he
      have hlt : j < 64 := by omega
      unfold sense_Check.s69
      simp only [add_mk, Nat.zero_add]
      refine h4.ldB 2 (x := r.default) rfl rfl ?_
      cases ed : r.default with
      | true =>
        rw [pif_true]
        unfold sense_Check.s67
        simp only [add_mk, Nat.zero_add]
        cases hh : had with
        | true => 
          rw [if_pos (show r.default = true ∧ had = true from ⟨ed, hh⟩)] at he
          rw [pif_true]
          refine h4.ldI 2 (x := r.pos) rfl rfl ?_
          refine h4.stN 0 rfl (by simp [Ft.enc, ft0]) rfl (Ft.enc_one ⟨9, r.pos⟩) (lay_full rfl rfl) fun w5 h5 k5 => ?_
          rw [hh] at he
          exact act en0 ⟨9, r.pos⟩ _ w5 he (fun e => absurd e (by simp)) h5
        | false =>
          rw [if_neg (show ¬ (r.default = true ∧ had = true) from by simp [hh]), if_pos ed] at he
          rw [pif_false]
          refine h4.ldB 2 (x := r.default) rfl rfl ?_
          rw [ed, pif_true]
          refine h4.st1 1 rfl (by simp [En.enc, en0]) rfl fun w5 h5 k5 => ?_
          exact act { en0 with default := true } ft0 true w5 he (fun _ => hlt) h5
      | false =>
        rw [pif_false]
        unfold sense_Check.s67
        simp only [add_mk, Nat.zero_add]
        rw [if_neg (show ¬ (r.default = true ∧ had = true) from by simp [ed]), if_neg (show ¬ r.default = true from by simp [ed])] at he
        rw [pif_false]
        refine h4.ldB 2 (x := r.default) rfl rfl ?_
        rw [ed, pif_false]
        refine h4.ldN 2 (vs := rwEnc (r, sr)) rfl rfl rfl ?_
        refine line_cal (hcls.ext h4.kept) fun w5 k5 => ?_
        have h5 := h4.ext k5
        refine h5.stN 1 rfl (by simp [En.enc, en0]) rfl (En.enc_one _) (lay_full rfl rfl) fun w6 h6 k6 => ?_
        refine h6.stN 0 rfl (by simp [Ft.enc, ft0]) rfl (Ft.enc_one _) (lay_full rfl rfl) fun w7 h7 k7 => ?_
        exact act _ _ _ w7 he (fun _ => hlt) h7
theorem check_cal {K : Option Addr → Nat → Nat → Int → Int → PT} {l : List Rw} (hc : RwsO w s l) (hk : ∀ w' o, Sep (fun _ => False) w w' [fE o (snCheck l size).1] → K o.a o.n o.c (snCheck l size).2.1 (snCheck l size).2.2 w') :
    cal Tryd.prog Z 16 [.slice s.a s.n s.c, .int .i64 size] (isT3 fun x y z => (isL fun r0 r0n r0c => (isI .i64 fun r1 => (isI .i64 fun r2 => K r0 r0n r0c r1 r2) z) y) x) w := by
  refine sense_Check.cal ?_
  unfold sense_Check.F sense_Check.s89 sense_Check.s86
  obtain ⟨ps, p1, p2, p3⟩ := hc
  subst p1
  exact exK_of (ps.length + 1) (rows_loop p2 p3 hk ps.length 0 false [] ⟨none, 0, 0⟩ w (by omega) (by omega) rfl rfl (Sep.start (fun _ => False) w).eNil)
theorem read_cal {K : Option Addr → Nat → Nat → Int → Int → PT} {t : ByteArray} (hk : ∀ w' o, Sep (fun _ => False) w w' [fE o (snRead t).1] → K o.a o.n o.c (snRead t).2.1 (snRead t).2.2 w') :
    cal Tryd.prog Z 12 [.string t] (isT3 fun x y z => (isL fun r0 r0n r0c => (isI .i64 fun r1 => (isI .i64 fun r2 => K r0 r0n r0c r1 r2) z) y) x) w := by
  refine sense_Read.cal ?_
  unfold sense_Read.F
  unfold snRead at hk
  refine parse_cal fun s3 w1 r1 k1 => ?_
  show pif _ _ _ w1
  rw [pif_bne]
  split
  · rename_i e0
    rw [if_neg (by simpa using e0)] at hk
    refine check_cal (RwsO.of_at r1) fun w2 o h2 => ?_
    exact hk w2 o ⟨k1.trans h2.kept, h2.all, fun f hf k hk => (h2.own f hf k hk).imp (fun g => Nat.le_trans k1.size g) id, h2.dis⟩
  · rename_i e0
    rw [if_pos e0] at hk
    exact hk w1 ⟨none, 0, 0⟩ ((Sep.start (fun _ => False) w).ext k1).eNil
end
end Go.Proofs.YtllgjjldnnmjkaaDoor
