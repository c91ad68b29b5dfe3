/-
  The program's begins, Applies, Which, Says. No condition.
-/
import Derived.Test.YtllgjjldnnmjkaaDoorSayS
import Derived.Test.YtllgjjldnnmjkaaDoorSense4
set_option linter.unusedVariables false
set_option linter.unusedSimpArgs false
set_option maxRecDepth 100000
namespace Go.Proofs.YtllgjjldnnmjkaaDoor
open Go.RowKit
theorem clamp_in (n : Int) : 0 ≤ (if (if 32 < n then 32 else n) > 0 then (if 32 < n then 32 else n) else 0) ∧ (if (if 32 < n then 32 else n) > 0 then (if 32 < n then 32 else n) else 0) ≤ 32 := by
  split <;> split <;> omega
section
variable {Z : List PanicEntry → PT} {W w : World} {h : List UInt8} {x : En}
theorem begins_cal {K : Bool → PT} {a b : Nat} {n : Int} (ha : a < 4294967296) (hb : b < 4294967296) (hk : K (begN a b (clI n)) w) : cal Tryd.prog Z 33 [.int .u32 (a : Int), .int .u32 (b : Int), .int .i64 n] (isB fun v => K v) w := by
  refine sense_begins.cal ?_
  unfold sense_begins.F
  have hc := clamp_in n
  unfold begN clI at hk
  generalize (if (if 32 < n then 32 else n) > 0 then (if 32 < n then 32 else n) else 0) = c at hc hk ⊢
  rw [wrap_in (by omega) (by omega)]
  refine cnd_of (by omega) ?_
  rw [BitVec.toNat_xor, ofN32 ha, ofN32 hb, wrapU32, wrapU64]
  have hx : a ^^^ b < 4294967296 := Nat.xor_lt_two_pow (n := 32) ha hb
  rw [Nat.mod_eq_of_lt hx, Nat.mod_eq_of_lt (Nat.lt_trans hx (by decide))]
  rw [show min ((32 : Int) - c).toNat (IntKind.bits .u64) = 32 - c.toNat by show min _ 64 = _; omega, powN, fdivN]
  have e : ((((a ^^^ b) / 2 ^ (32 - c.toNat) : Nat) : Int) == 0) = ((a ^^^ b) / 2 ^ (32 - c.toNat) == 0) := by
    rw [Bool.eq_iff_iff, beq_iff_eq, beq_iff_eq]; omega
  rw [e]
  exact hk
def valsH (h : List UInt8) (j : Nat) : List Value := (List.range 5).map fun i => .int .i64 (if i < j then (hf h i : Int) else 0)
theorem valsH_len (h : List UInt8) (j : Nat) : (valsH h j).length = 5 := by simp [valsH]
theorem valsH_set {j : Nat} (hj : j < 5) : (valsH h j).set j (.int .i64 (hf h j : Int)) = valsH h (j + 1) := by
  match j, hj with
  | 0, _ => rfl
  | 1, _ => rfl
  | 2, _ => rfl
  | 3, _ => rfl
  | 4, _ => rfl
theorem app_loop {Q : Bool → PT} {xb hb vb : Nat} (hv : Places W) (hl : h.length = 13)
    (hk : ∀ w', Sep (fun _ => False) W w' [fB vb (valsH h 5), fB hb (encH h), fB xb x.enc] → sense_Applies.s9 Z Q ⟨xb, 0, none⟩ ⟨vb, 0, none⟩ w') :
    ∀ (m j : Nat) (w : World), 5 = j + m → Sep (fun _ => False) W w [fB vb (valsH h j), fB hb (encH h), fB xb x.enc] → sense_Applies.l19 Z Q (m + 1) ⟨xb, 0, none⟩ ⟨hb, 0, none⟩ ⟨vb, 0, none⟩ j w := by
  intro m
  induction m with
  | zero =>
    intro j w hm g
    unfold sense_Applies.l19 sense_Applies.s22
    rw [pif_dec, if_neg (by omega)]
    rw [show j = 5 by omega] at g
    exact hk w g
  | succ m ih =>
    intro j w hm g
    unfold sense_Applies.l19 sense_Applies.s22
    rw [pif_dec, if_pos (by omega)]
    refine g.ldN 1 rfl (sub13 hl) (len13 hl) ?_
    refine field_cal (hv.ext g.kept) hl fun w1 k1 => ?_
    have g1 := g.ext k1
    refine cnd_of ⟨by omega, by omega⟩ ?_
    have hlt := hf_lt h (show j < 5 by omega)
    simp only [add_mk, Nat.zero_add, Nat.mul_one, Int.toNat_natCast]
    rw [show ((fieldI h (j : Int)).1 : Int) = (hf h j : Int) from rfl, wrap_in (by omega) (by omega), wrap_nat1 (by omega)]
    refine g1.st1 0 rfl (by rw [valsH_len]; omega) rfl fun w2 g2 k2 => ?_
    rw [valsH_set (show j < 5 by omega)] at g2
    exact ih (j + 1) w2 (by omega) g2
theorem applies_cal {K : Bool → PT} (hv : Places w) (hl : h.length = 13) (hx : x.Ok) (hk : ∀ w', Ext w w' → K (snApp x h) w') : cal Tryd.prog Z 18 [.agg ⟨x.enc⟩, .agg ⟨encH h⟩] (isB fun v => K v) w := by
  refine sense_Applies.cal ?_
  unfold sense_Applies.F sense_Applies.s33
  refine (Sep.start (fun _ => False) w).new fun w1 xb h1 k1 => ?_
  refine h1.new fun w2 hb h2 k2 => ?_
  simp only [add_mk, Nat.zero_add]
  refine h2.ldB 1 (x := x.default) rfl rfl ?_
  unfold snApp at hk
  rw [pif_bool]
  split
  · rename_i e0
    rw [if_pos e0] at hk
    exact hk w2 h2.kept
  rename_i e0
  rw [if_neg e0] at hk
  refine h2.new fun w3 vb h3 k3 => ?_
  unfold sense_Applies.s30
  have h3 : Sep (fun _ => False) w w3 [fB vb (valsH h 0), fB hb (encH h), fB xb x.enc] := h3
  refine exK_of 6 (app_loop hv hl (fun w4 h4 => ?_) 5 0 w3 (by omega) h3)
  unfold sense_Applies.s9
  simp only [add_mk, Nat.zero_add]
  have f0 := hf_lt h (show 0 < 5 by omega)
  have f1 := hf_lt h (show 1 < 5 by omega)
  have es : x.src = (x.src.toNat : Int) := by have := hx.s0; omega
  have ed : x.dst = (x.dst.toNat : Int) := by have := hx.d0; omega
  have s1 := hx.s1
  have d1 := hx.d1
  refine cnd_of ⟨by omega, by omega⟩ ?_
  refine h4.ldI 0 (x := (hf h 0 : Int)) rfl rfl (h4.ldI 2 (x := x.src) rfl rfl (h4.ldI 2 (x := x.srcBits) rfl rfl ?_))
  rw [wrapU32, Nat.mod_eq_of_lt f0, es]
  refine begins_cal f0 (by omega) ?_
  cases e1 : begN (hf h 0) x.src.toNat (clI x.srcBits) with
  | false =>
    rw [pif_false]
    rw [if_pos e1] at hk
    exact hk w4 h4.kept
  | true =>
  rw [pif_true]
  rw [if_neg (by simp [e1])] at hk
  refine cnd_of ⟨by omega, by omega⟩ ?_
  refine h4.ldI 0 (x := (hf h 1 : Int)) rfl rfl (h4.ldI 2 (x := x.dst) rfl rfl (h4.ldI 2 (x := x.dstBits) rfl rfl ?_))
  rw [wrapU32, Nat.mod_eq_of_lt f1, ed]
  refine begins_cal f1 (by omega) ?_
  cases e2 : begN (hf h 1) x.dst.toNat (clI x.dstBits) with
  | false =>
    rw [pif_false]
    rw [if_pos e2] at hk
    exact hk w4 h4.kept
  | true =>
  rw [pif_true]
  rw [if_neg (by simp [e2])] at hk
  refine cnd_of ⟨by omega, by omega⟩ (h4.ldI 0 (x := (hf h 2 : Int)) rfl rfl (h4.ldI 2 (x := x.sLow) rfl rfl ?_))
  rw [pif_dec]
  split
  case isFalse e3 => rw [if_pos e3] at hk; exact hk w4 h4.kept
  rename_i e3
  rw [if_neg (not_not_intro e3)] at hk
  refine cnd_of ⟨by omega, by omega⟩ (h4.ldI 0 (x := (hf h 2 : Int)) rfl rfl (h4.ldI 2 (x := x.sHigh) rfl rfl ?_))
  rw [pif_dec]
  split
  case isFalse e3 => rw [if_pos e3] at hk; exact hk w4 h4.kept
  rename_i e4
  rw [if_neg (not_not_intro e4)] at hk
  refine cnd_of ⟨by omega, by omega⟩ (h4.ldI 0 (x := (hf h 3 : Int)) rfl rfl (h4.ldI 2 (x := x.dLow) rfl rfl ?_))
  rw [pif_dec]
  split
  case isFalse e3 => rw [if_pos e3] at hk; exact hk w4 h4.kept
  rename_i e5
  rw [if_neg (not_not_intro e5)] at hk
  refine cnd_of ⟨by omega, by omega⟩ (h4.ldI 0 (x := (hf h 3 : Int)) rfl rfl (h4.ldI 2 (x := x.dHigh) rfl rfl ?_))
  rw [pif_dec]
  split
  case isFalse e3 => rw [if_pos e3] at hk; exact hk w4 h4.kept
  rename_i e6
  rw [if_neg (not_not_intro e6)] at hk
  refine h4.ldI 2 (x := x.proto) rfl rfl ?_
  rw [pif_beq]
  split
  · rename_i e7
    rw [if_pos e7] at hk
    exact hk w4 h4.kept
  · rename_i e7
    rw [if_neg e7] at hk
    refine h4.ldI 2 (x := x.proto) rfl rfl (cnd_of ⟨by omega, by omega⟩ (h4.ldI 0 (x := (hf h 4 : Int)) rfl rfl ?_))
    exact hk w4 h4.kept
/-- Entries that are only read. -/
abbrev EnO (w : World) (o : Sl3) (l : List En) : Prop := Ro w 12 En.enc o.a o.n o.c l
theorem enAt_some {l : List En} {b : Int} (h0 : 0 ≤ b) (h1 : b < l.length) : l[b.toNat]? = some (enAt l b) := by
  unfold enAt
  rw [List.getElem?_eq_getElem (show b.toNat < l.length by omega)]; rfl
theorem ixS_en {l : List En} {o : Sl3} {b : Int} {K : Addr → PT} (hr : EnO w o l) (h0 : 0 ≤ b) (h1 : b < l.length) (hk : ∀ ad, cellsAt w ad (enAt l b).enc → K ad w) : ixS o.a o.n b 12 K w := by
  have := ixS_Ro (i := b.toNat) hr (enAt_some h0 h1) hk
  rwa [Int.toNat_of_nonneg h0] at this
theorem which_loop {Q : Int → PT} {hb : Nat} {o : Sl3} {l : List En} {R : Int} (hv : Places W) (hl : h.length = 13) (hr : EnO W o l) (hok : ∀ x ∈ l, x.Ok) (hq : ∀ w', Ext W w' → Q R w') :
    ∀ (m j : Nat) (b : Int) (w : World), l.length = j + m → b < j → whS l h (l.drop j) j b = R → Sep (fun _ => False) W w [fB hb (encH h)] →
    sense_Which.l18 Z Q (m + 1) o.a o.n o.c ⟨hb, 0, none⟩ b o.a o.n o.c ((o.n : Nat) : Int) j w := by
  have hmax := hr.max
  have hn := hr.1
  intro m
  induction m with
  | zero =>
    intro j b w hm hb' he g
    unfold sense_Which.l18 sense_Which.s65
    rw [pif_dec, if_neg (by omega)]
    rw [List.drop_eq_nil_of_le (by omega)] at he
    subst he
    exact hq w g.kept
  | succ m ih =>
    intro j b w hm hb' he g
    have hx := List.getElem?_eq_getElem (show j < l.length by omega)
    have hmem := List.getElem_mem (show j < l.length by omega)
    have hd := List.drop_eq_getElem_cons (show j < l.length by omega)
    unfold sense_Which.l18 sense_Which.s65
    rw [pif_dec, if_pos (by omega)]
    unfold sense_Which.s61
    refine ixS_Ro (hr.ext g.kept) hx fun ad hcell => ?_
    refine ldN_at hcell rfl ?_
    rw [hd] at he
    have xok := hok _ hmem
    generalize l[j] = x at hx he xok
    refine g.new fun w1 xb g1 k1 => ?_
    refine g1.stN 0 rfl (by simp) rfl (En.enc_one _) (lay_full rfl rfl) fun w2 g2 k2 => ?_
    unfold sense_Which.s58
    refine g2.ldN 0 (vs := x.enc) rfl rfl rfl (g2.ldN 1 rfl (sub13 hl) (len13 hl) ?_)
    refine applies_cal (hv.ext g2.kept) hl xok fun w3 k3 => ?_
    have g3 := g2.ext k3
    unfold whS at he
    have next : ∀ (b : Int) (w : World), b < (j + 1 : Nat) → whS l h (l.drop (j + 1)) (j + 1) b = R → Sep (fun _ => False) W w [fB xb x.enc, fB hb (encH h)] → sense_Which.s28 Z Q (sense_Which.l18 Z Q (m + 1)) o.a o.n o.c ⟨hb, 0, none⟩ b o.a o.n o.c ((o.n : Nat) : Int) j w := fun b w hb1 he g => by
      unfold sense_Which.s28
      rw [wrap_nat1 (by omega)]
      exact ih (j + 1) b w (by omega) hb1 he (g.drop 0)
    rw [pif_not, pif_bool]
    split
    case isFalse ea =>
      rw [if_pos (show snApp x h = false by simpa using ea)] at he
      unfold sense_Which.s45
      exact next b w3 (by omega) he g3
    rename_i ea
    rw [if_neg (show ¬ snApp x h = false by simp [ea])] at he
    unfold sense_Which.s55
    simp only [add_mk, Nat.zero_add]
    rw [pif_dec]
    split
    · rename_i eb
      rw [if_pos eb] at he
      rw [decide_eq_true eb]
      unfold sense_Which.s53
      rw [pif_true]
      exact next j w3 (by omega) he g3
    rename_i eb
    rw [if_neg eb] at he
    have s53 : ∀ w, Sep (fun _ => False) W w [fB xb x.enc, fB hb (encH h)] → ¬ ((enAt l b).default = true ∧ x.default = false) → sense_Which.s53 Z Q (sense_Which.l18 Z Q (m + 1)) o.a o.n o.c ⟨hb, 0, none⟩ b j ⟨xb, 0, none⟩ o.a o.n o.c ((o.n : Nat) : Int) j false w := fun w g en => by
      rw [if_neg en] at he
      unfold sense_Which.s53
      rw [pif_false]
      have g := g.drew
      show ldB _ _ w.drew
      simp only [add_mk, Nat.zero_add]
      refine g.ldB 0 (x := x.default) rfl rfl ?_
      cases xd : x.default with
      | true =>
        rw [if_neg (show ¬ (x.default = false ∧ x.prio > (enAt l b).prio) by simp [xd])] at he
        exact next b _ (by omega) he g
      | false =>
        refine g.ldI 0 (x := x.prio) rfl rfl ?_
        refine ixS_en (hr.ext g.kept) (by omega) (by omega) fun ad hcell => ?_
        refine ldI_at hcell (n := (enAt l b).prio) rfl ?_
        rw [pif_dec]
        split
        · rename_i e1
          rw [if_pos (show x.default = false ∧ x.prio > (enAt l b).prio from ⟨xd, e1⟩)] at he
          exact next j _ (by omega) he g
        · rename_i e1
          rw [if_neg (show ¬ (x.default = false ∧ x.prio > (enAt l b).prio) from fun g => e1 g.2)] at he
          exact next b _ (by omega) he g
    refine ixS_en (hr.ext g3.kept) (by omega) (by omega) fun ad hcell => ?_
    refine ldB_at hcell (n := (enAt l b).default) rfl ?_
    rw [pif_bool]
    split
    · rename_i e1
      refine g3.ldB 0 (x := x.default) rfl rfl ?_
      cases xd : x.default with
      | true => exact s53 w3 g3 (by simp [xd])
      | false =>
        rw [if_pos (show (enAt l b).default = true ∧ x.default = false from ⟨e1, xd⟩)] at he
        unfold sense_Which.s53
        exact next j w3 (by omega) he g3
    · rename_i e1
      exact s53 w3 g3 (fun g => e1 g.1)
theorem which_cal {K : Int → PT} {o : Sl3} {l : List En} (hv : Places w) (hl : h.length = 13) (hr : EnO w o l) (hok : ∀ x ∈ l, x.Ok) (hk : ∀ w', Ext w w' → K (snWhich l h) w') :
    cal Tryd.prog Z 20 [.slice o.a o.n o.c, .agg ⟨encH h⟩] (isI .i64 fun v => K v) w := by
  refine sense_Which.cal ?_
  unfold sense_Which.F sense_Which.s74
  refine (Sep.start (fun _ => False) w).new fun w1 hb h1 k1 => ?_
  unfold sense_Which.s71
  exact exK_of (l.length + 1) (which_loop hv hl hr hok hk l.length 0 (-1) w1 (by omega) (by omega) rfl h1)
theorem says_cal {K : Int → Bool → PT} {o : Sl3} {l : List En} (hv : Places w) (hl : h.length = 13) (hr : EnO w o l) (hok : ∀ x ∈ l, x.Ok) (hk : ∀ w', Ext w w' → K (snSays l h).1 (snSays l h).2 w') :
    cal Tryd.prog Z 21 [.slice o.a o.n o.c, .agg ⟨encH h⟩] (isT2 fun x y => (isI .i64 fun r0 => (isB fun r1 => K r0 r1) y) x) w := by
  refine sense_Says.cal ?_
  unfold sense_Says.F
  refine (Sep.start (fun _ => False) w).new fun w1 hb' h1 k1 => ?_
  refine h1.ldN 0 rfl (sub13 hl) (len13 hl) ?_
  refine which_cal (hv.ext h1.kept) hl (hr.ext h1.kept) hok fun w2 k2 => ?_
  have h2 := h1.ext k2
  unfold snSays at hk
  rw [pif_dec]
  split
  · rename_i e
    rw [if_pos e] at hk
    exact hk w2 h2.kept
  · rename_i e
    rw [if_neg e] at hk
    refine ixS_en (hr.ext h2.kept) (by omega) snWhich_lt fun ad hcell => ?_
    exact ldI_at hcell (n := (enAt l (snWhich l h)).action) rfl (hk w2 h2.kept)
end
end Go.Proofs.YtllgjjldnnmjkaaDoor
