/-
  The document's Begins, Applies, Which, Says. No condition.
-/
import Derived.Test.YtllgjjldnnmjkaaDoorSay1
import Derived.Test.YtllgjjldnnmjkaaDoorCodeRef2
set_option linter.unusedVariables false
set_option linter.unusedSimpArgs false
set_option maxRecDepth 100000
namespace Go.Proofs.YtllgjjldnnmjkaaDoor
open Go.RowKit
section
variable {Z : List PanicEntry → PT} {W w : World} {h : List UInt8} {x : En}
theorem bitAt {a k : Nat} (hk : k < 32) : Int.tmod (Int.fdiv (a : Int) (2 ^ (min (IntKind.wrap .i64 ((31 : Int) - (k : Int))).toNat (IntKind.bits .u32)))) 2 = ((a / 2 ^ (31 - k) % 2 : Nat) : Int) := by
  rw [wrap_in (by omega) (by omega)]
  rw [show min ((31 : Int) - (k : Int)).toNat (IntKind.bits .u32) = 31 - k by show min _ 32 = _; omega, powN, fdivN]
  exact tmodN _ 2
theorem begins2_cal {K : Bool → PT} {a b : Nat} {n : Int} (ha : a < 4294967296) (hb : b < 4294967296) (hk : ∀ w', Ext w w' → K (begN a b (clI n)) w') : cal Tryd.prog Z 34 [.int .u32 (a : Int), .int .u32 (b : Int), .int .i64 n] (isB fun v => K v) w := by
  refine ref07_Begins.cal ?_
  unfold ref07_Begins.F ref07_Begins.s31 ref07_Begins.s28
  have hcl := clI_le n
  have hcn : ∀ k : Nat, k < clI n ↔ ((k : Int) < n ∧ (k : Int) < 32) := fun k => by unfold clI; split <;> split <;> omega
  have loop : ∀ (m k : Nat) (w' : World), clI n = k + m → begN a b k = true → Ext w w' → ref07_Begins.l17 Z K (m + 1) (a : Int) (b : Int) n (k : Int) w' := by
    intro m
    induction m with
    | zero =>
      intro k w' hm hb' hw
      have hk' := hcn k
      unfold ref07_Begins.l17 ref07_Begins.s20 ref07_Begins.s7
      have := hk w' hw
      rw [show clI n = k by omega, hb'] at this
      rw [pif_dec]
      split
      · rw [pif_dec, if_neg (by omega)]; exact this
      · exact this
    | succ m ih =>
      intro k w' hm hb' hw
      have hk' := (hcn k).1 (by omega)
      unfold ref07_Begins.l17 ref07_Begins.s20
      rw [pif_dec, if_pos hk'.1, pif_dec, if_pos hk'.2]
      have hw := hw.drew
      show cnd _ _ w'.drew
      have h31 : (0 : Int) ≤ IntKind.wrap .i64 ((31 : Int) - (k : Int)) := by rw [wrap_in (by omega) (by omega)]; omega
      refine cnd_of h31 (cnd_of (by decide) (cnd_of h31 (cnd_of (by decide) ?_)))
      rw [bitAt (by omega), bitAt (by omega), pif_bne]
      have st := begN_step (a := a) (b := b) (k := k) (by omega)
      rw [hb', Bool.true_and] at st
      split
      · rename_i e
        rw [wrap_nat1 (by omega)]
        exact ih (k + 1) _ (by omega) (by rw [st]; exact decide_eq_true (by omega)) hw
      · rename_i e
        have : begN a b (clI n) = false := by
          cases e' : begN a b (clI n) with
          | false => rfl
          | true =>
            have := begN_mono (a := a) (b := b) m (k + 1) (by omega) (by rw [show k + 1 + m = clI n by omega]; exact e')
            rw [st] at this
            have := of_decide_eq_true this
            omega
        have hq := hk _ hw
        rw [this] at hq
        exact hq
  exact exK_of (clI n + 1) (loop (clI n) 0 w (by omega) (begN_0 ha hb) Keep.refl)
theorem number_cal {K : Int → PT} {f : Nat} (hf' : f < 5) (hl : h.length = 13) (hk : ∀ w', Ext w w' → K (hf h f : Int) w') : cal Tryd.prog Z 35 [.agg ⟨encH h⟩, .int .i64 (f : Int)] (isI .i64 fun v => K v) w := by
  refine ref07_number.cal ?_
  unfold ref07_number.F
  refine (Sep.start (fun _ => False) w).new fun w1 hb h1 k1 => ?_
  refine h1.ldN 0 rfl (sub13 hl) (len13 hl) ?_
  refine field2_cal hl fun w2 k2 => ?_
  have hlt := hf_lt h hf'
  show K (IntKind.wrap .i64 ((fieldI h (f : Int)).1 : Int)) w2
  rw [show ((fieldI h (f : Int)).1 : Int) = (hf h f : Int) from rfl, wrap_in (by omega) (by omega)]
  exact hk w2 (h1.ext k2).kept
theorem hN_hd {S : PT} {K : List Value → PT} {a : List UInt8} {p : Nat} (ha : a.length = 13) (hs : ∀ w', S w' → IsB w' p (encH a)) (hk : K (encH a) w) : hN S 13 ⟨p, 0, none⟩ K w :=
  hN_of (len13 ha) (fun w' hw' => cellsAt_B (hs w' hw') (by rw [len13 ha]; exact sub13 ha)) hk
theorem applies2_cal {K : Bool → PT} (hl : h.length = 13) (hx : x.Ok) (hk : ∀ w', Ext w w' → K (snApp x h) w') : cal Tryd.prog Z 19 [.agg ⟨x.enc⟩, .agg ⟨encH h⟩] (isB fun v => K v) w := by
  refine ref07_Applies.cal ?_
  unfold ref07_Applies.F
  refine (Sep.start (fun _ => False) w).new fun w1 xb h1 k1 => ?_
  refine h1.new fun w2 hb h2 k2 => ?_
  simp only [add_mk, Nat.zero_add]
  refine h2.ldB 1 (x := x.default) rfl rfl ?_
  unfold snApp at hk
  rw [pif_bool]
  split
  · rename_i e0
    rw [if_pos e0] at hk
    exact hk w2 h2.kept
  rename_i e0
  rw [if_neg e0] at hk
  have f0 := hf_lt h (show 0 < 5 by omega)
  have f1 := hf_lt h (show 1 < 5 by omega)
  have es : x.src = (x.src.toNat : Int) := by have := hx.s0; omega
  have ed : x.dst = (x.dst.toNat : Int) := by have := hx.d0; omega
  have s1 := hx.s1
  have d1 := hx.d1
  have all : ∀ {w'}, Sep (fun _ => False) w w' [fB hb (encH h), fB xb x.enc] → IsB w' xb x.enc ∧ IsB w' hb (encH h) := fun g => ⟨g.at (n := 1) rfl, g.at (n := 0) rfl⟩
  refine h2.drawn (fun w' => IsB w' xb x.enc ∧ IsB w' hb (encH h)) (all h2.drew) fun h3 => ?_
  have H : ∀ w', (IsB w' xb x.enc ∧ IsB w' hb (encH h)) → IsB w' hb (encH h) := fun w' g => g.2
  refine hN_hd hl H (hI_of (n := x.src) (fun w' g => g.1.cell 2) (hI_of (n := x.srcBits) (fun w' g => g.1.cell 3) ?_))
  refine number_cal (f := 0) (by omega) hl fun w4 k4 => ?_
  have h4 := h3.ext k4
  refine sAnd_of (all h4) ?_
  rw [wrapU32, Nat.mod_eq_of_lt f0, es]
  refine begins2_cal f0 (by omega) fun w5 k5 => ?_
  have h5 := h4.ext k5
  refine sAnd_of (all h5) ?_
  cases e1 : begN (hf h 0) x.src.toNat (clI x.srcBits) with
  | false =>
    rw [if_pos e1] at hk
    exact hk w5 h5.kept
  | true =>
  rw [if_neg (by simp [e1])] at hk
  show hN _ _ _ _ w5
  refine hN_hd hl H (hI_of (n := x.dst) (fun w' g => g.1.cell 4) (hI_of (n := x.dstBits) (fun w' g => g.1.cell 5) ?_))
  refine number_cal (f := 1) (by omega) hl fun w6 k6 => ?_
  have h6 := h5.ext k6
  refine sAnd_of (all h6) ?_
  rw [wrapU32, Nat.mod_eq_of_lt f1, ed]
  refine begins2_cal f1 (by omega) fun w7 k7 => ?_
  have h7 := h6.ext k7
  refine sAnd_of (all h7) ?_
  cases e2 : begN (hf h 1) x.dst.toNat (clI x.dstBits) with
  | false =>
    rw [if_pos e2] at hk
    exact hk w7 h7.kept
  | true =>
  rw [if_neg (by simp [e2])] at hk
  show ldN _ _ _ w7
  refine h7.ldN 0 rfl (sub13 hl) (len13 hl) (number_cal (f := 2) (by omega) hl fun w8 k8 => ?_)
  have h8 := h7.ext k8
  refine h8.ldN 0 rfl (sub13 hl) (len13 hl) (number_cal (f := 3) (by omega) hl fun w9 k9 => ?_)
  have h9 := h8.ext k9
  refine h9.drawn (fun w' => IsB w' xb x.enc ∧ IsB w' hb (encH h)) (all h9.drew) fun h9 => ?_
  refine hI_of (n := x.sLow) (fun w' g => g.1.cell 6) ?_
  rw [pif_dec]
  split
  case isFalse e3 => rw [if_pos e3] at hk; exact hk _ h9.kept
  rename_i e3
  rw [if_neg (not_not_intro e3)] at hk
  refine hI_of (n := x.sHigh) (fun w' g => g.1.cell 7) ?_
  rw [pif_dec]
  split
  case isFalse e3 => rw [if_pos e3] at hk; exact hk _ h9.kept
  rename_i e4
  rw [if_neg (not_not_intro e4)] at hk
  refine hI_of (n := x.dLow) (fun w' g => g.1.cell 8) ?_
  rw [pif_dec]
  split
  case isFalse e3 => rw [if_pos e3] at hk; exact hk _ h9.kept
  rename_i e5
  rw [if_neg (not_not_intro e5)] at hk
  refine hI_of (n := x.dHigh) (fun w' g => g.1.cell 9) ?_
  rw [pif_dec]
  split
  case isFalse e3 => rw [if_pos e3] at hk; exact hk _ h9.kept
  rename_i e6
  rw [if_neg (not_not_intro e6)] at hk
  refine hI_of (n := x.proto) (fun w' g => g.1.cell 10) ?_
  rw [pif_beq]
  split
  · rename_i e7
    rw [if_pos e7] at hk
    exact hk _ h9.kept
  · rename_i e7
    rw [if_neg e7] at hk
    refine hI_of (n := x.proto) (fun w' g => g.1.cell 10) (hN_hd hl H ?_)
    refine number_cal (f := 4) (by omega) hl fun wa ka => ?_
    have ha := h9.ext ka
    exact sAnd_of (all ha) (hk _ ha.kept)
theorem dfl_loop {Q : Int → PT} {o : Sl3} {l : List En} {R : Int} (hr : EnO w o l) (hq : Q R w) :
    ∀ (m j : Nat) (b : Int), l.length = j + m → dflS (l.drop j) j b = R → ref07_Which.l21 Z Q (m + 1) o.a o.n o.c b j w := by
  have hmax := hr.max
  have hn := hr.1
  intro m
  induction m with
  | zero =>
    intro j b hm he
    unfold ref07_Which.l21 ref07_Which.s24
    rw [pif_dec, if_neg (by omega)]
    rw [List.drop_eq_nil_of_le (by omega)] at he
    subst he
    exact hq
  | succ m ih =>
    intro j b hm he
    have hx := List.getElem?_eq_getElem (show j < l.length by omega)
    have hd := List.drop_eq_getElem_cons (show j < l.length by omega)
    unfold ref07_Which.l21 ref07_Which.s24
    rw [pif_dec, if_pos (by omega)]
    rw [hd] at he
    unfold dflS at he
    rw [pif_dec]
    split
    · rename_i hb
      rw [if_pos hb] at he
      refine ixS_Ro hr hx fun ad hcell => ?_
      generalize l[j] = y at hx he hcell
      refine ldB_at hcell (n := y.default) rfl ?_
      rw [pif_bool, wrap_nat1 (by omega)]
      split
      · rename_i e
        rw [if_pos e] at he
        exact ih (j + 1) j (by omega) he
      · rename_i e
        rw [if_neg e] at he
        exact ih (j + 1) b (by omega) he
    · rename_i hb
      rw [if_neg hb] at he
      subst he
      exact hq
theorem best_loop {Q : Int → PT} {hb : Nat} {o : Sl3} {l : List En} {R : Int} (hl : h.length = 13) (hr : EnO W o l) (hok : ∀ x ∈ l, x.Ok) (hq : ∀ w', Ext W w' → ref07_Which.s32 Z Q o.a o.n o.c R w') :
    ∀ (m j : Nat) (b : Int) (w : World), l.length = j + m → b < j → bestS l h (l.drop j) j b = R → Sep (fun _ => False) W w [fB hb (encH h)] →
    ref07_Which.l42 Z Q (m + 1) o.a o.n o.c ⟨hb, 0, none⟩ b j w := by
  have hmax := hr.max
  have hn := hr.1
  intro m
  induction m with
  | zero =>
    intro j b w hm hbj he g
    unfold ref07_Which.l42 ref07_Which.s53
    rw [pif_dec, if_neg (by omega)]
    rw [List.drop_eq_nil_of_le (by omega)] at he
    subst he
    exact hq w g.kept
  | succ m ih =>
    intro j b w hm hbj he g
    have hx := List.getElem?_eq_getElem (show j < l.length by omega)
    have hmem := List.getElem_mem (show j < l.length by omega)
    have hd := List.drop_eq_getElem_cons (show j < l.length by omega)
    unfold ref07_Which.l42 ref07_Which.s53
    rw [pif_dec, if_pos (by omega)]
    rw [hd] at he
    have xok := hok _ hmem
    generalize l[j] = x at hx he xok
    unfold bestS at he
    have next : ∀ (b : Int) (w : World), b < (j + 1 : Nat) → bestS l h (l.drop (j + 1)) (j + 1) b = R → Sep (fun _ => False) W w [fB hb (encH h)] → ref07_Which.s49 Z Q (ref07_Which.l42 Z Q (m + 1)) o.a o.n o.c ⟨hb, 0, none⟩ b j w := fun b w hb1 he g => by
      unfold ref07_Which.s49
      rw [wrap_nat1 (by omega)]
      exact ih (j + 1) b w (by omega) hb1 he g
    have all : ∀ {w'}, Sep (fun _ => False) W w' [fB hb (encH h)] → IsB w' hb (encH h) ∧ EnO w' o l := fun g => ⟨g.at (n := 0) rfl, hr.ext g.kept⟩
    refine g.drawn (fun w' => IsB w' hb (encH h) ∧ EnO w' o l) (all g.drew) fun g => ?_
    -- what lies at an entry's place, wherever the world is
    have held : ∀ {i : Nat} {y : En} {ad : Addr}, l[i]? = some y → o.a = some ad → ∀ w', (IsB w' hb (encH h) ∧ EnO w' o l) → cellsAt w' (ad.add (i * 12)) y.enc := fun {i y ad} hi ha w' g => by
      obtain ⟨ad', h1, h2⟩ := g.2.2.2.2 i y hi
      rw [ha] at h1
      cases h1
      exact h2
    have ix : ∀ {i : Int} {y : En} {K : Addr → PT} {w : World}, 0 ≤ i → l[i.toNat]? = some y → Sep (fun _ => False) W w [fB hb (encH h)] → (∀ ad, (∀ w', (IsB w' hb (encH h) ∧ EnO w' o l) → cellsAt w' ad y.enc) → K ad w) → ixS o.a o.n i 12 K w := fun {i y K w} h0 hi g hK => by
      obtain ⟨ad, h1, h2⟩ := (hr.ext g.kept).2.2.2 _ y hi
      have hlt := (List.getElem?_eq_some_iff.1 hi).1
      exact ixS_of h1 h0 (by omega) (hK _ (held hi h1))
    have hxi : l[((j : Nat) : Int).toNat]? = some x := by rw [Int.toNat_natCast]; exact hx
    refine ix (by omega) hxi g fun ad hcell => ?_
    refine hB_of (n := x.default) (fun w' g => hcell w' g 0 _ rfl) ?_
    cases xd : x.default with
    | true =>
      rw [if_neg (show ¬ (x.default = false ∧ snApp x h = true ∧ (b < 0 ∨ x.prio > (enAt l b).prio)) by simp [xd])] at he
      exact next b _ (by omega) he g
    | false =>
    rw [pif_not, pif_false]
    refine ix (by omega) hxi g fun ad hcell => ?_
    refine hN_of (cs := x.enc) rfl hcell ?_
    refine hN_hd hl (fun w' g => g.1) ?_
    refine applies2_cal hl xok fun w2 k2 => ?_
    have g2 := g.ext k2
    refine sAnd_of (all g2) ?_
    rw [pif_bool]
    split
    case isFalse ea =>
      rw [if_neg (show ¬ (x.default = false ∧ snApp x h = true ∧ (b < 0 ∨ x.prio > (enAt l b).prio)) from fun g => ea g.2.1)] at he
      exact next b _ (by omega) he g2
    rename_i ea
    rw [pif_dec]
    split
    · rename_i eb
      rw [if_pos (show x.default = false ∧ snApp x h = true ∧ (b < 0 ∨ x.prio > (enAt l b).prio) from ⟨xd, ea, .inl eb⟩)] at he
      exact next j _ (by omega) he g2
    rename_i eb
    refine ix (by omega) hxi g2 fun ad hcell => ?_
    refine hI_of (n := x.prio) (fun w' g => hcell w' g 1 _ rfl) ?_
    refine ix (by omega) (enAt_some (show 0 ≤ b by omega) (by omega)) g2 fun ad hcell => ?_
    refine hI_of (n := (enAt l b).prio) (fun w' g => hcell w' g 1 _ rfl) ?_
    rw [pif_dec]
    split
    · rename_i ec
      rw [if_pos (show x.default = false ∧ snApp x h = true ∧ (b < 0 ∨ x.prio > (enAt l b).prio) from ⟨xd, ea, .inr ec⟩)] at he
      exact next j _ (by omega) he g2
    · rename_i ec
      rw [if_neg (show ¬ (x.default = false ∧ snApp x h = true ∧ (b < 0 ∨ x.prio > (enAt l b).prio)) from fun g => g.2.2.elim eb ec)] at he
      exact next b _ (by omega) he g2
theorem which2_cal {K : Int → PT} {o : Sl3} {l : List En} (hl : h.length = 13) (hr : EnO w o l) (hok : ∀ x ∈ l, x.Ok) (hk : ∀ w', Ext w w' → K (snWhich l h) w') :
    cal Tryd.prog Z 23 [.slice o.a o.n o.c, .agg ⟨encH h⟩] (isI .i64 fun v => K v) w := by
  refine ref07_Which.cal ?_
  unfold ref07_Which.F ref07_Which.s62
  refine (Sep.start (fun _ => False) w).new fun w1 hb h1 k1 => ?_
  unfold ref07_Which.s59
  refine exK_of (l.length + 1) (best_loop hl hr hok (fun w2 k2 => ?_) l.length 0 (-1) w1 (by omega) (by omega) rfl h1)
  unfold ref07_Which.s32
  refine exK_of (l.length + 1) (dfl_loop (hr.ext k2) ?_ l.length 0 _ (by omega) rfl)
  have := hk w2 k2
  rw [snWhich_eq] at this
  exact this
theorem says2_cal {K : Int → Bool → PT} {o : Sl3} {l : List En} (hl : h.length = 13) (hr : EnO w o l) (hok : ∀ x ∈ l, x.Ok) (hk : ∀ w', Ext w w' → K (snSays l h).1 (snSays l h).2 w') :
    cal Tryd.prog Z 22 [.slice o.a o.n o.c, .agg ⟨encH h⟩] (isT2 fun x y => (isI .i64 fun r0 => (isB fun r1 => K r0 r1) y) x) w := by
  refine ref07_Says.cal ?_
  unfold ref07_Says.F
  refine (Sep.start (fun _ => False) w).new fun w1 hb' h1 k1 => ?_
  refine h1.ldN 0 rfl (sub13 hl) (len13 hl) ?_
  refine which2_cal hl (hr.ext h1.kept) hok fun w2 k2 => ?_
  have h2 := h1.ext k2
  unfold snSays at hk
  rw [pif_dec]
  split
  · rename_i e
    rw [if_pos e] at hk
    exact hk w2 h2.kept
  · rename_i e
    rw [if_neg e] at hk
    refine ixS_en (hr.ext h2.kept) (by omega) snWhich_lt fun ad hcell => ?_
    exact ldI_at hcell (n := (enAt l (snWhich l h)).action) rfl (hk w2 h2.kept)
end
end Go.Proofs.YtllgjjldnnmjkaaDoor
