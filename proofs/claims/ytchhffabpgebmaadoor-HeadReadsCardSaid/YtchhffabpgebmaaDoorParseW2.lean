/-
  The document reads a text as a header: its code comes to 'readR'. No condition.
-/
import Derived.Test.YtchhffabpgebmaaDoorParseW1
import Derived.Test.YtchhffabpgebmaaDoorHeadMakes
set_option linter.unusedVariables false
set_option linter.unusedSimpArgs false
namespace Go.Proofs.YtchhffabpgebmaaDoor
open Go.RowKit Extern.Stop
def e32 (n : Nat) : List Value := [.int .u32 (n : Int)]
theorem e32_len (n : Nat) : (e32 n).length = 1 := rfl
theorem e32_one (n : Nat) : ∀ v ∈ e32 n, v.oneCell' = true := by simp [e32, Value.oneCell']
abbrev fR (a : Option Addr) (n c : Nat) (l : List Nat) : Fct := fL 22 1 e32 a n c l
section
variable {Z : List PanicEntry → PT} {w : World} {s : ByteArray}
theorem num_loop {Q : Int → Int → PT} : ∀ (m at_ n : Nat) (w : World), m ≤ 5 → at_ + m ≤ 1000 → n < 10 ^ (5 - m) → Q ((numD s m at_ n).1 : Nat) ((numD s m at_ n).2 : Nat) w → ref01_number.l18 Z Q (m + 1) s (at_ : Int) (n : Int) (5 - m : Int) w := by
  intro m
  induction m with
  | zero =>
    intro at_ n w hm ha hn hq
    unfold ref01_number.l18 ref01_number.s21
    rw [pif_dec, if_neg (by omega)]
    exact hq
  | succ m ih =>
    intro at_ n w hm ha hn hq
    unfold ref01_number.l18 ref01_number.s21
    rw [pif_dec, if_pos (by omega)]
    unfold numD at hq
    rw [pif_dec]
    split
    · rename_i hlt
      obtain ⟨b, hb1, hb2⟩ := byte_at (s := s) (i := at_) (by omega)
      refine ixT_of (by omega) hb1 ?_
      rw [pif_dec]
      split
      · rename_i g1
        refine ixT_of (by omega) hb1 ?_
        rw [pif_dec]
        split
        · rename_i g2
          rw [if_pos ⟨by omega, by rw [← hb2]; exact ⟨by omega, by omega⟩⟩] at hq
          refine ixT_of (by omega) hb1 ?_
          have hn5 : n < 100000 := Nat.lt_of_lt_of_le hn (Nat.pow_le_pow_right (by decide) (show 5 - (m + 1) ≤ 5 by omega))
          have ev : IntKind.wrap .u32 (IntKind.wrap .u32 ((n : Int) * 10) + IntKind.wrap .u32 (IntKind.wrap .u8 (((b.toNat : Nat) : Int) - 48))) = ((n * 10 + ((by_ s at_).toNat - 48) : Nat) : Int) := by
            rw [← hb2, show ((b.toNat : Nat) : Int) - 48 = ((b.toNat - 48 : Nat) : Int) by omega, wrapU8, Nat.mod_eq_of_lt (by omega), wrapU32 (b.toNat - 48), Nat.mod_eq_of_lt (by omega), show (n : Int) * 10 = ((n * 10 : Nat) : Int) by omega, wrapU32 (n * 10), Nat.mod_eq_of_lt (by omega), ← Int.natCast_add, wrapU32, Nat.mod_eq_of_lt (by omega), Int.toNat_natCast]
          rw [ev, wrap_nat1 (by omega), show IntKind.wrap .i64 ((5 - ((m + 1 : Nat) : Int)) + 1) = 5 - (m : Int) by rw [wrap_in (by omega) (by omega)]; omega]
          refine ih (at_ + 1) _ w (by omega) ?_ ?_ hq
          · omega
          · have : 10 ^ (5 - m) = 10 ^ (5 - (m + 1)) * 10 := by rw [← Nat.pow_succ]; congr 1; omega
            have hbb : (by_ s at_).toNat - 48 ≤ 9 := by rw [← hb2, Int.toNat_natCast]; omega
            omega
        · rename_i g2
          rw [if_neg (fun g => g2 (by have := g.2.2; omega))] at hq
          exact hq
      · rename_i g1
        rw [if_neg (fun g => g1 (by have := g.2.1; omega))] at hq
        exact hq
    · rename_i hlt
      rw [if_neg (fun g => hlt (by have := g.1; omega))] at hq
      exact hq
theorem num_cal {Q : Int → Int → PT} {at_ : Nat} (ha : at_ ≤ 900) (hq : Q ((numD s 5 at_ 0).1 : Nat) ((numD s 5 at_ 0).2 : Nat) w) :
    cal Tryd.prog Z 33 [.string s, .int .i64 (at_ : Int)] (isT2 fun x y => (isI .u32 fun r0 => (isI .i64 fun r1 => Q r0 r1) y) x) w := by
  refine ref01_number.cal ?_
  unfold ref01_number.F ref01_number.s32 ref01_number.s29
  exact exK_of 6 (num_loop 5 at_ 0 w (by decide) (by omega) (by decide) hq)
variable {Q : List Value → Int → PT} {w0 : World}
theorem rs_zero {a : Option Addr} {n c tb : Nat} {l : List Nat} (h : Sep (fun _ => False) w0 w [fR a n c l, fB tb z13]) (hq : ∀ w', Ext w0 w' → Q (encH h0) 12 w') : stN 13 ⟨tb, 0, none⟩ z13 (ldN 13 ⟨tb, 0, none⟩ fun v => Q v 12) w := by
  refine h.stN 1 rfl (by decide) rfl (by decide) (lay_all13 rfl rfl) fun w4 h4 k4 => ?_
  exact h4.ldN 1 rfl sub13z rfl (hq w4 h4.kept)
theorem rs_fin {a : Option Addr} {n c tb hb2 : Nat} {l : List Nat} {g : List UInt8} (hl : g.length = 13) (h : Sep (fun _ => False) w0 w [fB hb2 (encH g), fR a n c l, fB tb z13]) (hq : ∀ w', Ext w0 w' → Q (encH (ifText s g).1) (ifText s g).2 w') : ref01_Parse.s15 Z Q s ⟨tb, 0, none⟩ ⟨hb2, 0, none⟩ w := by
  unfold ref01_Parse.s15
  refine h.ldN 0 rfl (sub13 hl) (len13 hl) (text2_cal hl fun w4 k4 => ?_)
  have h4 := h.ext k4
  unfold ifText at hq
  rw [strOf_toList, pif_not]
  cases e : (textL g == s.toList) with
  | true =>
    rw [pif_true]
    rw [if_pos (eq_of_beq e)] at hq
    refine h4.ldN 0 rfl (sub13 hl) (len13 hl) ?_
    refine h4.stN 2 rfl (by decide) (len13 hl) (encH_one _) (lay_all13 rfl (len13 hl)) fun w5 h5 k5 => ?_
    exact h5.ldN 2 rfl (sub13 hl) (len13 hl) (hq w5 h5.kept)
  | false =>
    rw [pif_false]
    rw [if_neg (fun x => by rw [x, beq_self_eq_true] at e; cases e)] at hq
    exact rs_zero (h4.drop 0) hq
/-- A cell of a row, while the order is open. -/
theorem hI_row {S : PT} {K : Int → PT} {a : Option Addr} {n c i x : Nat} {l : List Nat} {iv : Int} (hiv : iv = (i : Nat)) (h : Lst w 22 1 e32 a n c l) (hx : l[i]? = some x) (hs : ∀ w', S w' → Lst w' 22 1 e32 a n c l) (hk : K (x : Int) w) : ixS a n iv 1 (fun v => hI S .u32 v K) w := by
  subst hiv
  refine ixS_Lst e32_len h hx fun b hb hc => ?_
  refine hI_of (fun w' hw' => ?_) hk
  have hc' := ((hs w' hw').2.cells hb).2
  have := flat_at e32_len hx (show 0 < 1 by decide)
  exact hc' _ _ (by simpa [e32] using this)
theorem ldI_row {K : Int → PT} {a : Option Addr} {n c i x : Nat} {l : List Nat} (h : Lst w 22 1 e32 a n c l) (hx : l[i]? = some x) (hk : K (x : Int) w) : ixS a n (i : Int) 1 (fun v => ldI .u32 v K) w :=
  ixS_Lst e32_len h hx fun b hb hc => ldI_of (by simpa using hc 0 _ rfl) hk
theorem quad_eval {a b c d : Nat} (ha : a < 256) (hb' : b < 256) (hc : c < 256) (hd : d < 256) : IntKind.wrap .u32 (IntKind.wrap .u32 (IntKind.wrap .u32 (IntKind.wrap .u32 (IntKind.wrap .u32 (IntKind.wrap .u32 ((a : Int) * 256) + (b : Int)) * 256) + (c : Int)) * 256) + (d : Int)) = ((((a * 256 + b) * 256 + c) * 256 + d : Nat) : Int) := by
  rw [show (a : Int) * 256 = ((a * 256 : Nat) : Int) by omega, wrapU32, Nat.mod_eq_of_lt (by omega), ← Int.natCast_add, wrapU32, Nat.mod_eq_of_lt (by omega),
    show ((a * 256 + b : Nat) : Int) * 256 = (((a * 256 + b) * 256 : Nat) : Int) by omega, wrapU32, Nat.mod_eq_of_lt (by omega), ← Int.natCast_add, wrapU32, Nat.mod_eq_of_lt (by omega),
    show (((a * 256 + b) * 256 + c : Nat) : Int) * 256 = ((((a * 256 + b) * 256 + c) * 256 : Nat) : Int) by omega, wrapU32, Nat.mod_eq_of_lt (by omega), ← Int.natCast_add, wrapU32, Nat.mod_eq_of_lt (by omega)]
theorem rs_make {a : Option Addr} {n c tb : Nat} {l : List Nat} (hl : l.length = 11) (hr : allOk fun i => l.getD i 0) (h : Sep (fun _ => False) w0 w [fR a n c l, fB tb z13]) (hq : ∀ w', Ext w0 w' → Q (encH (ifText s (headR fun i => l.getD i 0)).1) (ifText s (headR fun i => l.getD i 0)).2 w') : ref01_Parse.s18 Z Q s ⟨tb, 0, none⟩ a n c w := by
  have at_ : ∀ i, i < 11 → l[i]? = some (l.getD i 0) := fun i hi => by
    rw [List.getD_eq_getElem?_getD, List.getElem?_eq_getElem (by omega)]; rfl
  have b : ∀ i, i < 11 → i % 5 ≠ 4 → l.getD i 0 < 256 := fun i hi h5 => by
    have := hr i hi
    unfold rangeOk at this
    rw [if_neg h5] at this
    simp only at this
    omega
  have p : ∀ i, i < 11 → i % 5 = 4 → l.getD i 0 < 65536 := fun i hi h5 => by
    have := hr i hi
    unfold rangeOk at this
    rw [if_pos h5] at this
    simp only at this
    omega
  have hlen : (headR fun i => l.getD i 0).length = 13 := headR_len _
  have hg : makeS (vals5 (((l.getD 0 0 * 256 + l.getD 1 0) * 256 + l.getD 2 0) * 256 + l.getD 3 0) (((l.getD 5 0 * 256 + l.getD 6 0) * 256 + l.getD 7 0) * 256 + l.getD 8 0) (l.getD 4 0) (l.getD 9 0) (l.getD 10 0)) 5 = headR fun i => l.getD i 0 := rfl
  have B5 : ((l.getD 0 0 * 256 + l.getD 1 0) * 256 + l.getD 2 0) * 256 + l.getD 3 0 < 4294967296 ∧ ((l.getD 5 0 * 256 + l.getD 6 0) * 256 + l.getD 7 0) * 256 + l.getD 8 0 < 4294967296 ∧ l.getD 4 0 < 65536 ∧ l.getD 9 0 < 65536 ∧ l.getD 10 0 < 256 := by
    have b0 := b 0 (by decide) (by decide); have b1 := b 1 (by decide) (by decide); have b2 := b 2 (by decide) (by decide); have b3 := b 3 (by decide) (by decide)
    have b5 := b 5 (by decide) (by decide); have b6 := b 6 (by decide) (by decide); have b7 := b 7 (by decide) (by decide); have b8 := b 8 (by decide) (by decide)
    exact ⟨by omega, by omega, p 4 (by decide) (by decide), p 9 (by decide) (by decide), b 10 (by decide) (by decide)⟩
  unfold ref01_Parse.s18
  have all : ∀ {w'} {L : List Fct}, Sep (fun _ => False) w0 w' (fR a n c l :: L) → Lst w' 22 1 e32 a n c l := fun h => h.at (n := 0) rfl
  refine h.drawn (fun w' => Lst w' 22 1 e32 a n c l) (all h.drew) fun h => ?_
  have hL := all h
  have S := fun (w' : World) (h : Lst w' 22 1 e32 a n c l) => h
  refine hI_row rfl hL (at_ 0 (by decide)) S (hI_row rfl hL (at_ 1 (by decide)) S (hI_row rfl hL (at_ 2 (by decide)) S (hI_row rfl hL (at_ 3 (by decide)) S ?_)))
  refine hI_row rfl hL (at_ 5 (by decide)) S (hI_row rfl hL (at_ 6 (by decide)) S (hI_row rfl hL (at_ 7 (by decide)) S (hI_row rfl hL (at_ 8 (by decide)) S ?_)))
  refine hI_row rfl hL (at_ 4 (by decide)) S (hI_row rfl hL (at_ 9 (by decide)) S (hI_row rfl hL (at_ 10 (by decide)) S ?_))
  rw [quad_eval (b 0 (by decide) (by decide)) (b 1 (by decide) (by decide)) (b 2 (by decide) (by decide)) (b 3 (by decide) (by decide)), quad_eval (b 5 (by decide) (by decide)) (b 6 (by decide) (by decide)) (b 7 (by decide) (by decide)) (b 8 (by decide) (by decide))]
  constructor
  · refine make2_cal B5 fun w1 k1 => ?_
    rw [hg]
    have h1 := h.ext k1
    generalize (headR fun i => l.getD i 0) = g at hq hlen ⊢
    refine sAnd_of (all h1) (h1.new fun w2 hb2 h2 k2 => ?_)
    refine sAnd_of (h2.at (n := 1) rfl : Lst _ _ _ _ _ _ _ _) ?_
    refine h2.stN 0 rfl (by decide) (len13 hlen) (encH_one _) (lay_all13 rfl (len13 hlen)) fun w3 h3 k3 => ?_
    exact rs_fin hlen h3 hq
  · refine h.new fun w2 hb2 h2 k2 => ?_
    refine sAnd_of (h2.at (n := 1) rfl : Lst _ _ _ _ _ _ _ _) (make2_cal B5 fun w1 k1 => ?_)
    rw [hg]
    have h1 := h2.ext k1
    generalize (headR fun i => l.getD i 0) = g at hq hlen ⊢
    refine sAnd_of (h1.at (n := 1) rfl : Lst _ _ _ _ _ _ _ _) ?_
    refine h1.stN 0 rfl (by decide) (len13 hlen) (encH_one _) (lay_all13 rfl (len13 hlen)) fun w3 h3 k3 => ?_
    exact rs_fin hlen h3 hq
theorem rs_check {a : Option Addr} {n c tb : Nat} {l : List Nat} (hl : l.length = 11) (hq0 : ¬ (allOk fun i => l.getD i 0) → ∀ w', Ext w0 w' → Q (encH h0) 12 w') (hq : (allOk fun i => l.getD i 0) → ∀ w', Ext w0 w' → Q (encH (ifText s (headR fun i => l.getD i 0)).1) (ifText s (headR fun i => l.getD i 0)).2 w') :
    ∀ (m k : Nat) (w : World), k + m = 11 → (∀ j, j < k → rangeOk (fun i => l.getD i 0) j) → Sep (fun _ => False) w0 w [fR a n c l, fB tb z13] → ref01_Parse.l27 Z Q (m + 1) s ⟨tb, 0, none⟩ a n c (k : Int) w := by
  have at_ : ∀ i, i < 11 → l[i]? = some (l.getD i 0) := fun i hi => by
    rw [List.getD_eq_getElem?_getD, List.getElem?_eq_getElem (by omega)]; rfl
  intro m
  induction m with
  | zero =>
    intro k w hk hj h
    have : k = 11 := by omega
    subst this
    unfold ref01_Parse.l27 ref01_Parse.s53
    rw [pif_dec, if_neg (by omega)]
    have hall : allOk fun i => l.getD i 0 := fun j hj' => hj j hj'
    exact rs_make hl hall h (hq hall)
  | succ m ih =>
    intro k w hk hj h
    unfold ref01_Parse.l27 ref01_Parse.s53
    rw [pif_dec, if_pos (by omega)]
    have hL : Lst w 22 1 e32 a n c l := h.at (n := 0) rfl
    have bad : ¬ rangeOk (fun i => l.getD i 0) k → ref01_Parse.s45 Z Q (ref01_Parse.l27 Z Q (m + 1)) s ⟨tb, 0, none⟩ a n c (k : Int) true w := fun hn => by
      unfold ref01_Parse.s45
      rw [pif_true]
      exact rs_zero h (hq0 fun g => hn (g k (by omega)))
    have good : rangeOk (fun i => l.getD i 0) k → ref01_Parse.s45 Z Q (ref01_Parse.l27 Z Q (m + 1)) s ⟨tb, 0, none⟩ a n c (k : Int) false w := fun hy => by
      unfold ref01_Parse.s45 ref01_Parse.s36
      rw [pif_false, wrap_nat1 (by omega)]
      refine ih (k + 1) w (by omega) (fun j hj' => ?_) h
      by_cases e : j = k
      · rw [e]; exact hy
      · exact hj j (by omega)
    have tm : Int.tmod (k : Int) 5 = ((k % 5 : Nat) : Int) := tmodN k 5
    unfold rangeOk at bad good
    unfold ref01_Parse.s49
    rw [tm]
    refine cnd_of (by decide) ?_
    rw [pif_beq]
    split
    · rename_i h4
      rw [if_pos (by omega)] at bad good
      simp only at bad good
      refine ldI_row hL (at_ k (by omega)) ?_
      rw [pif_dec]
      split
      · rename_i g; exact bad (by omega)
      · rename_i g
        refine cnd_of (by decide) ?_
        rw [pif_bne, if_pos h4]
        exact good (by omega)
    · rename_i h4
      rw [if_neg (by omega)] at bad good
      simp only at bad good
      refine cnd_of (by decide) ?_
      rw [pif_bne, if_neg h4]
      refine ldI_row hL (at_ k (by omega)) ?_
      by_cases g : l.getD k 0 ≤ 255
      · rw [show decide (((l.getD k 0 : Nat) : Int) > 255) = false by rw [decide_eq_false_iff_not]; omega]
        exact good g
      · rw [show decide (((l.getD k 0 : Nat) : Int) > 255) = true by rw [decide_eq_true_eq]; omega]
        exact bad g
theorem numsR_len (s : ByteArray) : ∀ m at_ acc, (numsR s m at_ acc).length = acc.length + m
  | 0, _, _ => rfl
  | m + 1, at_, acc => by
    unfold numsR
    rw [numsR_len s m, List.length_append, List.length_cons, List.length_nil]
    omega
theorem parse2_cal {s : ByteArray} (hq : ∀ w', Ext w w' → Q (encH (readR s).1) (readR s).2 w') :
    cal Tryd.prog Z 27 [.string s] (isT2 fun x y => (isN fun r0 => (isI .i64 fun r1 => Q r0 r1) y) x) w := by
  refine ref01_Parse.cal ?_
  unfold ref01_Parse.F ref01_Parse.s83
  refine (Sep.start (fun _ => False) w).new fun w1 tb h1 k1 => ?_
  refine h1.newR e32 (sz := 1) fun w2 nb h2 k2 => ?_
  unfold ref01_Parse.s80
  have loop : ∀ (m k at_ : Nat) (acc : List Nat) (a : Option Addr) (n c : Nat) (w3 : World), k + m = 11 → at_ ≤ 7 * k → acc.length = k → numsR s m at_ acc = numsR s 11 0 [] → Sep (fun _ => False) w w3 [fR a n c acc, fB tb z13] → ref01_Parse.l69 Z Q (m + 1) s ⟨tb, 0, none⟩ a n c (at_ : Int) (k : Int) w3 := by
    intro m
    induction m with
    | zero =>
      intro k at_ acc a n c w3 hk ha hl he h3
      unfold ref01_Parse.l69 ref01_Parse.s72
      rw [pif_dec, if_neg (by omega)]
      unfold ref01_Parse.s59
      have he : acc = numsR s 11 0 [] := he
      unfold readR at hq
      rw [← he] at hq
      refine exK_of 12 (rs_check (by omega) (fun hn => ?_) (fun hy => ?_) 11 0 w3 rfl (fun j hj => absurd hj (by omega)) h3)
      · rw [if_neg hn] at hq; exact hq
      · rw [if_pos hy] at hq; exact hq
    | succ m ih =>
      intro k at_ acc a n c w3 hk ha hl he h3
      unfold ref01_Parse.l69 ref01_Parse.s72
      rw [pif_dec, if_pos (by omega)]
      refine num_cal (by omega) ?_
      obtain ⟨d1, d2, d3⟩ := numD_le s 5 at_ 0
      unfold numsR at he
      refine newC_B fun w4 b4 k4 s4 => ?_
      have h4 := h3.ext k4
      refine h4.app 0 (x := (numD s 5 at_ 0).1) rfl (bytes := 4) (z := .int .u32 0) Tryd.underlying60 (by kernel_rfl) rfl (by decide) e32_len (e32_one _) (fun j u hu => by rw [add_mk, Nat.zero_add, b4.cell]; exact hu) (by decide) (by omega) fun a' c' w5 h5 k5 => ?_
      rw [wrap_nat1 (by omega), wrap_nat1 (by omega)]
      exact ih (k + 1) _ (acc ++ [(numD s 5 at_ 0).1]) a' (n + 1) c' w5 (by omega) (by omega) (by rw [List.length_append, hl]; rfl) he h5
  exact exK_of 12 (loop 11 0 0 [] _ 0 0 w2 rfl (Nat.le_refl _) rfl rfl h2)
end
end Go.Proofs.YtchhffabpgebmaaDoor
