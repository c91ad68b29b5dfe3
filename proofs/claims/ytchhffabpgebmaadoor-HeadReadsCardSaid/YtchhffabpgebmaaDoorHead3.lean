/-
  The headers' functions: a field's number, another number in a field, whole headers. No condition.
-/
import Derived.Test.YtchhffabpgebmaaDoorHead2
set_option linter.unusedVariables false
set_option linter.unusedSimpArgs false
namespace Go.Proofs.YtchhffabpgebmaaDoor
open Go.RowKit Extern.Stop
def fieldI (h : List UInt8) (f : Int) : Nat × Int := match fldI f with
  | none => (0, 1)
  | some n => (fieldS h (8 * qF n) (8 * mF n), 0)
def withI (h : List UInt8) (f : Int) (v : Nat) : List UInt8 × Int := match fldI f with
  | none => (h0, 1)
  | some n => if v / 2 ^ (8 * mF n) ≠ 0 then (h0, 10) else (putB h (qF n) (mF n) v, 0)
theorem encH_h0 : encH h0 = z13 := rfl
theorem lay_all13 {z vs : List Value} (h1 : z.length = 13) (h2 : vs.length = 13) : lay z 0 vs = vs := by
  unfold lay
  rw [List.take_zero, List.drop_eq_nil_of_le (by omega)]
  simp
theorem bytes_lt (h : List UInt8) (q : Nat) : ∀ m, bytesS h q m < 256 ^ m
  | 0 => by simp [bytesS]
  | m + 1 => by
    have := bytes_lt h q m
    have := hb_lt h (q + m)
    simp only [bytesS, Nat.pow_succ]
    omega
section
variable {Z : List PanicEntry → PT} {w : World} {h : List UInt8}
theorem field_cal {Q : Int → Int → PT} {f : Int} (hv : Places w) (hl : h.length = 13) (hk : ∀ w', Ext w w' → Q ((fieldI h f).1 : Nat) (fieldI h f).2 w') :
    cal Tryd.prog Z 11 [.agg ⟨encH h⟩, .int .i64 f] (isT2 fun x y => (isI .u32 fun r0 => (isI .i64 fun r1 => Q r0 r1) y) x) w := by
  refine head_Field.cal ?_
  unfold head_Field.F head_Field.s34
  refine (Sep.start (fun _ => False) w).new fun w1 b1 h1 k1 => ?_
  unfold fieldI at hk
  refine place_cal (hv.ext h1.kept) (fun hf w2 k2 => ?_) fun n hf w2 k2 => ?_
  · rw [pif_bne, if_neg (by decide)]
    rw [hf] at hk
    exact hk w2 (h1.ext k2).kept
  · rw [pif_bne, if_pos rfl]
    rw [hf] at hk
    simp only at hk
    have h2 := h1.ext k2
    have hqm := qm_le n
    have hm := mF_le n
    have d8 : ∀ x : Nat, x ≤ 1000 → IntKind.wrap .i64 (Int.tdiv ((8 * x : Nat) : Int) 8) = (x : Int) := fun x hx => by
      rw [show (8 : Int) = ((8 : Nat) : Int) from rfl, tdivN, wrap_nat (by omega)]; omega
    unfold head_Field.s31
    refine cnd_of (by decide) (cnd_of (by decide) (cnd_of (by decide) ?_))
    rw [d8 _ (by omega), d8 _ (by omega), wrap_in (by omega) (by omega)]
    refine cnd_of ⟨by omega, by omega, by omega⟩ ?_
    have ea : (if 13 = ((qF n : Int)).toNat then (⟨b1, 0, none⟩ : Addr) else (⟨b1, 0, none⟩ : Addr).add (((qF n : Int)).toNat * 1)) = ⟨b1, qF n, none⟩ := by
      rw [if_neg (by omega), add_mk, Int.toNat_natCast]; simp
    rw [ea, show ((qF n : Int) + (mF n : Int)).toNat - ((qF n : Int)).toNat = mF n by omega]
    have loop : ∀ (m i : Nat), i + m = mF n → head_Field.l20 Z Q (m + 1) ((bytesS h (qF n) i : Nat) : Int) (some ⟨b1, qF n, none⟩) (mF n) (13 - ((qF n : Int)).toNat) ((mF n : Nat) : Int) (i : Int) w2 := by
      intro m
      induction m with
      | zero =>
        intro i hi
        unfold head_Field.l20 head_Field.s23
        rw [pif_dec, if_neg (by omega)]
        unfold head_Field.s10
        rw [field_bytes] at hk
        have : i = mF n := by omega
        subst this
        exact hk w2 h2.kept
      | succ m ih =>
        intro i hi
        unfold head_Field.l20 head_Field.s23
        rw [pif_dec, if_pos (by omega)]
        refine ixS_of rfl (by omega) (by omega) ?_
        rw [add_mk, Int.toNat_natCast, Nat.mul_one]
        refine h2.ldI 0 rfl (encH_at (by omega)) (cnd_of (by decide) ?_)
        have hlt := bytes_lt h (qF n) i
        have hle : 256 ^ i ≤ 256 ^ 3 := Nat.pow_le_pow_right (by decide) (by omega)
        have hb1 := hb_lt h (qF n + i)
        rw [show (2 : Int) ^ (min (8 : Int).toNat (IntKind.bits .u32)) = ((256 : Nat) : Int) from rfl, ← Int.natCast_mul, wrapU32 (bytesS h (qF n) i * 256), wrapU32 (hb h (qF n + i)), Nat.mod_eq_of_lt (show bytesS h (qF n) i * 256 < 4294967296 by omega), Nat.mod_eq_of_lt (show hb h (qF n + i) < 4294967296 by omega), or32 (by omega) (by omega)]
        have e : bytesS h (qF n) i * 256 ||| hb h (qF n + i) = bytesS h (qF n) (i + 1) := by
          have := Nat.two_pow_add_eq_or_of_lt (i := 8) (b := hb h (qF n + i)) hb1 (bytesS h (qF n) i)
          rw [bytesS, Nat.mul_comm _ 256]
          exact this.symm
        rw [e, wrap_nat1 (by omega)]
        exact ih (i + 1) (by omega)
    exact exK_of (mF n + 1) (loop (mF n) 0 (by omega))
theorem field2_cal {Q : Int → Int → PT} {f : Int} (hl : h.length = 13) (hk : ∀ w', Ext w w' → Q ((fieldI h f).1 : Nat) (fieldI h f).2 w') :
    cal Tryd.prog Z 13 [.agg ⟨encH h⟩, .int .i64 f] (isT2 fun x y => (isI .u32 fun r0 => (isI .i64 fun r1 => Q r0 r1) y) x) w := by
  refine ref01_Field.cal ?_
  unfold ref01_Field.F ref01_Field.s33
  refine (Sep.start (fun _ => False) w).new fun w1 b1 h1 k1 => ?_
  unfold fieldI at hk
  refine first_cal (fun hf => ?_) fun n hf => ?_
  · rw [pif_dec, if_pos (by decide)]
    rw [hf] at hk
    exact hk w1 h1.kept
  · rw [pif_dec, if_neg (by omega)]
    rw [hf] at hk
    obtain ⟨rfl, hn⟩ := fldI_some hf
    simp only at hk
    have hqm := qm_le n
    have hm := mF_le n
    unfold ref01_Field.s30
    have loop : ∀ (m i : Nat) (w2 : World), i + m = 8 * mF n → Sep (fun _ => False) w w2 [fB b1 (encH h)] → ref01_Field.l19 Z Q (m + 1) (n : Int) ⟨b1, 0, none⟩ ((fieldS h (8 * qF n) i : Nat) : Int) (i : Int) w2 := by
      intro m
      induction m with
      | zero =>
        intro i w2 hi h2
        unfold ref01_Field.l19 ref01_Field.s22
        refine width_cal hn ?_
        rw [pif_dec, if_neg (by omega)]
        unfold ref01_Field.s9
        have : i = 8 * mF n := by omega
        subst this
        exact hk w2 h2.kept
      | succ m ih =>
        intro i w2 hi h2
        unfold ref01_Field.l19 ref01_Field.s22
        refine width_cal hn ?_
        rw [pif_dec, if_pos (by omega)]
        refine h2.drawn (fun w' => IsB w' b1 (encH h)) (h2.drew.at (n := 0) rfl : IsB _ _ _) fun h2 => ?_
        refine hN_of (len13 hl) (fun w' hw' => cellsAt_B hw' (by rw [len13 hl]; exact sub13 hl)) ?_
        refine first_cal (fun hf' => by rw [fldI_nat hn] at hf'; cases hf') fun n' hf' => ?_
        rw [fldI_nat hn] at hf'
        cases hf'
        refine sAnd_of (h2.at (n := 0) rfl : IsB _ _ _) ?_
        rw [← Int.natCast_add, wrap_nat (by omega)]
        refine bit2_cal hl fun w3 k3 => ?_
        have h3 := h2.ext k3
        refine sAnd_of (h3.at (n := 0) rfl : IsB _ _ _) ?_
        have eb : bitI h ((8 * qF n + i : Nat) : Int) = bitS h (8 * qF n + i) := by unfold bitI; rw [if_pos (by omega), Int.toNat_natCast]
        rw [eb]
        have hlt := field_lt h (8 * qF n) i
        have hle : 2 ^ i ≤ 2 ^ 31 := Nat.pow_le_pow_right (by decide) (by omega)
        have e0 : IntKind.wrap .u32 ((fieldS h (8 * qF n) i : Int) * 2) = ((fieldS h (8 * qF n) i * 2 : Nat) : Int) := by
          rw [show (fieldS h (8 * qF n) i : Int) * 2 = ((fieldS h (8 * qF n) i * 2 : Nat) : Int) by omega, wrapU32, Nat.mod_eq_of_lt (by omega)]
        have e1 : IntKind.wrap .u32 (IntKind.wrap .u32 ((fieldS h (8 * qF n) i : Int) * 2) + 1) = ((fieldS h (8 * qF n) i * 2 + 1 : Nat) : Int) := by
          rw [e0, show ((fieldS h (8 * qF n) i * 2 : Nat) : Int) + 1 = ((fieldS h (8 * qF n) i * 2 + 1 : Nat) : Int) by omega, wrapU32, Nat.mod_eq_of_lt (by omega)]
        have ih' := ih (i + 1) w3 (by omega) h3
        simp only [fieldS] at ih'
        rw [e1, e0, wrap_nat1 (by omega), pif_bool]
        cases hb' : bitS h (8 * qF n + i) with
        | true => rw [hb'] at ih'; rw [if_pos rfl]; exact ih'
        | false => rw [hb'] at ih'; rw [if_neg (by decide)]; exact ih'
    exact exK_of (8 * mF n + 1) (loop (8 * mF n) 0 w1 (by omega) h1)
theorem sub13z : Go.Proofs.YtchhffabpgebmaaDoor.sub z13 0 13 = z13 := rfl
theorem with_cal {Q : List Value → Int → PT} {f : Int} {v : Nat} (hv : Places w) (hl : h.length = 13) (hvv : v < 4294967296) (hk : ∀ w', Ext w w' → Q (encH (withI h f v).1) (withI h f v).2 w') :
    cal Tryd.prog Z 14 [.agg ⟨encH h⟩, .int .i64 f, .int .u32 (v : Int)] (isT2 fun x y => (isN fun r0 => (isI .i64 fun r1 => Q r0 r1) y) x) w := by
  refine head_With.cal ?_
  unfold head_With.F
  refine (Sep.start (fun _ => False) w).new fun w1 b1 h1 k1 => ?_
  refine h1.new fun w2 b2 h2 k2 => ?_
  have zero : ∀ (e : Int) (w3 : World), (∀ w', Ext w w' → Q (encH h0) e w') → Sep (fun _ => False) w w3 [fB b2 z13, fB b1 (encH h)] → stN 13 ⟨b2, 0, none⟩ z13 (ldN 13 ⟨b2, 0, none⟩ fun v => Q v e) w3 := fun e w3 hq h3 => by
    refine h3.stN 0 rfl (by decide) rfl (by decide) (lay_all13 rfl rfl) fun w4 h4 k4 => ?_
    exact h4.ldN 0 rfl sub13z rfl (hq w4 h4.kept)
  unfold withI at hk
  refine place_cal (hv.ext h2.kept) (fun hf w3 k3 => ?_) fun n hf w3 k3 => ?_
  · rw [pif_bne, if_neg (by decide)]
    rw [hf] at hk
    exact zero 1 w3 hk (h2.ext k3)
  · rw [pif_bne, if_pos rfl]
    rw [hf] at hk
    obtain ⟨rfl, hn⟩ := fldI_some hf
    simp only at hk
    have hqm := qm_le n
    have hm := mF_le n
    refine cnd_of (by omega) ?_
    rw [wrapU64, Nat.mod_eq_of_lt (by omega), Int.toNat_natCast, show min (8 * mF n) (IntKind.bits .u64) = 8 * mF n by show min _ 64 = _; omega, powN, fdivN, pif_bne]
    have h3 := h2.ext k3
    split
    · rename_i hz
      rw [if_neg (by omega)] at hk
      have all : ∀ {w'}, Sep (fun _ => False) w w' [fB b2 z13, fB b1 (encH h)] → IsB w' b1 (encH h) ∧ Places w' := fun h => ⟨h.at (n := 1) rfl, hv.ext h.kept⟩
      refine h3.drawn (fun w' => IsB w' b1 (encH h) ∧ Places w') (all h3.drew) fun h3 => ?_
      refine hN_of (len13 hl) (fun w' hw' => cellsAt_B hw'.1 (by rw [len13 hl]; exact sub13 hl)) ?_
      refine cnd_of ⟨by omega, by omega⟩ ?_
      rw [add_mk, Nat.zero_add, Int.toNat_natCast]
      refine hN_of (cs := [.int .i64 (8 * qF n : Nat), .int .i64 (8 * mF n : Nat)]) rfl (fun w' hw' j u hj => ?_) ?_
      · obtain ⟨c1, c2⟩ := placesB hw'.2 hn
        rw [add_mk]
        match j, hj with
        | 0, hj => simp at hj; subst hj; exact c1
        | 1, hj => simp at hj; subst hj; exact c2
      · refine putS_cal hl hn hvv fun w4 k4 => ?_
        have h4 := h3.ext k4
        refine sAnd_of (all h4) ?_
        have hl' : (putB h (qF n) (mF n) v).length = 13 := by rw [putB_len, hl]
        refine h4.stN 0 rfl (by decide) (len13 hl') (encH_one _) (lay_all13 rfl (len13 hl')) fun w5 h5 k5 => ?_
        refine sAnd_of ⟨h5.at (n := 1) rfl, hv.ext h5.kept⟩ ?_
        exact h5.ldN 0 rfl (sub13 hl') (len13 hl') (hk w5 h5.kept)
    · rename_i hz
      rw [if_pos (by omega)] at hk
      exact zero 10 w3 hk h3
theorem with2_cal {Q : List Value → Int → PT} {f : Int} {v : Nat} (hl : h.length = 13) (hvv : v < 4294967296) (hk : ∀ w', Ext w w' → Q (encH (withI h f v).1) (withI h f v).2 w') :
    cal Tryd.prog Z 15 [.agg ⟨encH h⟩, .int .i64 f, .int .u32 (v : Int)] (isT2 fun x y => (isN fun r0 => (isI .i64 fun r1 => Q r0 r1) y) x) w := by
  refine ref01_With.cal ?_
  unfold ref01_With.F ref01_With.s32
  refine (Sep.start (fun _ => False) w).new fun w1 b1 h1 k1 => ?_
  refine h1.new fun w2 b2 h2 k2 => ?_
  have zero : ∀ (e : Int) (g : List UInt8) (w3 : World), (∀ w', Ext w w' → Q (encH h0) e w') → Sep (fun _ => False) w w3 [fB b2 z13, fB b1 (encH g)] → stN 13 ⟨b2, 0, none⟩ z13 (ldN 13 ⟨b2, 0, none⟩ fun v => Q v e) w3 := fun e g w3 hq h3 => by
    refine h3.stN 0 rfl (by decide) rfl (by decide) (lay_all13 rfl rfl) fun w4 h4 k4 => ?_
    exact h4.ldN 0 rfl sub13z rfl (hq w4 h4.kept)
  unfold withI at hk
  refine first_cal (fun hf => ?_) fun n hf => ?_
  · rw [pif_dec, if_pos (by decide)]
    rw [hf] at hk
    exact zero 1 h w2 hk h2
  · rw [pif_dec, if_neg (by omega)]
    rw [hf] at hk
    obtain ⟨rfl, hn⟩ := fldI_some hf
    simp only at hk
    have hqm := qm_le n
    have hm := mF_le n
    unfold ref01_With.s29
    refine width_cal hn ?_
    have loop : ∀ (m v' : Nat) (g : List UInt8) (w3 : World), m ≤ 8 * mF n → v' < 4294967296 → g.length = 13 → withR g (8 * qF n) m v' = putB h (qF n) (mF n) v → v' / 2 ^ m = v / 2 ^ (8 * mF n) → Sep (fun _ => False) w w3 [fB b2 z13, fB b1 (encH g)] → ref01_With.l18 Z Q (m + 1) (n : Int) (v' : Int) ⟨b1, 0, none⟩ ⟨b2, 0, none⟩ ((m : Int) - 1) w3 := by
      intro m
      induction m with
      | zero =>
        intro v' g w3 hm' hv' hg he hd h3
        unfold ref01_With.l18 ref01_With.s21
        rw [pif_dec, if_neg (by omega)]
        unfold ref01_With.s8
        rw [Nat.pow_zero, Nat.div_one] at hd
        rw [pif_dec]
        split
        · rename_i g0
          rw [if_pos (by omega)] at hk
          exact zero 10 g w3 hk h3
        · rename_i g0
          rw [if_neg (by omega)] at hk
          refine out13 (Q := fun v => Q v 0) hg rfl h3 fun w' k' => ?_
          have := hk w' k'
          rw [← he] at this
          exact this
      | succ m ih =>
        intro v' g w3 hm' hv' hg he hd h3
        unfold ref01_With.l18 ref01_With.s21
        rw [pif_dec, if_pos (by omega)]
        refine h3.drawn (fun w' => IsB w' b1 (encH g)) (h3.drew.at (n := 1) rfl : IsB _ _ _) fun h3 => ?_
        refine hN_of (len13 hg) (fun w' hw' => cellsAt_B hw' (by rw [len13 hg]; exact sub13 hg)) ?_
        refine cnd_of (by decide) ?_
        refine first_cal (fun hf' => by rw [fldI_nat hn] at hf'; cases hf') fun n' hf' => ?_
        rw [fldI_nat hn] at hf'
        cases hf'
        refine sAnd_of (h3.at (n := 1) rfl : IsB _ _ _) ?_
        have ei : IntKind.wrap .i64 (((8 * qF n : Nat) : Int) + (((m + 1 : Nat) : Int) - 1)) = ((8 * qF n + m : Nat) : Int) := by rw [wrap_in (by omega) (by omega)]; omega
        have eo : (Int.tmod (v' : Int) 2 == 1) = (v' % 2 == 1) := by
          rw [show (2 : Int) = ((2 : Nat) : Int) from rfl, tmodN, Bool.eq_iff_iff]
          simp only [beq_iff_eq]
          omega
        rw [ei, eo]
        refine put_cal hg (by omega) fun w4 k4 => ?_
        have h4 := h3.ext k4
        refine sAnd_of (h4.at (n := 1) rfl : IsB _ _ _) ?_
        have hl' : (putS g (8 * qF n + m) (v' % 2 == 1)).length = 13 := by rw [put_len, hg]
        refine h4.stN 1 rfl (by rw [encH_len]; omega) (len13 hl') (encH_one _) (lay_all13 (len13 hg) (len13 hl')) fun w5 h5 k5 => ?_
        refine cnd_of (by decide) ?_
        rw [show IntKind.wrap .u32 (Int.tdiv (v' : Int) 2) = ((v' / 2 : Nat) : Int) by rw [show (2 : Int) = ((2 : Nat) : Int) from rfl, tdivN, wrapU32, Nat.mod_eq_of_lt (by omega)]]
        rw [show IntKind.wrap .i64 (((m + 1 : Nat) : Int) - 1 - 1) = (m : Int) - 1 by rw [wrap_in (by omega) (by omega)]; omega]
        refine ih (v' / 2) _ w5 (by omega) (by omega) hl' he ?_ h5
        rw [Nat.div_div_eq_div_mul, ← hd, Nat.pow_succ, Nat.mul_comm 2]
    rw [wrap_in (by omega) (by omega)]
    exact exK_of (8 * mF n + 1) (loop (8 * mF n) v h w2 (Nat.le_refl _) hvv hl (with_eq hl hqm) rfl h2)
/-- A header of five numbers. -/
def makeS (v : Nat → Nat) : Nat → List UInt8
  | 0 => h0
  | n + 1 => putB (makeS v n) (qF n) (mF n) (v n)
theorem makeS_len (v : Nat → Nat) : ∀ n, (makeS v n).length = 13
  | 0 => rfl
  | n + 1 => by rw [makeS, putB_len, makeS_len v n]
def vals5 (a b c d e : Nat) (n : Nat) : Nat := match n with | 0 => a | 1 => b | 2 => c | 3 => d | _ => e
theorem make_cal {K : List Value → PT} {a b c d e : Nat} (hv : Places w) (hb' : a < 4294967296 ∧ b < 4294967296 ∧ c < 65536 ∧ d < 65536 ∧ e < 256) (hk : ∀ w', Ext w w' → K (encH (makeS (vals5 a b c d e) 5)) w') :
    cal Tryd.prog Z 10 [.int .u32 (a : Int), .int .u32 (b : Int), .int .u16 (c : Int), .int .u16 (d : Int), .int .u8 (e : Int)] (isN fun v => K v) w := by
  refine head_Make.cal ?_
  unfold head_Make.F head_Make.s32
  refine (Sep.start (fun _ => False) w).new fun w1 b1 h1 k1 => ?_
  refine h1.new fun w2 b2 h2 k2 => ?_
  unfold head_Make.s29
  simp only [wrapU32, Nat.mod_eq_of_lt (show c < 4294967296 by omega), Nat.mod_eq_of_lt (show d < 4294967296 by omega), Nat.mod_eq_of_lt (show e < 4294967296 by omega)]
  have at5 : ∀ n, n < 5 → ([.int .u32 (a : Int), .int .u32 (b : Int), .int .u32 (c : Int), .int .u32 (d : Int), .int .u32 (e : Int)] : List Value)[n]? = some (.int .u32 (vals5 a b c d e n : Nat)) ∧ vals5 a b c d e n < 4294967296 := fun n hn => by
    match n, hn with
    | 0, _ => exact ⟨rfl, hb'.1⟩
    | 1, _ => exact ⟨rfl, hb'.2.1⟩
    | 2, _ => exact ⟨rfl, by show c < _; omega⟩
    | 3, _ => exact ⟨rfl, by show d < _; omega⟩
    | 4, _ => exact ⟨rfl, by show e < _; omega⟩
  have loop : ∀ (m n : Nat) (w3 : World), n + m = 5 → Sep (fun _ => False) w w3 [fB b2 (encH (makeS (vals5 a b c d e) n)), fB b1 z13] → head_Make.l18 Z K (m + 1) ⟨b1, 0, none⟩ ⟨b2, 0, none⟩ [.int .u32 (a : Int), .int .u32 (b : Int), .int .u32 (c : Int), .int .u32 (d : Int), .int .u32 (e : Int)] (n : Int) w3 := by
    intro m
    induction m with
    | zero =>
      intro n w3 hn h3
      have : n = 5 := by omega
      subst this
      unfold head_Make.l18 head_Make.s21
      rw [pif_dec, if_neg (by omega)]
      unfold head_Make.s8
      refine h3.ldN 0 rfl (sub13 (makeS_len _ 5)) (len13 (makeS_len _ 5)) ?_
      refine h3.stN 1 rfl (by decide) (len13 (makeS_len _ 5)) (encH_one _) (lay_all13 rfl (len13 (makeS_len _ 5))) fun w4 h4 k4 => ?_
      exact h4.ldN 1 rfl (sub13 (makeS_len _ 5)) (len13 (makeS_len _ 5)) (hk w4 h4.kept)
    | succ m ih =>
      intro n w3 hn h3
      obtain ⟨a1, a2⟩ := at5 n (by omega)
      unfold head_Make.l18 head_Make.s21
      rw [pif_dec, if_pos (by omega)]
      refine cnd_of ⟨by omega, by omega⟩ ?_
      simp only [Int.toNat_natCast, Nat.mul_one]
      refine ptI_of a1 ?_
      have hlm := makeS_len (vals5 a b c d e) n
      have all : ∀ {w'}, Sep (fun _ => False) w w' [fB b2 (encH (makeS (vals5 a b c d e) n)), fB b1 z13] → IsB w' b2 (encH (makeS (vals5 a b c d e) n)) ∧ Places w' := fun h => ⟨h.at (n := 0) rfl, hv.ext h.kept⟩
      refine h3.drawn (fun w' => IsB w' b2 (encH (makeS (vals5 a b c d e) n)) ∧ Places w') (all h3.drew) fun h3 => ?_
      refine hN_of (len13 hlm) (fun w' hw' => cellsAt_B hw'.1 (by rw [len13 hlm]; exact sub13 hlm)) ?_
      refine cnd_of ⟨by omega, by omega⟩ ?_
      rw [add_mk, Nat.zero_add]
      refine hN_of (cs := [.int .i64 (8 * qF n : Nat), .int .i64 (8 * mF n : Nat)]) rfl (fun w' hw' j u hj => ?_) ?_
      · obtain ⟨c1, c2⟩ := placesB hw'.2 (show n < 5 by omega)
        rw [add_mk]
        match j, hj with
        | 0, hj => simp at hj; subst hj; exact c1
        | 1, hj => simp at hj; subst hj; exact c2
      · refine putS_cal hlm (by omega) a2 fun w4 k4 => ?_
        have h4 := h3.ext k4
        refine sAnd_of (all h4) ?_
        have hl' := makeS_len (vals5 a b c d e) (n + 1)
        refine h4.stN 0 rfl (by rw [encH_len]; omega) (len13 hl') (encH_one _) (lay_all13 (len13 hlm) (len13 hl')) fun w5 h5 k5 => ?_
        rw [wrap_nat1 (by omega)]
        exact ih (n + 1) w5 (by omega) h5
  exact exK_of 6 (loop 5 0 w2 (by omega) h2)
end
end Go.Proofs.YtchhffabpgebmaaDoor
