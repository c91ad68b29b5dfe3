/-
  The headers' functions: a field's number, another number in a field, whole headers. No condition.
-/
import Derived.Test.YtllgjjldnnmjkaaDoorHead2
set_option linter.unusedVariables false
set_option linter.unusedSimpArgs false
set_option maxRecDepth 100000
namespace Go.Proofs.YtllgjjldnnmjkaaDoor
open Go.RowKit Extern.Stop
def fieldI (h : List UInt8) (f : Int) : Nat × Int := match fldI f with
  | none => (0, 1)
  | some n => (fieldS h (8 * qF n) (8 * mF n), 0)
def withI (h : List UInt8) (f : Int) (v : Nat) : List UInt8 × Int := match fldI f with
  | none => (h0, 1)
  | some n => if v / 2 ^ (8 * mF n) ≠ 0 then (h0, 10) else (putB h (qF n) (mF n) v, 0)
theorem encH_h0 : encH h0 = z13 := rfl
theorem lay_all13 {z vs : List Value} (h1 : z.length = 13) (h2 : vs.length = 13) : lay z 0 vs = vs := by
  unfold lay
  rw [List.take_zero, List.drop_eq_nil_of_le (by omega)]
  simp
theorem bytes_lt (h : List UInt8) (q : Nat) : ∀ m, bytesS h q m < 256 ^ m
  | 0 => by simp [bytesS]
  | m + 1 => by
    have := bytes_lt h q m
    have := hb_lt h (q + m)
    simp only [bytesS, Nat.pow_succ]
    omega
section
variable {Z : List PanicEntry → PT} {w : World} {h : List UInt8}
theorem field_cal {Q : Int → Int → PT} {f : Int} (hv : Places w) (hl : h.length = 13) (hk : ∀ w', Ext w w' → Q ((fieldI h f).1 : Nat) (fieldI h f).2 w') :
    cal Tryd.prog Z 32 [.agg ⟨encH h⟩, .int .i64 f] (isT2 fun x y => (isI .u32 fun r0 => (isI .i64 fun r1 => Q r0 r1) y) x) w := by
  refine head_Field.cal ?_
  unfold head_Field.F head_Field.s34
  refine (Sep.start (fun _ => False) w).new fun w1 b1 h1 k1 => ?_
  unfold fieldI at hk
  refine place_cal (hv.ext h1.kept) (fun hf w2 k2 => ?_) fun n hf w2 k2 => ?_
  · rw [pif_bne, if_neg (by decide)]
    rw [hf] at hk
    exact hk w2 (h1.ext k2).kept
  · rw [pif_bne, if_pos rfl]
    rw [hf] at hk
    simp only at hk
    have h2 := h1.ext k2
    have hqm := qm_le n
    have hm := mF_le n
    have d8 : ∀ x : Nat, x ≤ 1000 → IntKind.wrap .i64 (Int.tdiv ((8 * x : Nat) : Int) 8) = (x : Int) := fun x hx => by
      rw [show (8 : Int) = ((8 : Nat) : Int) from rfl, tdivN, wrap_nat (by omega)]; omega
    unfold head_Field.s31
    refine cnd_of (by decide) (cnd_of (by decide) (cnd_of (by decide) ?_))
    rw [d8 _ (by omega), d8 _ (by omega), wrap_in (by omega) (by omega)]
    refine cnd_of ⟨by omega, by omega, by omega⟩ ?_
    have ea : (if 13 = ((qF n : Int)).toNat then (⟨b1, 0, none⟩ : Addr) else (⟨b1, 0, none⟩ : Addr).add (((qF n : Int)).toNat * 1)) = ⟨b1, qF n, none⟩ := by
      rw [if_neg (by omega), add_mk, Int.toNat_natCast]; simp
    rw [ea, show ((qF n : Int) + (mF n : Int)).toNat - ((qF n : Int)).toNat = mF n by omega]
    have loop : ∀ (m i : Nat), i + m = mF n → head_Field.l20 Z Q (m + 1) ((bytesS h (qF n) i : Nat) : Int) (some ⟨b1, qF n, none⟩) (mF n) (13 - ((qF n : Int)).toNat) ((mF n : Nat) : Int) (i : Int) w2 := by
      intro m
      induction m with
      | zero =>
        intro i hi
        unfold head_Field.l20 head_Field.s23
        rw [pif_dec, if_neg (by omega)]
        unfold head_Field.s10
        rw [field_bytes] at hk
        have : i = mF n := by omega
        subst this
        exact hk w2 h2.kept
      | succ m ih =>
        intro i hi
        unfold head_Field.l20 head_Field.s23
        rw [pif_dec, if_pos (by omega)]
        refine ixS_of rfl (by omega) (by omega) ?_
        rw [add_mk, Int.toNat_natCast, Nat.mul_one]
        refine h2.ldI 0 rfl (encH_at (by omega)) (cnd_of (by decide) ?_)
        have hlt := bytes_lt h (qF n) i
        have hle : 256 ^ i ≤ 256 ^ 3 := Nat.pow_le_pow_right (by decide) (by omega)
        have hb1 := hb_lt h (qF n + i)
        rw [show (2 : Int) ^ (min (8 : Int).toNat (IntKind.bits .u32)) = ((256 : Nat) : Int) from rfl, ← Int.natCast_mul, wrapU32 (bytesS h (qF n) i * 256), wrapU32 (hb h (qF n + i)), Nat.mod_eq_of_lt (show bytesS h (qF n) i * 256 < 4294967296 by omega), Nat.mod_eq_of_lt (show hb h (qF n + i) < 4294967296 by omega), or32 (by omega) (by omega)]
        have e : bytesS h (qF n) i * 256 ||| hb h (qF n + i) = bytesS h (qF n) (i + 1) := by
          have := Nat.two_pow_add_eq_or_of_lt (i := 8) (b := hb h (qF n + i)) hb1 (bytesS h (qF n) i)
          rw [bytesS, Nat.mul_comm _ 256]
          exact this.symm
        rw [e, wrap_nat1 (by omega)]
        exact ih (i + 1) (by omega)
    exact exK_of (mF n + 1) (loop (mF n) 0 (by omega))
theorem field2_cal {Q : Int → Int → PT} {f : Int} (hl : h.length = 13) (hk : ∀ w', Ext w w' → Q ((fieldI h f).1 : Nat) (fieldI h f).2 w') :
    cal Tryd.prog Z 56 [.agg ⟨encH h⟩, .int .i64 f] (isT2 fun x y => (isI .u32 fun r0 => (isI .i64 fun r1 => Q r0 r1) y) x) w := by
  refine ref01_Field.cal ?_
  unfold ref01_Field.F ref01_Field.s33
  refine (Sep.start (fun _ => False) w).new fun w1 b1 h1 k1 => ?_
  unfold fieldI at hk
  refine first_cal (fun hf => ?_) fun n hf => ?_
  · rw [pif_dec, if_pos (by decide)]
    rw [hf] at hk
    exact hk w1 h1.kept
  · rw [pif_dec, if_neg (by omega)]
    rw [hf] at hk
    obtain ⟨rfl, hn⟩ := fldI_some hf
    simp only at hk
    have hqm := qm_le n
    have hm := mF_le n
    unfold ref01_Field.s30
    have loop : ∀ (m i : Nat) (w2 : World), i + m = 8 * mF n → Sep (fun _ => False) w w2 [fB b1 (encH h)] → ref01_Field.l19 Z Q (m + 1) (n : Int) ⟨b1, 0, none⟩ ((fieldS h (8 * qF n) i : Nat) : Int) (i : Int) w2 := by
      intro m
      induction m with
      | zero =>
        intro i w2 hi h2
        unfold ref01_Field.l19 ref01_Field.s22
        refine width_cal hn ?_
        rw [pif_dec, if_neg (by omega)]
        unfold ref01_Field.s9
        have : i = 8 * mF n := by omega
        subst this
        exact hk w2 h2.kept
      | succ m ih =>
        intro i w2 hi h2
        unfold ref01_Field.l19 ref01_Field.s22
        refine width_cal hn ?_
        rw [pif_dec, if_pos (by omega)]
        refine h2.drawn (fun w' => IsB w' b1 (encH h)) (h2.drew.at (n := 0) rfl : IsB _ _ _) fun h2 => ?_
        refine hN_of (len13 hl) (fun w' hw' => cellsAt_B hw' (by rw [len13 hl]; exact sub13 hl)) ?_
        refine first_cal (fun hf' => by rw [fldI_nat hn] at hf'; cases hf') fun n' hf' => ?_
        rw [fldI_nat hn] at hf'
        cases hf'
        refine sAnd_of (h2.at (n := 0) rfl : IsB _ _ _) ?_
        rw [← Int.natCast_add, wrap_nat (by omega)]
        refine bit2_cal hl fun w3 k3 => ?_
        have h3 := h2.ext k3
        refine sAnd_of (h3.at (n := 0) rfl : IsB _ _ _) ?_
        have eb : bitI h ((8 * qF n + i : Nat) : Int) = bitS h (8 * qF n + i) := by unfold bitI; rw [if_pos (by omega), Int.toNat_natCast]
        rw [eb]
        have hlt := field_lt h (8 * qF n) i
        have hle : 2 ^ i ≤ 2 ^ 31 := Nat.pow_le_pow_right (by decide) (by omega)
        have e0 : IntKind.wrap .u32 ((fieldS h (8 * qF n) i : Int) * 2) = ((fieldS h (8 * qF n) i * 2 : Nat) : Int) := by
          rw [show (fieldS h (8 * qF n) i : Int) * 2 = ((fieldS h (8 * qF n) i * 2 : Nat) : Int) by omega, wrapU32, Nat.mod_eq_of_lt (by omega)]
        have e1 : IntKind.wrap .u32 (IntKind.wrap .u32 ((fieldS h (8 * qF n) i : Int) * 2) + 1) = ((fieldS h (8 * qF n) i * 2 + 1 : Nat) : Int) := by
          rw [e0, show ((fieldS h (8 * qF n) i * 2 : Nat) : Int) + 1 = ((fieldS h (8 * qF n) i * 2 + 1 : Nat) : Int) by omega, wrapU32, Nat.mod_eq_of_lt (by omega)]
        have ih' := ih (i + 1) w3 (by omega) h3
        simp only [fieldS] at ih'
        rw [e1, e0, wrap_nat1 (by omega), pif_bool]
        cases hb' : bitS h (8 * qF n + i) with
        | true => rw [hb'] at ih'; rw [if_pos rfl]; exact ih'
        | false => rw [hb'] at ih'; rw [if_neg (by decide)]; exact ih'
    exact exK_of (8 * mF n + 1) (loop (8 * mF n) 0 w1 (by omega) h1)
theorem sub13z : Go.Proofs.YtllgjjldnnmjkaaDoor.sub z13 0 13 = z13 := rfl
/-- A header of five numbers. -/
def makeS (v : Nat → Nat) : Nat → List UInt8
  | 0 => h0
  | n + 1 => putB (makeS v n) (qF n) (mF n) (v n)
theorem makeS_len (v : Nat → Nat) : ∀ n, (makeS v n).length = 13
  | 0 => rfl
  | n + 1 => by rw [makeS, putB_len, makeS_len v n]
def vals5 (a b c d e : Nat) (n : Nat) : Nat := match n with | 0 => a | 1 => b | 2 => c | 3 => d | _ => e
end
end Go.Proofs.YtllgjjldnnmjkaaDoor
