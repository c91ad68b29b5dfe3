/-
  The headers' functions: their code comes to the plain functions (bits, the order). No condition.
-/
import Derived.Test.YtllgjjldnnmjkaaDoorHeadS
import Derived.Test.YtllgjjldnnmjkaaDoorCodeHead
set_option linter.unusedVariables false
set_option linter.unusedSimpArgs false
set_option maxRecDepth 100000
namespace Go.Proofs.YtllgjjldnnmjkaaDoor
open Go.RowKit Extern.Stop

/-! ### Numbers -/
theorem wrapU8 (n : Nat) : IntKind.wrap .u8 (n : Int) = (n % 256 : Nat) := by simp [IntKind.wrap, IntKind.bits, IntKind.signed]
theorem wrapU16 (n : Nat) : IntKind.wrap .u16 (n : Int) = (n % 65536 : Nat) := by simp [IntKind.wrap, IntKind.bits, IntKind.signed]
theorem wrapU32 (n : Nat) : IntKind.wrap .u32 (n : Int) = (n % 4294967296 : Nat) := by simp [IntKind.wrap, IntKind.bits, IntKind.signed]
theorem wrapU64 (n : Nat) : IntKind.wrap .u64 (n : Int) = (n % 18446744073709551616 : Nat) := by simp [IntKind.wrap, IntKind.bits, IntKind.signed]
theorem tdivN (n m : Nat) : Int.tdiv (n : Int) (m : Int) = ((n / m : Nat) : Int) := by rw [Int.tdiv_eq_ediv_of_nonneg (by omega)]; rfl
theorem tmodN (n m : Nat) : Int.tmod (n : Int) (m : Int) = ((n % m : Nat) : Int) := by rw [Int.tmod_eq_emod_of_nonneg (by omega)]; rfl
theorem fdivN (n m : Nat) : Int.fdiv (n : Int) (m : Int) = ((n / m : Nat) : Int) := by rw [Int.fdiv_eq_ediv_of_nonneg _ (by omega)]; rfl
theorem powN (k : Nat) : ((2 : Int) ^ k) = ((2 ^ k : Nat) : Int) := by simp
theorem ofN8 {n : Nat} (h : n < 256) : (BitVec.ofInt (IntKind.bits .u8) (n : Int)).toNat = n := by
  show (BitVec.ofInt 8 (n : Int)).toNat = n
  rw [BitVec.toNat_ofInt]; omega
theorem ofN32 {n : Nat} (h : n < 4294967296) : (BitVec.ofInt (IntKind.bits .u32) (n : Int)).toNat = n := by
  show (BitVec.ofInt 32 (n : Int)).toNat = n
  rw [BitVec.toNat_ofInt]; omega
theorem and8 {x y : Nat} (hx : x < 256) (hy : y < 256) : IntKind.wrap .u8 ((BitVec.ofInt (IntKind.bits .u8) (x : Int) &&& BitVec.ofInt (IntKind.bits .u8) (y : Int)).toNat : Nat) = ((x &&& y : Nat) : Int) := by
  rw [BitVec.toNat_and, ofN8 hx, ofN8 hy, wrapU8, Nat.mod_eq_of_lt (Nat.and_lt_two_pow (n := 8) x hy)]
theorem xor8 {x y : Nat} (hx : x < 256) (hy : y < 256) : IntKind.wrap .u8 ((BitVec.ofInt (IntKind.bits .u8) (x : Int) ^^^ BitVec.ofInt (IntKind.bits .u8) (y : Int)).toNat : Nat) = ((x ^^^ y : Nat) : Int) := by
  rw [BitVec.toNat_xor, ofN8 hx, ofN8 hy, wrapU8, Nat.mod_eq_of_lt (Nat.xor_lt_two_pow (n := 8) hx hy)]
theorem or32 {x y : Nat} (hx : x < 4294967296) (hy : y < 4294967296) : IntKind.wrap .u32 ((BitVec.ofInt (IntKind.bits .u32) (x : Int) ||| BitVec.ofInt (IntKind.bits .u32) (y : Int)).toNat : Nat) = ((x ||| y : Nat) : Int) := by
  rw [BitVec.toNat_or, ofN32 hx, ofN32 hy, wrapU32, Nat.mod_eq_of_lt (Nat.or_lt_two_pow (n := 32) hx hy)]
theorem wrapU8_of {n : Nat} (h : n < 256) : IntKind.wrap .u8 (n : Int) = (n : Int) := by rw [wrapU8, Nat.mod_eq_of_lt h]
theorem pow_sub (i : Nat) : 128 / 2 ^ (i % 8) = 2 ^ (7 - i % 8) := by
  have h : ∀ j, j < 8 → 128 / 2 ^ j = 2 ^ (7 - j) := by decide
  exact h _ (Nat.mod_lt _ (by decide))
theorem shr128 (i : Nat) : Int.fdiv (128 : Int) (2 ^ (min (((i % 8 : Nat) : Int)).toNat (IntKind.bits .u8))) = ((2 ^ (7 - i % 8) : Nat) : Int) := by
  have e : min (((i % 8 : Nat) : Int)).toNat (IntKind.bits .u8) = i % 8 := by
    show min _ 8 = _
    omega
  rw [e, powN, ← pow_sub]
  exact fdivN 128 _

abbrev z13 : List Value := [.int .u8 0, .int .u8 0, .int .u8 0, .int .u8 0, .int .u8 0, .int .u8 0, .int .u8 0, .int .u8 0, .int .u8 0, .int .u8 0, .int .u8 0, .int .u8 0, .int .u8 0]
section
variable {Z : List PanicEntry → PT} {w : World} {h : List UInt8}
theorem setN {h : List UInt8} {i : Nat} {n : Nat} {v : Int} (hv : v = (n : Nat)) (hn : n < 256) : (encH h).set i (.int .u8 v) = encH (setH h i n) := by subst hv; exact encH_set hn
theorem bit2_cal {K : Bool → PT} {i : Int} (hl : h.length = 13) (hk : ∀ w', Ext w w' → K (bitI h i) w') : cal Tryd.prog Z 80 [.agg ⟨encH h⟩, .int .i64 i] (isB fun v => K v) w := by
  refine ref01_Bit.cal ?_
  unfold ref01_Bit.F
  refine (Sep.start (fun _ => False) w).new fun w2 b1 h1 k1 => ?_
  unfold bitI at hk
  rw [pif_dec]
  split
  · rename_i g0
    rw [if_neg (by omega)] at hk
    exact hk w2 h1.kept
  · rename_i g0
    rw [pif_dec]
    split
    · rename_i g1
      rw [if_neg (by omega)] at hk
      exact hk w2 h1.kept
    · rename_i g1
      rw [if_pos (by omega)] at hk
      obtain ⟨n, rfl⟩ : ∃ n : Nat, i = n := ⟨i.toNat, by omega⟩
      have e1 : IntKind.wrap .i64 (Int.tdiv (n : Int) 8) = ((n / 8 : Nat) : Int) := by rw [show (8 : Int) = ((8 : Nat) : Int) from rfl, tdivN, wrap_nat (by omega)]
      have e2 : IntKind.wrap .i64 ((7 : Int) - Int.tmod (n : Int) 8) = ((7 - n % 8 : Nat) : Int) := by
        rw [show Int.tmod (n : Int) 8 = ((n % 8 : Nat) : Int) from tmodN n 8, wrap_in (by omega) (by omega)]; omega
      rw [e1, e2]
      refine cnd_of (by decide) (cnd_of ⟨by omega, by omega⟩ ?_)
      simp only [add_mk, Nat.zero_add, Int.toNat_natCast, Nat.mul_one]
      refine h1.ldI 0 rfl (encH_at (by omega)) ?_
      refine cnd_of (by decide) (cnd_of (by omega) (cnd_of (by decide) ?_))
      have e3 : min (7 - n % 8) (IntKind.bits .u8) = 7 - n % 8 := by show min _ 8 = _; omega
      rw [e3, powN, fdivN, show (2 : Int) = ((2 : Nat) : Int) from rfl, tmodN]
      have := (bit_tab _ (hb_lt h (n / 8)) (7 - n % 8) (by omega)).2.2.2
      have e4 : ((((hb h (n / 8) / 2 ^ (7 - n % 8) % 2 : Nat) : Int)) == 1) = (hb h (n / 8)).testBit (7 - n % 8) := by
        rw [← this, Bool.eq_iff_iff]
        simp only [beq_iff_eq]
        omega
      rw [e4]
      exact hk w2 h1.kept
def flipI (h : List UInt8) (i : Int) : List UInt8 := if 0 ≤ i ∧ i < 104 then flipS h i.toNat else h
theorem out13 {b1 b2 : Nat} {Q : List Value → PT} {w0 : World} {h : List UInt8} {z : List Value} (hl : h.length = 13) (hz : z.length = 13) (hs : Sep (fun _ => False) w0 w [fB b2 z, fB b1 (encH h)]) (hk : ∀ w', Ext w0 w' → Q (encH h) w') : ldN 13 ⟨b1, 0, none⟩ (fun v => stN 13 ⟨b2, 0, none⟩ v (ldN 13 ⟨b2, 0, none⟩ fun u => Q u)) w := by
  have e : Go.Proofs.YtllgjjldnnmjkaaDoor.sub (encH h) 0 13 = encH h := by
    unfold Go.Proofs.YtllgjjldnnmjkaaDoor.sub
    rw [List.drop_zero, List.take_of_length_le (by rw [encH_len]; omega)]
  refine hs.ldN 1 rfl e (by rw [encH_len, hl]) ?_
  refine hs.stN 0 rfl (by omega) (by rw [encH_len, hl]) (encH_one h) (cs' := encH h) ?_ fun w1 h1 k1 => ?_
  · unfold lay
    rw [List.take_zero, List.drop_eq_nil_of_le (by rw [encH_len]; omega)]
    simp
  · exact h1.ldN 0 rfl e (by rw [encH_len, hl]) (hk w1 h1.kept)
end
end Go.Proofs.YtllgjjldnnmjkaaDoor
