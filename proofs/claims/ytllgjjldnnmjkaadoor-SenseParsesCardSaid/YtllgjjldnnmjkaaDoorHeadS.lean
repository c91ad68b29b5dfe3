/-
  Headers as lists of bytes: bits, fields, their order: plain functions and their laws. No condition.
-/
import Derived.Test.YtllgjjldnnmjkaaDoorWlLaid
import Derived.Stop.BytesEq
set_option linter.unusedVariables false
set_option linter.unusedSimpArgs false
set_option maxRecDepth 100000
namespace Go.Proofs.YtllgjjldnnmjkaaDoor
open Go.RowKit Extern.Stop

def hb (h : List UInt8) (i : Nat) : Nat := (h.getD i 0).toNat
theorem hb_lt (h : List UInt8) (i : Nat) : hb h i < 256 := UInt8.toNat_lt _
def encH (h : List UInt8) : List Value := h.map cell
theorem encH_len (h : List UInt8) : (encH h).length = h.length := by simp [encH]
theorem encH_one (h : List UInt8) : ∀ v ∈ encH h, v.oneCell' = true := by
  intro v hv
  obtain ⟨b, _, rfl⟩ := List.mem_map.1 hv
  rfl
theorem encH_at {h : List UInt8} {i : Nat} (hi : i < h.length) : (encH h)[i]? = some (.int .u8 (hb h i : Nat)) := by
  unfold encH hb
  rw [List.getElem?_map, List.getElem?_eq_getElem hi, List.getD_eq_getElem?_getD, List.getElem?_eq_getElem hi]
  rfl
def setH (h : List UInt8) (i b : Nat) : List UInt8 := h.set i (UInt8.ofNat b)
theorem setH_len (h : List UInt8) (i b : Nat) : (setH h i b).length = h.length := by simp [setH]
theorem hb_set {h : List UInt8} {i b k : Nat} (hi : i < h.length) : hb (setH h i b) k = if k = i then b % 256 else hb h k := by
  unfold hb setH
  rw [List.getD_eq_getElem?_getD, List.getD_eq_getElem?_getD, List.getElem?_set]
  by_cases e : i = k
  · subst e
    rw [if_pos rfl, if_pos hi, if_pos rfl]
    simp
  · rw [if_neg e, if_neg (fun g => e g.symm)]
theorem encH_set {h : List UInt8} {i b : Nat} (hb : b < 256) : (encH h).set i (.int .u8 (b : Nat)) = encH (setH h i b) := by
  unfold encH setH
  rw [List.map_set]
  congr 1
  simp only [cell, UInt8.toNat_ofNat']
  rw [Nat.mod_eq_of_lt hb]
  rfl
def h0 : List UInt8 := [0, 0, 0, 0, 0, 0, 0, 0, 0, 0, 0, 0, 0]

/-! ### Bits -/
def bitS (h : List UInt8) (i : Nat) : Bool := (hb h (i / 8)).testBit (7 - i % 8)
def bitI (h : List UInt8) (i : Int) : Bool := if 0 ≤ i ∧ i < 104 then bitS h i.toNat else false
theorem hd_ext {a b : List UInt8} (ha : a.length = 13) (hb' : b.length = 13) (h : ∀ i, i < 104 → bitS a i = bitS b i) : a = b := by
  refine List.ext_getElem (by omega) fun q h1 h2 => ?_
  have key : hb a q = hb b q := by
    refine Nat.eq_of_testBit_eq fun j => ?_
    rcases Nat.lt_or_ge j 8 with g | g
    · have := h (8 * q + (7 - j)) (by omega)
      unfold bitS at this
      rw [show (8 * q + (7 - j)) / 8 = q by omega, show 7 - (8 * q + (7 - j)) % 8 = j by omega] at this
      exact this
    · have e : ∀ x : Nat, x < 256 → x.testBit j = false := fun x hx => Nat.testBit_lt_two_pow (Nat.lt_of_lt_of_le hx (show 2 ^ 8 ≤ 2 ^ j from Nat.pow_le_pow_right (by decide) g))
      rw [e _ (hb_lt a q), e _ (hb_lt b q)]
  unfold hb at key
  rw [List.getD_eq_getElem?_getD, List.getD_eq_getElem?_getD, List.getElem?_eq_getElem h1, List.getElem?_eq_getElem h2] at key
  exact UInt8.toNat_inj.1 key
def flipS (h : List UInt8) (i : Nat) : List UInt8 := setH h (i / 8) (hb h (i / 8) ^^^ 2 ^ (7 - i % 8))
theorem pow_le (i : Nat) : 2 ^ (7 - i % 8) < 256 := Nat.lt_of_le_of_lt (Nat.pow_le_pow_right (by decide) (show 7 - i % 8 ≤ 7 by omega)) (by decide)
theorem xor_lt (h : List UInt8) (i : Nat) : hb h (i / 8) ^^^ 2 ^ (7 - i % 8) < 256 := Nat.xor_lt_two_pow (n := 8) (hb_lt h _) (pow_le i)
theorem flip_len (h : List UInt8) (i : Nat) : (flipS h i).length = h.length := setH_len ..
theorem bit_flip {h : List UInt8} {i k : Nat} (hl : h.length = 13) (hi : i < 104) : bitS (flipS h i) k = (bitS h k != decide (k = i)) := by
  unfold bitS flipS
  rw [hb_set (by omega)]
  by_cases e : k / 8 = i / 8
  · rw [if_pos e, Nat.mod_eq_of_lt (xor_lt h i), Nat.testBit_xor, e, Nat.testBit_two_pow]
    have : decide (7 - i % 8 = 7 - k % 8) = decide (k = i) := by
      rw [decide_eq_decide]; omega
    rw [this]
  · rw [if_neg e]
    have : decide (k = i) = false := decide_eq_false (fun g => e (by rw [g]))
    rw [this]; simp
def putS (h : List UInt8) (i : Nat) (one : Bool) : List UInt8 := if bitS h i = one then h else flipS h i
theorem put_len (h : List UInt8) (i : Nat) (one : Bool) : (putS h i one).length = h.length := by unfold putS; split <;> simp [flip_len]
theorem bit_put {h : List UInt8} {i k : Nat} {one : Bool} (hl : h.length = 13) (hi : i < 104) : bitS (putS h i one) k = if k = i then one else bitS h k := by
  unfold putS
  by_cases e : bitS h i = one
  · rw [if_pos e]
    by_cases g : k = i
    · rw [if_pos g, g, e]
    · rw [if_neg g]
  · rw [if_neg e, bit_flip hl hi]
    by_cases g : k = i
    · rw [if_pos g, g]
      cases h1 : bitS h i <;> cases one <;> simp_all
    · rw [if_neg g]; simp [g]
theorem bit_tab : ∀ b, b < 256 → ∀ k, k < 8 → (b.testBit k = false → b + 2 ^ k = b ^^^ 2 ^ k) ∧ (b.testBit k = true → 2 ^ k ≤ b ∧ b - 2 ^ k = b ^^^ 2 ^ k) ∧ ((b &&& 2 ^ k != 0) = b.testBit k) ∧ ((b / 2 ^ k % 2 == 1) = b.testBit k) := by decide +kernel

/-! ### Fields -/
def fieldS (h : List UInt8) (first : Nat) : Nat → Nat
  | 0 => 0
  | w + 1 => fieldS h first w * 2 + (bitS h (first + w)).toNat
theorem field_lt (h : List UInt8) (first : Nat) : ∀ w, fieldS h first w < 2 ^ w
  | 0 => by simp [fieldS]
  | w + 1 => by
    have := field_lt h first w
    have : (bitS h (first + w)).toNat ≤ 1 := Bool.toNat_le _
    simp only [fieldS, Nat.pow_succ]
    omega
def bytesS (h : List UInt8) (q : Nat) : Nat → Nat
  | 0 => 0
  | m + 1 => bytesS h q m * 256 + hb h (q + m)
theorem byte_bits : ∀ b, b < 256 → b = (b.testBit 7).toNat * 128 + (b.testBit 6).toNat * 64 + (b.testBit 5).toNat * 32 + (b.testBit 4).toNat * 16 + (b.testBit 3).toNat * 8 + (b.testBit 2).toNat * 4 + (b.testBit 1).toNat * 2 + (b.testBit 0).toNat := by decide +kernel
theorem field_bytes (h : List UInt8) (q : Nat) : ∀ m, fieldS h (8 * q) (8 * m) = bytesS h q m
  | 0 => rfl
  | m + 1 => by
    have ih := field_bytes h q m
    have hbt := byte_bits _ (hb_lt h (q + m))
    have st : ∀ j, j < 8 → bitS h (8 * q + (8 * m + j)) = (hb h (q + m)).testBit (7 - j) := fun j hj => by
      unfold bitS
      rw [show (8 * q + (8 * m + j)) / 8 = q + m by omega, show (8 * q + (8 * m + j)) % 8 = j by omega]
    have e0 := st 0 (by omega); have e1 := st 1 (by omega); have e2 := st 2 (by omega); have e3 := st 3 (by omega)
    have e4 := st 4 (by omega); have e5 := st 5 (by omega); have e6 := st 6 (by omega); have e7 := st 7 (by omega)
    rw [show 8 * (m + 1) = 8 * m + 0 + 1 + 1 + 1 + 1 + 1 + 1 + 1 + 1 by omega]
    simp only [fieldS, Nat.add_assoc, Nat.reduceAdd]
    rw [Nat.add_zero] at e0
    simp only [Nat.add_zero, e0, e1, e2, e3, e4, e5, e6, e7, ih, bytesS]
    simp only [Nat.sub_zero, Nat.reduceSub]
    omega
theorem bit_field {h : List UInt8} {first : Nat} : ∀ {w t : Nat}, t < w → (fieldS h first w).testBit t = bitS h (first + (w - 1 - t))
  | w + 1, 0, _ => by
    simp only [fieldS]
    rw [Nat.testBit_zero, show first + (w + 1 - 1 - 0) = first + w by omega]
    cases bitS h (first + w) <;> simp
  | w + 1, t + 1, ht => by
    have ih := bit_field (h := h) (first := first) (w := w) (t := t) (by omega)
    simp only [fieldS]
    have hle : (bitS h (first + w)).toNat ≤ 1 := Bool.toNat_le _
    have e : (fieldS h first w * 2 + (bitS h (first + w)).toNat) / 2 = fieldS h first w := by omega
    rw [Nat.testBit_succ, e, ih]
    congr 1
    omega
/-- Bytes laid into a field, the last one first. -/
def putB (h : List UInt8) (q : Nat) : Nat → Nat → List UInt8
  | 0, v => h
  | m + 1, v => putB (setH h (q + m) (v % 256)) q m (v / 256)
theorem putB_len (q : Nat) : ∀ (m v : Nat) (h : List UInt8), (putB h q m v).length = h.length
  | 0, v, h => rfl
  | m + 1, v, h => by rw [putB, putB_len q m, setH_len]
theorem bit_putB (q : Nat) : ∀ (m v : Nat) (h : List UInt8) (k : Nat), q + m ≤ h.length → bitS (putB h q m v) k = if 8 * q ≤ k ∧ k < 8 * (q + m) then v.testBit (8 * (q + m) - 1 - k) else bitS h k
  | 0, v, h, k, hl => by rw [putB, if_neg (by omega)]
  | m + 1, v, h, k, hl => by
    rw [putB, bit_putB q m _ _ k (by rw [setH_len]; omega)]
    by_cases h1 : 8 * q ≤ k ∧ k < 8 * (q + m)
    · rw [if_pos h1, if_pos (by omega), show v / 256 = v / 2 ^ 8 from rfl, Nat.testBit_div_two_pow]
      congr 1
      omega
    · rw [if_neg h1]
      unfold bitS
      rw [hb_set (by omega)]
      by_cases h2 : k / 8 = q + m
      · rw [if_pos h2, if_pos (by omega), show v % 256 % 256 = v % 2 ^ 8 by omega, Nat.testBit_mod_two_pow]
        rw [show 8 * (q + (m + 1)) - 1 - k = 7 - k % 8 by omega]
        simp; omega
      · rw [if_neg h2, if_neg (by omega)]
/-- Bits laid into a field, the last one first. -/
def withR (h : List UInt8) (first : Nat) : Nat → Nat → List UInt8
  | 0, v => h
  | w + 1, v => withR (putS h (first + w) (v % 2 == 1)) first w (v / 2)
theorem withR_len (first : Nat) : ∀ (w v : Nat) (h : List UInt8), (withR h first w v).length = h.length
  | 0, v, h => rfl
  | w + 1, v, h => by rw [withR, withR_len first w, put_len]
theorem bit_withR (first : Nat) : ∀ (w v : Nat) (h : List UInt8) (k : Nat), h.length = 13 → first + w ≤ 104 → bitS (withR h first w v) k = if first ≤ k ∧ k < first + w then v.testBit (first + w - 1 - k) else bitS h k
  | 0, v, h, k, hl, hw => by rw [withR, if_neg (by omega)]
  | w + 1, v, h, k, hl, hw => by
    rw [withR, bit_withR first w _ _ k (by rw [put_len]; exact hl) (by omega)]
    by_cases h1 : first ≤ k ∧ k < first + w
    · rw [if_pos h1, if_pos (by omega), ← Nat.testBit_succ]
      congr 1
      omega
    · rw [if_neg h1, bit_put hl (by omega)]
      by_cases h2 : k = first + w
      · rw [if_pos h2, if_pos (by omega), show first + (w + 1) - 1 - k = 0 by omega, Nat.testBit_zero]
        rcases Nat.mod_two_eq_zero_or_one v with g | g <;> simp [g]
      · rw [if_neg h2, if_neg (by omega)]
theorem with_eq {h : List UInt8} {q m v : Nat} (hl : h.length = 13) (hq : q + m ≤ 13) : withR h (8 * q) (8 * m) v = putB h q m v := by
  refine hd_ext (by rw [withR_len, hl]) (by rw [putB_len, hl]) fun k hk => ?_
  rw [bit_withR _ _ _ _ k hl (by omega), bit_putB _ _ _ _ k (by omega)]
  have : 8 * q + 8 * m = 8 * (q + m) := by omega
  rw [this]
/-- What lies in a field behind it was laid there, or in another one. -/
theorem field_put {h : List UInt8} {q m v : Nat} (hl : h.length = 13) (hq : q + m ≤ 13) (hv : v < 2 ^ (8 * m)) : fieldS (putB h q m v) (8 * q) (8 * m) = v := by
  refine Nat.eq_of_testBit_eq fun t => ?_
  rcases Nat.lt_or_ge t (8 * m) with g | g
  · rw [bit_field g, bit_putB _ _ _ _ _ (by omega), if_pos (by omega)]
    congr 1
    omega
  · rw [Nat.testBit_lt_two_pow (Nat.lt_of_lt_of_le (field_lt _ _ _) (Nat.pow_le_pow_right (by decide) g)), Nat.testBit_lt_two_pow (Nat.lt_of_lt_of_le hv (Nat.pow_le_pow_right (by decide) g))]
theorem field_other {h : List UInt8} {q m v first : Nat} (hl : h.length = 13) (hq : q + m ≤ 13) : ∀ w, (first + w ≤ 8 * q ∨ 8 * (q + m) ≤ first) → fieldS (putB h q m v) first w = fieldS h first w
  | 0, _ => rfl
  | w + 1, ho => by
    simp only [fieldS]
    rw [field_other hl hq w (by omega), bit_putB _ _ _ _ _ (by omega), if_neg (by omega)]

/-! ### The order -/
def lexL : List UInt8 → List UInt8 → Bool
  | x :: a, y :: b => if x = y then lexL a b else decide (x < y)
  | _, _ => false
theorem lex_irr : ∀ a, lexL a a = false
  | [] => rfl
  | x :: a => by simp [lexL, lex_irr a]
theorem lex_total : ∀ a b : List UInt8, a.length = b.length → a ≠ b → lexL a b = !lexL b a
  | [], [], _, h => absurd rfl h
  | x :: a, y :: b, hl, h => by
    unfold lexL
    by_cases e : x = y
    · subst e
      rw [if_pos rfl, if_pos rfl]
      exact lex_total a b (by simpa using hl) fun g => h (by rw [g])
    · rw [if_neg e, if_neg (fun g => e g.symm)]
      have : x.toNat ≠ y.toNat := fun g => e (UInt8.toNat_inj.1 g)
      simp only [UInt8.lt_iff_toNat_lt]
      rw [Bool.eq_iff_iff]
      simp
      omega
theorem lex_trans : ∀ a b c : List UInt8, lexL a b = true → lexL b c = true → lexL a c = true
  | x :: a, y :: b, z :: c, h1, h2 => by
    unfold lexL at h1 h2 ⊢
    by_cases e : x = y
    · subst e
      rw [if_pos rfl] at h1
      by_cases g : x = z
      · subst g
        rw [if_pos rfl] at h2 ⊢
        exact lex_trans a b c h1 h2
      · rw [if_neg g] at h2 ⊢
        exact h2
    · rw [if_neg e] at h1
      by_cases g : y = z
      · subst g
        rw [if_neg e]
        exact h1
      · rw [if_neg g] at h2
        simp only [decide_eq_true_eq, UInt8.lt_iff_toNat_lt] at h1 h2
        rw [if_neg (fun k => by subst k; omega)]
        simp only [decide_eq_true_eq, UInt8.lt_iff_toNat_lt]
        omega
  | [], _, _, h1, _ => by simp [lexL] at h1
  | _ :: _, [], _, h1, _ => by simp [lexL] at h1
  | _ :: _, _ :: _, [], _, h2 => by simp [lexL] at h2
def chain : Nat → Nat → Nat → Option Bool
  | 0, _, _ => none
  | n + 1, x, y => if x.testBit n = y.testBit n then chain n x y else some (y.testBit n)
theorem mod_succ (x n : Nat) : x % 2 ^ (n + 1) = x % 2 ^ n + 2 ^ n * (x.testBit n).toNat := by
  rw [Nat.mod_pow_succ, Nat.testBit_eq_decide_div_mod_eq]
  congr 2
  rcases Nat.mod_two_eq_zero_or_one (x / 2 ^ n) with g | g <;> simp [g]
theorem chain_eq : ∀ n x y, chain n x y = if x % 2 ^ n = y % 2 ^ n then none else some (decide (x % 2 ^ n < y % 2 ^ n))
  | 0, x, y => by simp [chain, Nat.mod_one]
  | n + 1, x, y => by
    unfold chain
    rw [chain_eq n x y, mod_succ, mod_succ]
    have h1 : x % 2 ^ n < 2 ^ n := Nat.mod_lt _ (Nat.two_pow_pos n)
    have h2 : y % 2 ^ n < 2 ^ n := Nat.mod_lt _ (Nat.two_pow_pos n)
    generalize x % 2 ^ n = a at *
    generalize y % 2 ^ n = b at *
    generalize 2 ^ n = p at *
    cases x.testBit n <;> cases y.testBit n <;> simp
    · omega
    · omega
def lessB (a b : List UInt8) : Nat → Nat → Bool
  | 0, i => false
  | m + 1, i => if bitS a i = bitS b i then lessB a b m (i + 1) else bitS b i
theorem lessB_chain {a b : List UInt8} {k q : Nat} : ∀ j, j ≤ 8 → lessB a b (k + j) (8 * q + (8 - j)) = match chain j (hb a q) (hb b q) with
    | none => lessB a b k (8 * q + 8)
    | some r => r
  | 0, _ => rfl
  | j + 1, hj => by
    have ih := lessB_chain (a := a) (b := b) (k := k) (q := q) j (by omega)
    rw [show k + (j + 1) = k + j + 1 by omega]
    conv => lhs; unfold lessB
    unfold chain
    have e : ∀ c : List UInt8, bitS c (8 * q + (8 - (j + 1))) = (hb c q).testBit j := fun c => by
      unfold bitS
      rw [show (8 * q + (8 - (j + 1))) / 8 = q by omega, show 7 - (8 * q + (8 - (j + 1))) % 8 = j by omega]
    rw [e a, e b]
    split
    · rw [show 8 * q + (8 - (j + 1)) + 1 = 8 * q + (8 - j) by omega]
      exact ih
    · rfl
theorem drop_hb {a : List UInt8} {q : Nat} (h : q < a.length) : ∃ x, a.drop q = x :: a.drop (q + 1) ∧ x.toNat = hb a q := by
  refine ⟨a[q], List.drop_eq_getElem_cons h, ?_⟩
  unfold hb
  rw [List.getD_eq_getElem?_getD, List.getElem?_eq_getElem h]; rfl
theorem lessB_lex {a b : List UInt8} (ha : a.length = 13) (hb' : b.length = 13) : ∀ m q, q + m = 13 → lessB a b (8 * m) (8 * q) = lexL (a.drop q) (b.drop q)
  | 0, q, h => by
    rw [List.drop_eq_nil_of_le (by omega), List.drop_eq_nil_of_le (by omega)]; rfl
  | m + 1, q, h => by
    obtain ⟨x, e1, e2⟩ := drop_hb (a := a) (q := q) (by omega)
    obtain ⟨y, e3, e4⟩ := drop_hb (a := b) (q := q) (by omega)
    have := lessB_chain (a := a) (b := b) (k := 8 * m) (q := q) 8 (Nat.le_refl _)
    rw [show 8 * q + (8 - 8) = 8 * q by omega] at this
    rw [show 8 * (m + 1) = 8 * m + 8 by omega, this, chain_eq, e1, e3]
    unfold lexL
    have l1 := hb_lt a q
    have l2 := hb_lt b q
    rw [Nat.mod_eq_of_lt (show hb a q < 2 ^ 8 from l1), Nat.mod_eq_of_lt (show hb b q < 2 ^ 8 from l2), ← e2, ← e4]
    by_cases e : x = y
    · subst e
      rw [if_pos rfl, if_pos rfl]
      exact lessB_lex ha hb' m (q + 1) (by omega)
    · rw [if_neg (fun g => e (UInt8.toNat_inj.1 g)), if_neg e]
      simp only [UInt8.lt_iff_toNat_lt]
end Go.Proofs.YtllgjjldnnmjkaaDoor
