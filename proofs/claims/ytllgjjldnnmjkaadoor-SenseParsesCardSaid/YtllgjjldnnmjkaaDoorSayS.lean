/-
  What a list of entries says of a header: plain functions and their laws. No condition.
-/
import Derived.Test.YtllgjjldnnmjkaaDoorSenseS
import Derived.Test.YtllgjjldnnmjkaaDoorHead3
set_option linter.unusedVariables false
set_option linter.unusedSimpArgs false
set_option maxRecDepth 100000
namespace Go.Proofs.YtllgjjldnnmjkaaDoor
open Go.RowKit

/-! ### Bits alike -/
def clI (n : Int) : Nat := (if (if 32 < n then 32 else n) > 0 then (if 32 < n then 32 else n) else 0).toNat
theorem clI_le (n : Int) : clI n ≤ 32 := by unfold clI; split <;> split <;> omega
def begN (a b m : Nat) : Bool := (a ^^^ b) / 2 ^ (32 - m) == 0
theorem begN_0 {a b : Nat} (ha : a < 4294967296) (hb : b < 4294967296) : begN a b 0 = true := by
  unfold begN
  have : a ^^^ b < 2 ^ 32 := Nat.xor_lt_two_pow (n := 32) ha hb
  rw [Nat.div_eq_of_lt this]; rfl
theorem bit_ne (a b j : Nat) : ((a ^^^ b) / 2 ^ j % 2 = 0) ↔ (a / 2 ^ j % 2 = b / 2 ^ j % 2) := by
  have h := Nat.testBit_xor a b j
  rw [Nat.testBit_eq_decide_div_mod_eq, Nat.testBit_eq_decide_div_mod_eq, Nat.testBit_eq_decide_div_mod_eq] at h
  have h1 : (a ^^^ b) / 2 ^ j % 2 < 2 := Nat.mod_lt _ (by decide)
  have h2 : a / 2 ^ j % 2 < 2 := Nat.mod_lt _ (by decide)
  have h3 : b / 2 ^ j % 2 < 2 := Nat.mod_lt _ (by decide)
  generalize (a ^^^ b) / 2 ^ j % 2 = x at *
  generalize a / 2 ^ j % 2 = y at *
  generalize b / 2 ^ j % 2 = z at *
  have : x = 0 ∨ x = 1 := by omega
  have : y = 0 ∨ y = 1 := by omega
  have : z = 0 ∨ z = 1 := by omega
  rcases ‹x = 0 ∨ x = 1› with rfl | rfl <;> rcases ‹y = 0 ∨ y = 1› with rfl | rfl <;> rcases ‹z = 0 ∨ z = 1› with rfl | rfl <;> simp_all
theorem begN_step {a b k : Nat} (hk : k < 32) : begN a b (k + 1) = (begN a b k && decide (a / 2 ^ (31 - k) % 2 = b / 2 ^ (31 - k) % 2)) := by
  unfold begN
  rw [show 32 - (k + 1) = 31 - k by omega, show 32 - k = (31 - k) + 1 by omega, Nat.pow_succ, ← Nat.div_div_eq_div_mul]
  have h := bit_ne a b (31 - k)
  generalize (a ^^^ b) / 2 ^ (31 - k) = x at h ⊢
  rw [Bool.eq_iff_iff, Bool.and_eq_true, beq_iff_eq, beq_iff_eq, decide_eq_true_eq, ← h]
  omega
theorem begN_mono {a b : Nat} : ∀ (d k : Nat), k + d ≤ 32 → begN a b (k + d) = true → begN a b k = true
  | 0, k, _, h => h
  | d + 1, k, hd, h => by
    rw [← Nat.add_assoc, begN_step (by omega), Bool.and_eq_true] at h
    exact begN_mono d k (by omega) h.1

/-! ### Entries and headers -/
def hf (h : List UInt8) (f : Nat) : Nat := (fieldI h (f : Int)).1
theorem hf_lt (h : List UInt8) {f : Nat} (hf' : f < 5) : hf h f < 4294967296 := by
  unfold hf fieldI
  rw [fldI_nat hf']
  simp only
  refine Nat.lt_of_lt_of_le (field_lt h _ _) ?_
  have := (mF_le f).2
  exact Nat.pow_le_pow_right (by decide) (show 8 * mF f ≤ 32 by omega)
structure En.Ok (x : En) : Prop where
  s0 : 0 ≤ x.src
  s1 : x.src < 4294967296
  d0 : 0 ≤ x.dst
  d1 : x.dst < 4294967296
def snApp (x : En) (h : List UInt8) : Bool :=
  if x.default = true then true
  else if begN (hf h 0) x.src.toNat (clI x.srcBits) = false then false
  else if begN (hf h 1) x.dst.toNat (clI x.dstBits) = false then false
  else if ¬ (hf h 2 : Int) ≥ x.sLow then false
  else if ¬ (hf h 2 : Int) ≤ x.sHigh then false
  else if ¬ (hf h 3 : Int) ≥ x.dLow then false
  else if ¬ (hf h 3 : Int) ≤ x.dHigh then false
  else if x.proto = -1 then true
  else x.proto == (hf h 4 : Int)
theorem snApp_default {x : En} {h : List UInt8} (hd : x.default = true) : snApp x h = true := by unfold snApp; rw [if_pos hd]
section
variable (l : List En) (h : List UInt8)
def enAt (b : Int) : En := (l[b.toNat]?).getD en0
/-- The program's way: one round. -/
def whS : List En → Nat → Int → Int
  | [], _, b => b
  | x :: r, i, b =>
    if snApp x h = false then whS r (i + 1) b
    else if b < 0 then whS r (i + 1) i
    else if (enAt l b).default = true ∧ x.default = false then whS r (i + 1) i
    else if x.default = false ∧ x.prio > (enAt l b).prio then whS r (i + 1) i
    else whS r (i + 1) b
def snWhich : Int := whS l h l 0 (-1)
/-- The document's way: the best one that is no default one; else the first default one. -/
def bestS : List En → Nat → Int → Int
  | [], _, b => b
  | x :: r, i, b =>
    if x.default = false ∧ snApp x h = true ∧ (b < 0 ∨ x.prio > (enAt l b).prio) then bestS r (i + 1) i
    else bestS r (i + 1) b
def dflS : List En → Nat → Int → Int
  | [], _, b => b
  | x :: r, i, b => if b < 0 then (if x.default = true then dflS r (i + 1) i else dflS r (i + 1) b) else b
def rfWhich : Int := dflS l 0 (bestS l h l 0 (-1))
def snSays : Int × Bool := if snWhich l h < 0 then (0, false) else ((enAt l (snWhich l h)).action, true)
end
section
variable {l : List En} {h : List UInt8}
theorem enAt_nat {i : Nat} {x : En} (hx : l[i]? = some x) : enAt l (i : Int) = x := by
  unfold enAt
  rw [Int.toNat_natCast, hx]; rfl
theorem drop_at {l r : List En} {x : En} {i : Nat} (h : l.drop i = x :: r) : l[i]? = some x ∧ l.drop (i + 1) = r := by
  constructor
  · have := congrArg (·[0]?) h
    simpa using this
  · rw [← List.drop_drop, h]; rfl
theorem whS_lt : ∀ (r : List En) (i : Nat) (b : Int), l.drop i = r → b < i → b < l.length → whS l h r i b < l.length
  | [], _, b, _, _, hb => hb
  | x :: r, i, b, hl, hbi, hb => by
    obtain ⟨hx, hl'⟩ := drop_at hl
    have hi := (List.getElem?_eq_some_iff.1 hx).1
    unfold whS
    split
    · exact whS_lt r (i + 1) b hl' (by omega) hb
    split
    · exact whS_lt r (i + 1) i hl' (by omega) (by omega)
    split
    · exact whS_lt r (i + 1) i hl' (by omega) (by omega)
    split
    · exact whS_lt r (i + 1) i hl' (by omega) (by omega)
    · exact whS_lt r (i + 1) b hl' (by omega) hb
theorem snWhich_lt : snWhich l h < l.length := whS_lt l 0 (-1) rfl (by omega) (by omega)
theorem dflS_pos : ∀ (r : List En) (i : Nat) (b : Int), 0 ≤ b → dflS r i b = b
  | [], _, _, _ => rfl
  | x :: r, i, b, hb => by unfold dflS; rw [if_neg (by omega)]
theorem bestS_pos : ∀ (r : List En) (i : Nat) (b : Int), 0 ≤ b → 0 ≤ bestS l h r i b
  | [], _, _, hb => hb
  | x :: r, i, b, hb => by unfold bestS; split <;> exact bestS_pos r (i + 1) _ (by omega)
/-- b: the best one so far that is no default one; d: the first default one so far. -/
theorem which_eq : ∀ (r : List En) (i : Nat) (b d : Int), l.drop i = r → (b < 0 ∨ (enAt l b).default = false) → (d < 0 ∨ (enAt l d).default = true) → b < i → d < i →
    whS l h r i (if b < 0 then d else b) = (if bestS l h r i b < 0 then dflS r i d else bestS l h r i b)
  | [], i, b, d, _, _, _, _, _ => by
    unfold whS bestS dflS; rfl
  | x :: r, i, b, d, hl, hb, hd, hbi, hdi => by
    obtain ⟨hx, hl'⟩ := drop_at hl
    have ei := enAt_nat hx
    have ih := fun b d h1 h2 h3 h4 => which_eq r (i + 1) b d hl' h1 h2 h3 h4
    unfold whS bestS dflS
    by_cases xd : x.default = true
    · -- a default one
      rw [snApp_default xd]
      have xd' : ¬ x.default = false := by simp [xd]
      simp only [xd, Bool.true_eq_false, if_false, and_false, false_and, if_true, gt_iff_lt]
      by_cases h1 : b < 0
      · rw [if_pos h1]
        by_cases h2 : d < 0
        · rw [if_pos h2]
          have := ih b i (.inl h1) (.inr (by rw [ei]; exact xd)) (by omega) (by omega)
          rw [if_pos h1] at this
          rw [this, if_pos h2]
        · rw [if_neg h2]
          have := ih b d (.inl h1) hd (by omega) (by omega)
          rw [if_pos h1] at this
          rw [this, if_neg h2, dflS_pos _ _ _ (by omega)]
      · rw [if_neg h1, if_neg h1]
        have := ih b d hb hd (by omega) (by omega)
        rw [if_neg h1] at this
        have hp := bestS_pos (l := l) (h := h) r (i + 1) b (by omega)
        rw [this, if_neg (by omega), if_neg (by omega)]
    · have xd : x.default = false := by simpa using xd
      simp only [xd, Bool.false_eq_true, if_false, true_and, and_true]
      by_cases ha : snApp x h = false
      · simp only [ha, if_true, Bool.false_eq_true, false_and, if_false]
        have := ih b d hb hd (by omega) (by omega)
        rw [this]
        by_cases h2 : d < 0
        · rw [if_pos h2]
        · rw [if_neg h2, dflS_pos _ _ _ (by omega)]
      · have ha' : snApp x h = true := by simpa using ha
        rw [if_neg ha]
        simp only [ha', true_and]
        by_cases h1 : b < 0
        · simp only [if_pos h1, h1, true_or, if_true]
          have := ih i d (.inr (by rw [ei]; exact xd)) hd (by omega) (by omega)
          rw [if_neg (by omega)] at this
          have hp := bestS_pos (l := l) (h := h) r (i + 1) i (by omega)
          rw [if_neg (by omega)] at this
          rw [if_neg (show ¬ bestS l h r (i + 1) i < 0 by omega)]
          by_cases h2 : d < 0
          · rw [if_pos h2, this]
          · rw [if_neg h2, if_pos (hd.resolve_left h2), this]
        · have hbd := hb.resolve_left h1
          simp only [h1, hbd, false_or, if_false, Bool.false_eq_true]
          by_cases h3 : x.prio > (enAt l b).prio
          · rw [if_pos h3, if_pos h3]
            have := ih i d (.inr (by rw [ei]; exact xd)) hd (by omega) (by omega)
            rw [if_neg (by omega)] at this
            have hp := bestS_pos (l := l) (h := h) r (i + 1) i (by omega)
            rw [this, if_neg (by omega), if_neg (by omega)]
          · rw [if_neg h3, if_neg h3]
            have := ih b d hb hd (by omega) (by omega)
            rw [if_neg h1] at this
            have hp := bestS_pos (l := l) (h := h) r (i + 1) b (by omega)
            rw [this, if_neg (by omega), if_neg (by omega)]
theorem snWhich_eq : snWhich l h = rfWhich l h := by
  have := which_eq (l := l) (h := h) l 0 (-1) (-1) rfl (.inl (by omega)) (.inl (by omega)) (by omega) (by omega)
  simp only [show (-1 : Int) < 0 by omega, if_true] at this
  unfold snWhich rfWhich
  rw [this]
  split
  · rename_i h1
    have hb : ∀ (r : List En) (i : Nat), bestS l h r i (-1) = -1 ∨ 0 ≤ bestS l h r i (-1) := fun r => by
      induction r with
      | nil => intro i; exact .inl rfl
      | cons x r ih =>
        intro i
        unfold bestS
        split
        · exact .inr (bestS_pos r _ _ (by omega))
        · exact ih (i + 1)
    rcases hb l 0 with e | e
    · rw [e]
    · omega
  · rw [dflS_pos _ _ _ (by omega)]
end
end Go.Proofs.YtllgjjldnnmjkaaDoor
