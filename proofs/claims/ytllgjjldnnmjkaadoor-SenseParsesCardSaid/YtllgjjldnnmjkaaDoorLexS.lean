/-
  What a text's tokens are, as plain functions on the text: one step at a place, all steps. And the laws on numbers that the two readers lean on. No condition.
-/
import Derived.Test.YtllgjjldnnmjkaaDoorWlFlat
set_option linter.unusedVariables false
set_option maxRecDepth 100000
namespace Go.Proofs.YtllgjjldnnmjkaaDoor
open Go.RowKit

structure Tk where
  kind : Int
  pos : Int
  text : ByteArray
  n : Int
def Tk.enc (t : Tk) : List Value := [.int .i64 t.kind, .int .i64 t.pos, .string t.text, .int .i64 t.n]
theorem Tk.enc_len (t : Tk) : t.enc.length = 4 := rfl
theorem Tk.enc_one (t : Tk) : ∀ v ∈ t.enc, v.oneCell' = true := by simp [Tk.enc, Value.oneCell']

def noText : ByteArray := ⟨#[]⟩
def kindOf (c : Int) : Int :=
  if c = 9 then 0 else if c = 13 then 0 else if c = 32 then 0 else if c ≥ 97 ∧ c ≤ 122 then 1 else if c ≥ 48 ∧ c ≤ 57 then 2 else
  if c = 46 then 3 else if c = 47 then 4 else if c = 45 then 5 else if c = 10 then 7 else if c = 35 then 9 else -1
/-- The end of a run of bytes. -/
def runEnd (p : Int → Bool) (s : ByteArray) : Nat → Nat → Nat
  | 0, i => i
  | f + 1, i => if i < s.size ∧ p (by_ s i) = true then runEnd p s f (i + 1) else i
def wordB (c : Int) : Bool := decide (c ≥ 97) && decide (c ≤ 122)
def digitB (c : Int) : Bool := decide (c ≥ 48) && decide (c ≤ 57)
def markB (c : Int) : Bool := c != 10
/-- The first digits' number. -/
def valU (d : ByteArray) : Nat → Nat
  | 0 => 0
  | j + 1 => valU d j * 10 + ((by_ d j).toNat - 48)
def numV (d : ByteArray) : Int := if d.size > 1 ∧ by_ d 0 = 48 then -1 else if valU d d.size > 4294967295 then -1 else (valU d d.size : Int)
/-- One step: a token, or none; where it ends; what is wrong. -/
def lexStep (s : ByteArray) (i : Nat) : Option Tk × Nat × Int :=
  let k := kindOf (by_ s i)
  if k = 0 then (none, i + 1, 0)
  else if k = 9 then (none, runEnd markB s (s.size - (i + 1)) (i + 1), 0)
  else if k = 1 then (some ⟨1, i, s.extract i (runEnd wordB s (s.size - (i + 1)) (i + 1)), 0⟩, runEnd wordB s (s.size - (i + 1)) (i + 1), 0)
  else if k = 2 then
    if numV (s.extract i (runEnd digitB s (s.size - (i + 1)) (i + 1))) < 0 then (none, i, 7)
    else (some ⟨2, i, noText, numV (s.extract i (runEnd digitB s (s.size - (i + 1)) (i + 1)))⟩, runEnd digitB s (s.size - (i + 1)) (i + 1), 0)
  else if k = 5 then if i + 1 < s.size ∧ by_ s (i + 1) = 62 then (some ⟨6, i, noText, 0⟩, i + 2, 0) else (some ⟨5, i, noText, 0⟩, i + 1, 0)
  else if k < 0 then (none, i, 6)
  else (some ⟨k, i, noText, 0⟩, i + 1, 0)
def push (l : List Tk) : Option Tk → List Tk
  | none => l
  | some t => l ++ [t]
def lexAll (s : ByteArray) : Nat → Nat → List Tk → List Tk × Int × Int
  | 0, i, l => (l, 0, 0)
  | f + 1, i, l => if i < s.size then (if (lexStep s i).2.2 ≠ 0 then ([], (lexStep s i).2.2, i) else lexAll s f (lexStep s i).2.1 (push l (lexStep s i).1)) else (l, 0, 0)
def lexS (s : ByteArray) : List Tk × Int × Int := if s.size > 4096 then ([], 5, 4096) else lexAll s s.size 0 []

/-! ### Runs -/
section
variable {p : Int → Bool} {s : ByteArray}
theorem runEnd_ge : ∀ (f i : Nat), i ≤ runEnd p s f i
  | 0, i => Nat.le_refl _
  | f + 1, i => by
    unfold runEnd
    split
    · have := runEnd_ge f (i + 1); omega
    · exact Nat.le_refl _
theorem runEnd_le : ∀ (f i : Nat), i ≤ s.size → runEnd p s f i ≤ s.size
  | 0, i, h => h
  | f + 1, i, h => by
    unfold runEnd
    split
    · exact runEnd_le f (i + 1) (by omega)
    · exact h
theorem runEnd_in : ∀ (f i j : Nat), i ≤ j → j < runEnd p s f i → p (by_ s j) = true
  | 0, i, j, h1, h2 => by unfold runEnd at h2; omega
  | f + 1, i, j, h1, h2 => by
    unfold runEnd at h2
    split at h2
    · rename_i h
      rcases Nat.eq_or_lt_of_le h1 with rfl | h1
      · exact h.2
      · exact runEnd_in f (i + 1) j h1 h2
    · omega
/-- More fuel than bytes is left tells nothing more. -/
theorem runEnd_fuel : ∀ (f g i : Nat), s.size - i ≤ f → s.size - i ≤ g → runEnd p s f i = runEnd p s g i
  | 0, 0, i, _, _ => rfl
  | 0, g + 1, i, h, _ => by
    unfold runEnd
    rw [if_neg (by omega)]
  | f + 1, 0, i, _, h => by
    unfold runEnd
    rw [if_neg (by omega)]
  | f + 1, g + 1, i, h1, h2 => by
    unfold runEnd
    split
    · exact runEnd_fuel f g (i + 1) (by omega) (by omega)
    · rfl
theorem runEnd_first {i : Nat} (h : i < s.size) (hp : p (by_ s i) = true) : runEnd p s (s.size - i) i = runEnd p s (s.size - (i + 1)) (i + 1) := by
  rw [show s.size - i = (s.size - (i + 1)) + 1 by omega]
  conv => lhs; unfold runEnd
  rw [if_pos ⟨h, hp⟩]
end

/-! ### Numbers -/
section
variable {d : ByteArray}
theorem valU_lt (hd : ∀ i, i < d.size → 48 ≤ by_ d i ∧ by_ d i ≤ 57) : ∀ j, j ≤ d.size → valU d j + 1 ≤ 10 ^ j
  | 0, _ => by simp [valU]
  | j + 1, h => by
    have := valU_lt hd j (by omega)
    have := hd j (by omega)
    simp only [valU, Nat.pow_succ]
    omega
theorem valU_mono : ∀ {i j : Nat}, i ≤ j → valU d i ≤ valU d j := by
  intro i j h
  induction h with
  | refl => exact Nat.le_refl _
  | step _ ih => simp only [valU]; omega
theorem valU_big (hd : ∀ i, i < d.size → 48 ≤ by_ d i ∧ by_ d i ≤ 57) (h : d.size > 10) (h0 : by_ d 0 ≠ 48) : valU d d.size > 4294967295 := by
  have h1 : 1 ≤ valU d 1 := by
    have := hd 0 (by omega)
    simp only [valU]
    omega
  have step : ∀ j, valU d (j + 1) ≥ valU d j * 10 := fun j => by simp only [valU]; omega
  have h2 : valU d 2 ≥ valU d 1 * 10 := step 1
  have h3 : valU d 3 ≥ valU d 2 * 10 := step 2
  have h4 : valU d 4 ≥ valU d 3 * 10 := step 3
  have h5 : valU d 5 ≥ valU d 4 * 10 := step 4
  have h6 : valU d 6 ≥ valU d 5 * 10 := step 5
  have h7 : valU d 7 ≥ valU d 6 * 10 := step 6
  have h8 : valU d 8 ≥ valU d 7 * 10 := step 7
  have h9 : valU d 9 ≥ valU d 8 * 10 := step 8
  have h10 : valU d 10 ≥ valU d 9 * 10 := step 9
  have h11 : valU d 11 ≥ valU d 10 * 10 := step 10
  have := valU_mono (d := d) (i := 11) (j := d.size) (by omega)
  omega
theorem by_extract {s : ByteArray} {a b i : Nat} (hb : b ≤ s.size) (h : i < b - a) : by_ (s.extract a b) i = by_ s (a + i) := by
  unfold by_
  have h1 : (s.extract a b).size = b - a := by rw [ByteArray.size_extract]; omega
  have e1 : (s.extract a b)[i]? = some ((s.extract a b)[i]'(by omega)) := getElem?_pos _ i (by omega)
  have e2 : s[a + i]? = some (s[a + i]'(by omega)) := getElem?_pos _ _ (by omega)
  rw [e1, e2, ByteArray.getElem_extract]
end
theorem kindOf_word {c : Int} : kindOf c = 1 ↔ wordB c = true := by
  unfold kindOf wordB
  simp only [Bool.and_eq_true, decide_eq_true_eq]
  grind (splits := 30)
theorem kindOf_digit {c : Int} : kindOf c = 2 ↔ digitB c = true := by
  unfold kindOf digitB
  simp only [Bool.and_eq_true, decide_eq_true_eq]
  grind (splits := 30)

/-- A step that goes on goes ahead. -/
theorem lexStep_next {s : ByteArray} {i : Nat} (h : i < s.size) (he : (lexStep s i).2.2 = 0) : i < (lexStep s i).2.1 ∧ (lexStep s i).2.1 ≤ s.size := by
  have g1 := fun p => runEnd_ge (p := p) (s := s) (s.size - (i + 1)) (i + 1)
  have g2 := fun p => runEnd_le (p := p) (s := s) (s.size - (i + 1)) (i + 1) (by omega)
  have m1 := g1 markB; have m2 := g2 markB; have w1 := g1 wordB; have w2 := g2 wordB; have d1 := g1 digitB; have d2 := g2 digitB
  unfold lexStep at he ⊢
  simp only at he ⊢
  grind (splits := 30)
end Go.Proofs.YtllgjjldnnmjkaaDoor
