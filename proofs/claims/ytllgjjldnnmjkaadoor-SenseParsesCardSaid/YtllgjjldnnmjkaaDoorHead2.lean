/-
  The headers' functions: fields, the order, whole headers. No condition.
-/
import Derived.Test.YtllgjjldnnmjkaaDoorHead1
set_option linter.unusedVariables false
set_option linter.unusedSimpArgs false
set_option maxRecDepth 100000
namespace Go.Proofs.YtllgjjldnnmjkaaDoor
open Go.RowKit Extern.Stop
def placesL : List (Int × Int) := [(0, 32), (32, 32), (64, 16), (80, 16), (96, 8)]
abbrev gPlaces : Nat := 0
abbrev Places (w : World) : Prop := VarIs gPlaces (pairCells placesL) w
def qF (n : Nat) : Nat := match n with | 0 => 0 | 1 => 4 | 2 => 8 | 3 => 10 | _ => 12
def mF (n : Nat) : Nat := match n with | 0 => 4 | 1 => 4 | 2 => 2 | 3 => 2 | _ => 1
theorem qm_le (n : Nat) : qF n + mF n ≤ 13 := by unfold qF mF; split <;> decide
theorem mF_le (n : Nat) : 1 ≤ mF n ∧ mF n ≤ 4 := by unfold mF; split <;> decide
theorem placesL_at {n : Nat} (h : n < 5) : placesL[n]? = some (((8 * qF n : Nat) : Int), ((8 * mF n : Nat) : Int)) := by
  match n, h with
  | 0, _ => rfl
  | 1, _ => rfl
  | 2, _ => rfl
  | 3, _ => rfl
  | 4, _ => rfl
/-- Which field a number names. -/
def fldI (f : Int) : Option Nat := if 0 ≤ f ∧ f < 5 then some f.toNat else none
theorem fldI_some {f : Int} {n : Nat} (h : fldI f = some n) : f = n ∧ n < 5 := by
  unfold fldI at h
  split at h
  · cases h; omega
  · cases h
theorem fldI_none {f : Int} (h : fldI f = none) : f < 0 ∨ 5 ≤ f := by
  unfold fldI at h
  split at h
  · cases h
  · omega
theorem fldI_nat {n : Nat} (h : n < 5) : fldI (n : Int) = some n := by unfold fldI; rw [if_pos (by omega)]; simp
section
variable {Z : List PanicEntry → PT} {w : World} {h : List UInt8}
theorem placesB {w : World} (hv : Places w) {n : Nat} (hn : n < 5) : w.cell? ⟨gPlaces, n * 2, none⟩ = some (.int .i64 (8 * qF n : Nat)) ∧ w.cell? ⟨gPlaces, n * 2 + 1, none⟩ = some (.int .i64 (8 * mF n : Nat)) := by
  have := pairCells_at (placesL_at hn)
  rw [hv.cell, hv.cell, Nat.mul_comm n 2]
  exact this
theorem place_cal {Q : Int → Int → Int → PT} {f : Int} (hv : Places w) (h1 : fldI f = none → ∀ w', Ext w w' → Q 0 0 1 w') (h2 : ∀ n, fldI f = some n → ∀ w', Ext w w' → Q (8 * qF n : Nat) (8 * mF n : Nat) 0 w') :
    cal Tryd.prog Z 55 [.int .i64 f] (isT3 fun x y z => (isI .i64 fun r0 => (isI .i64 fun r1 => (isI .i64 fun r2 => Q r0 r1 r2) z) y) x) w := by
  refine head_Place.cal ?_
  unfold head_Place.F
  rw [pif_dec]
  split
  · exact h1 (by unfold fldI; rw [if_neg (by omega)]) w Keep.refl
  · rw [pif_dec]
    split
    · exact h1 (by unfold fldI; rw [if_neg (by omega)]) w Keep.refl
    · have hv' : Places w.drew := hv.ext Keep.refl.drew
      have kd : Ext w w.drew := Keep.refl.drew
      show cnd _ _ w.drew
      generalize w.drew = w1 at hv' kd ⊢
      obtain ⟨n, rfl⟩ : ∃ n : Nat, f = n := ⟨f.toNat, by omega⟩
      have hn : n < 5 := by omega
      obtain ⟨c1, c2⟩ := placesB hv' hn
      refine cnd_of ⟨by omega, by omega⟩ ?_
      simp only [add_mk, Nat.zero_add, Int.toNat_natCast, Nat.add_zero]
      refine ldI_of c1 (cnd_of ⟨by omega, by omega⟩ (ldI_of c2 ?_))
      exact h2 n (fldI_nat hn) w1 kd
theorem first_cal {K : Int → PT} {f : Int} (h1 : fldI f = none → K (-1) w) (h2 : ∀ n, fldI f = some n → K (8 * qF n : Nat) w) : cal Tryd.prog Z 78 [.int .i64 f] (isI .i64 fun v => K v) w := by
  refine ref01_First.cal ?_
  unfold ref01_First.F
  have h2' : ∀ (n : Nat), n < 5 → f = n → K (8 * qF n : Nat) w := fun n hn e => h2 n (by rw [e]; exact fldI_nat hn)
  rw [pif_beq]; split
  · rename_i e; exact h2' 0 (by decide) e
  rw [pif_beq]; split
  · rename_i e; exact h2' 1 (by decide) e
  rw [pif_beq]; split
  · rename_i e; exact h2' 2 (by decide) e
  rw [pif_beq]; split
  · rename_i e; exact h2' 3 (by decide) e
  rw [pif_beq]; split
  · rename_i e; exact h2' 4 (by decide) e
  · exact h1 (by unfold fldI; rw [if_neg (by omega)])
theorem width_cal {K : Int → PT} {n : Nat} (hn : n < 5) (h2 : K (8 * mF n : Nat) w) : cal Tryd.prog Z 79 [.int .i64 (n : Int)] (isI .i64 fun v => K v) w := by
  refine ref01_Width.cal ?_
  unfold ref01_Width.F
  match n, hn, h2 with
  | 0, _, h2 => exact h2
  | 1, _, h2 => exact h2
  | 2, _, h2 => exact h2
  | 3, _, h2 => exact h2
  | 4, _, h2 => exact h2

/-! ### The order -/
theorem sub13 (hl : h.length = 13) : Go.Proofs.YtllgjjldnnmjkaaDoor.sub (encH h) 0 13 = encH h := by
  unfold Go.Proofs.YtllgjjldnnmjkaaDoor.sub
  rw [List.drop_zero, List.take_of_length_le (by rw [encH_len]; omega)]
theorem len13 (hl : h.length = 13) : (encH h).length = 13 := by rw [encH_len, hl]
theorem lexL_cons {x y : UInt8} {a b : List UInt8} : lexL (x :: a) (y :: b) = if x = y then lexL a b else decide (x < y) := rfl
/-! ### Fields -/
end
end Go.Proofs.YtllgjjldnnmjkaaDoor
