/-
  ParseTokens: the walk. 'arrows' counts the tokens of kind 6, a line's count must not pass one.
-/
import Derived.Test.YtimdpeolfhaajaaLaw1
set_option linter.unusedVariables false
set_option linter.unusedSimpArgs false
namespace Go.Proofs.Ytimdpeolfhaajaa
open Go.RowKit
/-- What the law's loop comes to: none if a line has two arrows. -/
def arrowsS : List Tk → Nat → Nat → Option Nat
  | [], n, row => some n
  | t :: l, n, row => if t.kind = 6 then (if row + 1 > 1 then none else arrowsS l (n + 1) (row + 1)) else if t.kind = 7 then arrowsS l n 0 else if row > 1 then none else arrowsS l n row
section
variable {Z : List PanicEntry → PT} {Q : Bool → PT} {w : World}
theorem tok_loop {a t : Option Addr} {n c tc : Nat} {f : Int} {l : List Tk} (hl : Lst w 33 4 Tk.enc t l.length tc l) (hs : l.length ≤ 10000) :
    ∀ (m i k row : Nat), l.length ≤ i + m → k ≤ i → row ≤ 1 → (match arrowsS (l.drop i) k row with | none => Q false w | some k' => law06_ParseTokens.s13 Z Q a n c f k' w) → law06_ParseTokens.l23 Z Q (m + 1) a n c t l.length tc f k row i w
  | m, i, k, row, hm, hk, hrow, h => by
    unfold law06_ParseTokens.l23 law06_ParseTokens.s49
    rw [pif_dec]
    split
    · rename_i hi
      have hi : i < l.length := by omega
      cases m with
      | zero => omega
      | succ m =>
        have hx := List.getElem?_eq_getElem hi
        rw [List.drop_eq_getElem_cons hi] at h
        unfold arrowsS at h
        unfold law06_ParseTokens.s45
        refine ixS_Lst Tk.enc_len hl hx fun b hb hc => ?_
        refine ldI_of (by rw [add_mk]; exact hc 0 _ rfl) ?_
        have step : ∀ (k' row' : Nat), k' ≤ i + 1 → row' ≤ 1 → (match arrowsS (l.drop (i + 1)) k' row' with | none => Q false w | some k' => law06_ParseTokens.s13 Z Q a n c f k' w) → law06_ParseTokens.s32 Z Q (law06_ParseTokens.l23 Z Q (m + 1)) a n c t l.length tc f k' row' i w := fun k' row' h1 h2 h3 => by
          unfold law06_ParseTokens.s32
          rw [wrap_nat1 (by omega)]
          exact tok_loop hl hs m (i + 1) k' row' (by omega) h1 h2 h3
        rw [pif_beq]
        split
        · rename_i h6
          rw [if_pos h6] at h
          rw [wrap_nat1 (by omega), wrap_nat1 (by omega)]
          unfold law06_ParseTokens.s41
          refine ixS_Lst Tk.enc_len hl hx fun b hb hc => ?_
          refine ldI_of (by rw [add_mk]; exact hc 0 _ rfl) ?_
          rw [pif_beq, if_neg (by simp only [h6]; decide), pif_dec]
          split
          · rename_i hr
            rw [if_pos (by omega)] at h
            exact h
          · rename_i hr
            rw [if_neg (by omega)] at h
            exact step (k + 1) (row + 1) (by omega) (by omega) h
        · rename_i h6
          rw [if_neg h6] at h
          unfold law06_ParseTokens.s41
          refine ixS_Lst Tk.enc_len hl hx fun b hb hc => ?_
          refine ldI_of (by rw [add_mk]; exact hc 0 _ rfl) ?_
          rw [pif_beq]
          split
          · rename_i h7
            rw [if_pos h7] at h
            rw [pif_dec, if_neg (by decide)]
            exact step k 0 (by omega) (by omega) h
          · rename_i h7
            rw [if_neg h7, if_neg (by omega)] at h
            rw [pif_dec, if_neg (by omega)]
            exact step k row (by omega) hrow h
    · rename_i hi
      rw [List.drop_eq_nil_of_le (by omega)] at h
      exact h
end
end Go.Proofs.Ytimdpeolfhaajaa
