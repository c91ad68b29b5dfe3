/-
  ParseMany: the walk of the law. No condition.
-/
import Derived.Test.YtimdpeolfhaajaaMany
set_option linter.unusedVariables false
set_option linter.unusedSimpArgs false
namespace Go.Proofs.Ytimdpeolfhaajaa
open Go.RowKit
section
variable {Z : List PanicEntry → PT} {Q : Bool → PT} {w : World}
theorem many_loop {n : Nat} (hn : n ≤ 127) (h : law06_ParseMany.s10 Z Q n (repT n) w) : ∀ (m i : Nat), n = i + m → law06_ParseMany.l20 Z Q (m + 1) n (repT i) i w
  | m, i, hm => by
    unfold law06_ParseMany.l20 law06_ParseMany.s23
    rw [pif_dec]
    split
    · cases m with
      | zero => omega
      | succ m =>
        refine ⟨?_, ?_⟩
        · have := repT_size i
          show (((repT i).size + 10 : Nat) : Int) ≤ 9223372036854775807
          omega
        · rw [wrap_nat1 (by omega)]
          exact many_loop hn h m (i + 1) (by omega)
    · have : i = n := by omega
      subst this
      exact h
end
theorem ParseMany_walk : Walked 5 [3] := by
  intro vs W hl ha
  match vs, hl with
  | [v], _ =>
    obtain ⟨x, rfl, hx⟩ := (ha 0 _ v rfl rfl).int Try.underlying3
    refine (law06_ParseMany.vc0 (Good W) x W ?_).mono fun e w' ⟨r, he, hr, hk⟩ => ⟨by rw [he, hr], hk.below⟩
    unfold law06_ParseMany.F law06_ParseMany.s34
    refine law06_awake.cal (awake_F fun w1 k1 => ?_)
    rw [pif_not, pif_true]
    have hm := and_mask x 127 (by decide) (by decide)
    generalize IntKind.wrap .i64 ((BitVec.ofInt (IntKind.bits .i64) x &&& BitVec.ofInt (IntKind.bits .i64) 127).toNat : Nat) = y at hm
    obtain ⟨n, rfl⟩ : ∃ n : Nat, y = n := ⟨y.toNat, by omega⟩
    have hn : n ≤ 127 := by omega
    show law06_ParseMany.s31 _ _ _ _ w1
    unfold law06_ParseMany.s31
    refine exK_of (n + 1) (many_loop hn ?_ n 0 (by omega))
    unfold law06_ParseMany.s10
    refine parse_call (w := w1) fun s3 w2 r2 k2 => ?_
    obtain ⟨h1, h2⟩ := parse_rep hn
    have hlen := r2.len
    rw [pif_dec]
    split
    · have e := h2 (by omega)
      rw [e] at hlen ⊢
      rw [pif_beq, if_pos rfl, pif_beq, if_pos rfl]
      refine ⟨?_, k1.trans k2⟩
      rw [hlen]; rfl
    · obtain ⟨g1, g2⟩ := h1 (by omega)
      rw [pif_beq, if_pos g2]
      refine ⟨?_, k1.trans k2⟩
      rw [hlen, g1]; simp
end Go.Proofs.Ytimdpeolfhaajaa
