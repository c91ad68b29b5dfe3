/-
  ParseTokens: the walk of the law. No condition.
-/
import Derived.Test.YtimdpeolfhaajaaLaw3
set_option linter.unusedVariables false
set_option linter.unusedSimpArgs false
namespace Go.Proofs.Ytimdpeolfhaajaa
open Go.RowKit
theorem lexS_len (s : ByteArray) : (lexS s).1.length ≤ 4096 := by
  unfold lexS
  split
  · simp
  · have := lexAll_len s s.size 0 []
    simp at this
    omega
theorem ParseTokens_walk : Walked 4 [9] := by
  intro vs W hl ha
  match vs, hl with
  | [v], _ =>
    obtain ⟨s, rfl, hs⟩ := (ha 0 _ v rfl rfl).str Try.underlying9
    refine (law06_ParseTokens.vc0 (Good W) s W ?_).mono fun e w' ⟨r, he, hr, hk⟩ => ⟨by rw [he, hr], hk.below⟩
    unfold law06_ParseTokens.F law06_ParseTokens.s58
    refine law06_awake.cal (awake_F fun w1 k1 => ?_)
    refine parse_call (w := w1) fun s3 w2 r2 k2 => ?_
    rw [pif_bne]
    split
    · rename_i h0
      obtain ⟨g1, g2, g3⟩ := parseS_arrow h0
      refine lex_Tokens.cal (tokens_F fun a c w3 l3 k3 hb => ?_)
      unfold law06_ParseTokens.s55
      have hlen := lexS_len s
      refine exK_of ((lexS s).1.length + 1) (tok_loop l3 (by omega) _ 0 0 0 (by omega) (by omega) (by omega) ?_)
      rw [List.drop_zero, g2]
      show law06_ParseTokens.s13 _ _ _ _ _ _ _ w3
      unfold law06_ParseTokens.s13
      rw [pif_beq, if_pos g1, pif_beq, if_pos (by rw [r2.len])]
      exact ⟨by simp; omega, (k1.trans k2).trans k3⟩
    · exact ⟨rfl, k1.trans k2⟩
end Go.Proofs.Ytimdpeolfhaajaa
