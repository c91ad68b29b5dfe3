/-
  ParseReads: the walk of the law. No condition.
-/
import Derived.Test.YtimdpeolfhaajaaSame
import Derived.Test.YtimdpeolfhaajaaLaw1
set_option linter.unusedVariables false
set_option linter.unusedSimpArgs false
namespace Go.Proofs.Ytimdpeolfhaajaa
open Go.RowKit
/-! ### The place of a fault lies within the text -/
theorem lexAll_in {s : ByteArray} : ∀ (m i : Nat) (out : List Tk), (∀ t ∈ out, 0 ≤ t.pos ∧ t.pos ≤ s.size) → i ≤ s.size → (∀ t ∈ (lexAll s m i out).1, 0 ≤ t.pos ∧ t.pos ≤ s.size) ∧ (lexAll s m i out).2.2 ≤ s.size ∧ ((lexAll s m i out).2.1 ≠ 0 → (lexAll s m i out).1 = [])
  | 0, i, out, h, hi => by unfold lexAll; exact ⟨h, by simp, by simp⟩
  | m + 1, i, out, h, hi => by
    unfold lexAll
    split
    · rename_i hlt
      split
      · refine ⟨by simp, by simp only; omega, by simp⟩
      · rename_i he
        have hn := lexStep_next hlt (by simpa using he)
        refine lexAll_in m _ _ (fun t ht => ?_) hn.2
        cases hs : (lexStep s i).1 with
        | none => rw [hs] at ht; exact h t ht
        | some t' =>
          rw [hs] at ht
          rcases List.mem_append.1 ht with g | g
          · exact h t g
          · rw [List.mem_singleton.1 g]
            have : t'.pos = i := by
              unfold lexStep at hs
              simp only at hs
              grind
            omega
    · exact ⟨h, by simp, by simp⟩
theorem lexS_in (s : ByteArray) : (∀ t ∈ (lexS s).1, 0 ≤ t.pos ∧ t.pos ≤ s.size) ∧ (lexS s).2.2 ≤ s.size ∧ ((lexS s).2.1 ≠ 0 → (lexS s).1 = []) := by
  unfold lexS
  split
  · refine ⟨by simp, by simp only; omega, by simp⟩
  · exact lexAll_in _ _ _ (by simp) (by omega)
section
variable {l : List Tk} {en : Int} (hp : ∀ t ∈ l, 0 ≤ t.pos ∧ t.pos ≤ en)
include hp
theorem peek_in (i : Nat) : (peekS l en i).pos ≤ en := by
  unfold peekS
  split
  · rename_i hi
    rw [List.getElem?_eq_getElem hi]
    exact (hp _ (List.getElem_mem hi)).2
  · exact Int.le_refl _
theorem want_in {k : Int} {i : Nat} {e p : Int} (h : wantS l en k i = .no e p) : p ≤ en := by
  have := peek_in hp i
  unfold wantS at h
  grind
theorem fig_in {i : Nat} {e p : Int} (h : figS l en i = .no e p) : p ≤ en := by
  have := fun e p => want_in hp (k := 2) (i := i) (e := e) (p := p)
  unfold figS at h
  grind
theorem more_in {k : Int} {i : Nat} {ns : List Fg} {e p : Int} (h : moreS l en k i ns = .no e p) : p ≤ en := by
  have := fun i e p => fig_in hp (i := i) (e := e) (p := p)
  unfold moreS at h
  grind
theorem dots_in : ∀ {m i : Nat} {ns : List Fg} {e p : Int}, dotsS l en m i ns = .no e p → p ≤ en
  | 0, i, ns, e, p, h => by unfold dotsS at h; cases h
  | m + 1, i, ns, e, p, h => by
    unfold dotsS at h
    have h1 := fun i e p => fig_in hp (i := i) (e := e) (p := p)
    have h2 := fun k i e p => want_in hp (k := k) (i := i) (e := e) (p := p)
    have h3 := fun i ns e p => @dots_in m i ns e p
    grind
theorem clause_in {had : List ByteArray} {i : Nat} {e p : Int} (h : clauseS l en had i = .no e p) : p ≤ en := by
  have := peek_in hp i
  unfold clauseS at h
  simp only at h
  repeat' split at h
  all_goals cases h
  all_goals first
    | assumption
    | exact fig_in hp ‹_›
    | exact dots_in hp ‹_›
    | exact more_in hp ‹_›
theorem clauses_in : ∀ {m i : Nat} {cs : List Cl} {e p : Int}, clausesS l en m i cs = .no e p → p ≤ en
  | 0, i, cs, e, p, h => by unfold clausesS at h; cases h
  | m + 1, i, cs, e, p, h => by
    unfold clausesS at h
    have h1 := fun had i e p => clause_in hp (had := had) (i := i) (e := e) (p := p)
    have h3 := fun i cs e p => @clauses_in m i cs e p
    grind
theorem tail_in {x : Rw} {i : Nat} {e p : Int} (h : tailS l en x i = .no e p) : p ≤ en := by
  have := peek_in hp i
  unfold tailS at h
  grind
theorem act_in {x : Rw} {i : Nat} {e p : Int} (h : actS l en x i = .no e p) : p ≤ en := by
  unfold actS at h
  repeat' split at h
  all_goals first
    | exact tail_in hp h
    | (cases h; first | exact want_in hp ‹_› | exact fig_in hp ‹_› | exact peek_in hp _)
theorem line_in {i : Nat} {e p : Int} (h : lineS l en i = .no e p) : p ≤ en := by
  unfold lineS at h
  simp only at h
  repeat' split at h
  all_goals first
    | exact act_in hp h
    | (cases h; first | exact fig_in hp ‹_› | exact clauses_in hp ‹_›)
theorem lines_in : ∀ {m i : Nat} {out : List Rw} {e p : Int}, linesS l en m i out = .no e p → p ≤ en
  | 0, i, out, e, p, h => by unfold linesS at h; cases h
  | m + 1, i, out, e, p, h => by
    unfold linesS at h
    have h0 := peek_in hp i
    have h1 := fun i e p => line_in hp (i := i) (e := e) (p := p)
    have h3 := fun i cs e p => @lines_in m i cs e p
    grind
end
theorem parseS_in {s : ByteArray} (h : (parseS s).2.1 ≠ 0) : (parseS s).1 = [] ∧ (parseS s).2.2 ≤ s.size := by
  obtain ⟨h1, h2, h3⟩ := lexS_in s
  unfold parseS at h ⊢
  split
  · exact ⟨rfl, h2⟩
  · rename_i hz
    rw [if_neg hz] at h
    cases hl : linesS (lexS s).1 s.size (lexS s).1.length 0 [] with
    | ok o j => rw [hl] at h; exact absurd rfl h
    | no e p => exact ⟨rfl, lines_in h1 hl⟩
theorem ParseReads_walk : Walked 3 [9] := by
  intro vs W hl ha
  match vs, hl with
  | [v], _ =>
    obtain ⟨s, rfl, hs⟩ := (ha 0 _ v rfl rfl).str Try.underlying9
    refine (law06_ParseReads.vc0 (Good W) s W ?_).mono fun e w' ⟨r, he, hr, hk⟩ => ⟨by rw [he, hr], hk.below⟩
    unfold law06_ParseReads.F
    refine law06_awake.cal (awake_F fun w1 k1 => ?_)
    refine parse_call (w := w1) fun s3 w2 r2 k2 => ?_
    refine ref_cal (w := w2) fun sl rps w3 hc r3 hr k3 => ?_
    rw [pif_beq, if_pos rfl, pif_beq, if_pos rfl]
    have a2 := (RwsR.of_at r2).ext k3
    have a3 := RwsR.of_rows hc r3
    rw [hr] at a3
    refine same_cal (All2.refl (rwEq.refl true) _) a2 a3 fun w4 k4 => ?_
    have kk : Ext W w4 := ((k1.trans k2).trans k3).trans k4
    rw [pif_true, pif_beq]
    split
    · exact ⟨rfl, kk⟩
    · rename_i h0
      obtain ⟨g1, g2⟩ := parseS_in h0
      rw [pif_beq, if_pos (by rw [r2.len, g1]; rfl)]
      exact ⟨by simpa using g2, kk⟩
end Go.Proofs.Ytimdpeolfhaajaa
