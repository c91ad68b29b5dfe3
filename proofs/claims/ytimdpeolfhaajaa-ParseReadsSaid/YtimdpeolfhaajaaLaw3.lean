/-
  The plain law of ParseTokens: what parses has one arrow in each line. No condition.
-/
import Derived.Test.YtimdpeolfhaajaaLaw2
set_option linter.unusedVariables false
set_option linter.unusedSimpArgs false
namespace Go.Proofs.Ytimdpeolfhaajaa
open Go.RowKit
def Skip (l : List Tk) (i j : Nat) : Prop := ∀ n r, r ≤ 1 → arrowsS (l.drop i) n r = arrowsS (l.drop j) n r
section
variable {l : List Tk} {en : Int} {i j k : Nat}
theorem Skip.refl : Skip l i i := fun _ _ _ => rfl
theorem Skip.trans (h : Skip l i j) (g : Skip l j k) : Skip l i k := fun n r hr => (h n r hr).trans (g n r hr)
theorem peek_at (h : (peekS l en i).kind ≠ 0) : ∃ hi : i < l.length, peekS l en i = l[i] := by
  have hi := peekS_in h
  refine ⟨hi, ?_⟩
  unfold peekS
  rw [if_pos hi, List.getElem?_eq_getElem hi]; rfl
theorem Skip.one (h : (peekS l en i).kind ≠ 0) (h6 : (peekS l en i).kind ≠ 6) (h7 : (peekS l en i).kind ≠ 7) : Skip l i (i + 1) := by
  obtain ⟨hi, e⟩ := peek_at h
  rw [e] at h6 h7
  intro n r hr
  rw [List.drop_eq_getElem_cons hi]
  conv => lhs; unfold arrowsS
  rw [if_neg h6, if_neg h7, if_neg (by omega)]
theorem want_skip {k : Int} {t : Tk} (hk : k ≠ 0 ∧ k ≠ 6 ∧ k ≠ 7) (h : wantS l en k i = .ok t j) : Skip l i j := by
  obtain ⟨rfl, rfl, e⟩ := wantS_at h
  exact Skip.one (en := en) (by rw [e]; exact hk.1) (by rw [e]; exact hk.2.1) (by rw [e]; exact hk.2.2)
theorem fig_skip {f : Fg} (h : figS l en i = .ok f j) : Skip l i j := by
  unfold figS at h
  cases hw : wantS l en 2 i with
  | no e p => rw [hw] at h; cases h
  | ok t a => rw [hw] at h; cases h; exact want_skip (by decide) hw
theorem more_skip {k : Int} {ns : List Fg} {r : List Fg × Bool} (hk : k ≠ 0 ∧ k ≠ 6 ∧ k ≠ 7) (h : moreS l en k i ns = .ok r j) : Skip l i j := by
  unfold moreS at h
  split at h
  · cases h; exact Skip.refl
  · rename_i e
    have e : (peekS l en i).kind = k := by simpa using e
    cases hf : figS l en (i + 1) with
    | no e p => rw [hf] at h; cases h
    | ok f a =>
      rw [hf] at h; cases h
      exact (Skip.one (en := en) (by rw [e]; exact hk.1) (by rw [e]; exact hk.2.1) (by rw [e]; exact hk.2.2)).trans (fig_skip hf)
theorem dots_skip : ∀ {m i j : Nat} {ns r : List Fg}, dotsS l en m i ns = .ok r j → Skip l i j
  | 0, i, j, ns, r, h => by unfold dotsS at h; cases h; exact Skip.refl
  | m + 1, i, j, ns, r, h => by
    unfold dotsS at h
    cases hw : wantS l en 3 i with
    | no e p => rw [hw] at h; cases h
    | ok t a =>
      rw [hw] at h
      simp only at h
      cases hf : figS l en a with
      | no e p => rw [hf] at h; cases h
      | ok f b =>
        rw [hf] at h
        exact (want_skip (by decide) hw).trans ((fig_skip hf).trans (dots_skip h))
theorem clause_skip {had : List ByteArray} {c : Cl} (h1 : (peekS l en i).kind = 1) (h : clauseS l en had i = .ok c j) : Skip l i j := by
  have s1 : Skip l i (i + 1) := Skip.one (en := en) (by rw [h1]; decide) (by rw [h1]; decide) (by rw [h1]; decide)
  unfold clauseS at h
  simp only at h
  split at h
  · cases h
  · split at h
    · cases h
    · cases hf : figS l en (i + 1) with
      | no e p => rw [hf] at h; cases h
      | ok f a =>
        rw [hf] at h
        simp only at h
        have s2 := s1.trans (fig_skip hf)
        split at h
        · cases hd : dotsS l en 3 a [f] with
          | no e p => rw [hd] at h; cases h
          | ok ns b =>
            rw [hd] at h
            simp only at h
            cases hm : moreS l en 4 b ns with
            | no e p => rw [hm] at h; cases h
            | ok r d => rw [hm] at h; cases h; exact s2.trans ((dots_skip hd).trans (more_skip (by decide) hm))
        · split at h
          · cases hm : moreS l en 5 a [f] with
            | no e p => rw [hm] at h; cases h
            | ok r d => rw [hm] at h; cases h; exact s2.trans (more_skip (by decide) hm)
          · cases h; exact s2
theorem clauses_skip : ∀ {m i j : Nat} {cs r : List Cl}, clausesS l en m i cs = .ok r j → Skip l i j
  | 0, i, j, cs, r, h => by unfold clausesS at h; cases h; exact Skip.refl
  | m + 1, i, j, cs, r, h => by
    unfold clausesS at h
    split at h
    · rename_i h1
      cases hc : clauseS l en (cs.map Cl.word) i with
      | no e p => rw [hc] at h; cases h
      | ok c b =>
        rw [hc] at h
        exact (clause_skip h1 hc).trans (clauses_skip h)
    · cases h; exact Skip.refl
/-- Behind a line a line's end is at hand, or the text's. -/
def AtEnd (l : List Tk) (en : Int) (j : Nat) : Prop := (peekS l en j).kind = 7 ∨ l.length ≤ j
theorem tail_end {x y : Rw} (h : tailS l en x i = .ok y j) : j = i ∧ ((peekS l en j).kind = 7 ∨ (peekS l en j).kind = 0) := by
  unfold tailS at h
  split at h
  · cases h
  · rename_i g
    cases h
    refine ⟨rfl, ?_⟩
    by_cases h7 : (peekS l en i).kind = 7
    · exact .inl h7
    · exact .inr (Classical.byContradiction fun h0 => g ⟨h7, h0⟩)
theorem act_arrow {x y : Rw} (h : actS l en x i = .ok y j) : (∀ n, arrowsS (l.drop i) n 0 = arrowsS (l.drop j) (n + 1) 1) ∧ ((peekS l en j).kind = 7 ∨ (peekS l en j).kind = 0) := by
  unfold actS at h
  cases hw : wantS l en 6 i with
  | no e p => rw [hw] at h; cases h
  | ok t a =>
    rw [hw] at h
    simp only at h
    obtain ⟨rfl, rfl, h6⟩ := wantS_at hw
    have h1 : ∀ n, arrowsS (l.drop i) n 0 = arrowsS (l.drop (i + 1)) (n + 1) 1 := fun n => by
      obtain ⟨hi, e⟩ := peek_at (en := en) (by rw [h6]; decide)
      rw [e] at h6
      rw [List.drop_eq_getElem_cons hi]
      conv => lhs; unfold arrowsS
      rw [if_pos h6, if_neg (by omega)]
    split at h
    · rename_i g
      obtain ⟨rfl, he⟩ := tail_end h
      refine ⟨fun n => (h1 n).trans (Skip.one (en := en) (by rw [g.1]; decide) (by rw [g.1]; decide) (by rw [g.1]; decide) _ _ (by omega)), he⟩
    · split at h
      · rename_i g
        cases hf : figS l en (i + 1 + 1) with
        | no e p => rw [hf] at h; cases h
        | ok f b =>
          rw [hf] at h
          simp only at h
          obtain ⟨rfl, he⟩ := tail_end h
          exact ⟨fun n => (h1 n).trans (((Skip.one (en := en) (by rw [g.1]; decide) (by rw [g.1]; decide) (by rw [g.1]; decide)).trans (fig_skip hf)) _ _ (by omega)), he⟩
      · cases h
theorem line_arrow {x : Rw} (h : lineS l en i = .ok x j) : (∀ n, arrowsS (l.drop i) n 0 = arrowsS (l.drop j) (n + 1) 1) ∧ ((peekS l en j).kind = 7 ∨ (peekS l en j).kind = 0) := by
  unfold lineS at h
  simp only at h
  split at h
  · rename_i g
    obtain ⟨h1, h2⟩ := act_arrow h
    exact ⟨fun n => (Skip.one (en := en) (by rw [g.1]; decide) (by rw [g.1]; decide) (by rw [g.1]; decide) _ _ (by omega)).trans (h1 n), h2⟩
  · cases hf : figS l en i with
    | no e p => rw [hf] at h; cases h
    | ok f a =>
      rw [hf] at h
      simp only at h
      cases hc : clausesS l en (l.length - a) a [] with
      | no e p => rw [hc] at h; cases h
      | ok cs b =>
        rw [hc] at h
        simp only at h
        obtain ⟨h1, h2⟩ := act_arrow h
        exact ⟨fun n => (((fig_skip hf).trans (clauses_skip hc)) _ _ (by omega)).trans (h1 n), h2⟩
theorem lines_arrow (h0 : ∀ t ∈ l, t.kind ≠ 0) : ∀ {m i j row : Nat} {out r : List Rw}, linesS l en m i out = .ok r j → l.length ≤ i + m → out.length ≤ 64 → row ≤ 1 → (row = 0 ∨ (peekS l en i).kind = 7 ∨ (peekS l en i).kind = 0) → arrowsS (l.drop i) out.length row = some r.length ∧ r.length ≤ 64 := by
  intro m
  induction m with
  | zero =>
    intro i j row out r h hm ho hr hrow
    unfold linesS at h
    cases h
    rw [List.drop_eq_nil_of_le (by omega)]
    exact ⟨rfl, ho⟩
  | succ m ih =>
    intro i j row out r h hm ho hr hrow
    unfold linesS at h
    split at h
    · rename_i hi
      have hk : (peekS l en i).kind ≠ 0 := by
        unfold peekS
        rw [if_pos hi, List.getElem?_eq_getElem hi]
        exact h0 _ (List.getElem_mem hi)
      obtain ⟨_, e⟩ := peek_at hk
      split at h
      · rename_i h7
        have := ih (row := 0) h (by omega) ho (by omega) (.inl rfl)
        rw [e] at h7
        rw [List.drop_eq_getElem_cons hi]
        unfold arrowsS
        rw [if_neg (by rw [h7]; decide), if_pos h7]
        exact this
      · rename_i h7
        have hz : row = 0 := by
          rcases hrow with g | g | g
          · exact g
          · exact absurd g h7
          · exact absurd g hk
        subst hz
        split at h
        · cases h
        · rename_i h64
          cases hl : lineS l en i with
          | no e p => rw [hl] at h; cases h
          | ok x b =>
            rw [hl] at h
            simp only at h
            obtain ⟨h1, h2⟩ := line_arrow hl
            have := lineS_at hl
            rw [h1]
            have := ih (row := 1) h (by omega) (by simp; omega) (by omega) (.inr h2)
            simpa using this
    · cases h
      rw [List.drop_eq_nil_of_le (by omega)]
      exact ⟨rfl, ho⟩
end
theorem step_kind {s : ByteArray} {i : Nat} {t : Tk} (h : (lexStep s i).1 = some t) : t.kind ≠ 0 := by
  unfold lexStep at h
  simp only at h
  grind
theorem lexAll_kind {s : ByteArray} : ∀ (m i : Nat) (out : List Tk), (∀ t ∈ out, t.kind ≠ 0) → ∀ t ∈ (lexAll s m i out).1, t.kind ≠ 0
  | 0, i, out, h => by unfold lexAll; exact h
  | m + 1, i, out, h => by
    unfold lexAll
    split
    · split
      · intro t ht; cases ht
      · refine lexAll_kind m _ _ fun t ht => ?_
        cases he : (lexStep s i).1 with
        | none => rw [he] at ht; exact h t ht
        | some t' =>
          rw [he] at ht
          rcases List.mem_append.1 ht with g | g
          · exact h t g
          · rw [List.mem_singleton.1 g]; exact step_kind he
    · exact h
theorem lexS_kind {s : ByteArray} : ∀ t ∈ (lexS s).1, t.kind ≠ 0 := by
  unfold lexS
  split
  · intro t ht; cases ht
  · exact lexAll_kind _ _ _ fun t ht => by cases ht
section
variable {l : List Tk} {en : Int} {i j : Nat} {e p : Int}
theorem want_no {k : Int} (h : wantS l en k i = .no e p) : e ≠ 0 := by unfold wantS at h; grind
theorem fig_no (h : figS l en i = .no e p) : e ≠ 0 := by unfold figS at h; grind [want_no]
theorem more_no {k : Int} {ns : List Fg} (h : moreS l en k i ns = .no e p) : e ≠ 0 := by unfold moreS at h; grind [fig_no]
theorem dots_no : ∀ {m i : Nat} {ns : List Fg}, dotsS l en m i ns = .no e p → e ≠ 0
  | 0, i, ns, h => by unfold dotsS at h; cases h
  | m + 1, i, ns, h => by
    unfold dotsS at h
    have := @dots_no m
    grind [want_no, fig_no]
theorem clause_no {had : List ByteArray} (h : clauseS l en had i = .no e p) : e ≠ 0 := by
  unfold clauseS at h
  simp only at h
  repeat' split at h
  all_goals cases h
  all_goals first
    | decide
    | exact fig_no ‹_›
    | exact dots_no ‹_›
    | exact more_no ‹_›
theorem clauses_no : ∀ {m i : Nat} {cs : List Cl}, clausesS l en m i cs = .no e p → e ≠ 0
  | 0, i, cs, h => by unfold clausesS at h; cases h
  | m + 1, i, cs, h => by
    unfold clausesS at h
    have := @clauses_no m
    grind [clause_no]
theorem tail_no {x : Rw} (h : tailS l en x i = .no e p) : e ≠ 0 := by unfold tailS at h; grind
theorem act_no {x : Rw} (h : actS l en x i = .no e p) : e ≠ 0 := by unfold actS at h; grind [want_no, fig_no, tail_no]
theorem line_no (h : lineS l en i = .no e p) : e ≠ 0 := by 
  unfold lineS at h
  simp only at h
  repeat' split at h
  all_goals first
    | exact act_no h
    | (cases h; first | exact fig_no ‹_› | exact clauses_no ‹_›)
theorem lines_no : ∀ {m i : Nat} {out : List Rw}, linesS l en m i out = .no e p → e ≠ 0
  | 0, i, out, h => by unfold linesS at h; cases h
  | m + 1, i, out, h => by
    unfold linesS at h
    have := @lines_no m
    grind [line_no]
end
theorem parseS_arrow {s : ByteArray} (h : (parseS s).2.1 = 0) : (lexS s).2.1 = 0 ∧ arrowsS (lexS s).1 0 0 = some (parseS s).1.length ∧ (parseS s).1.length ≤ 64 := by
  unfold parseS at h ⊢
  split
  · rename_i hz; rw [if_pos hz] at h; exact absurd h hz
  · rename_i hz
    rw [if_neg hz] at h
    refine ⟨by simpa using hz, ?_⟩
    cases hl : linesS (lexS s).1 s.size ((lexS s).1.length) 0 [] with
    | ok out j => exact lines_arrow lexS_kind hl (by omega) (by simp) (by omega) (.inl rfl)
    | no e p => rw [hl] at h; exact absurd h (lines_no hl)
end Go.Proofs.Ytimdpeolfhaajaa
