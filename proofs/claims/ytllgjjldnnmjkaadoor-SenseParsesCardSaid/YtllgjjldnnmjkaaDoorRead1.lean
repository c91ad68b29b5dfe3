/-
  What is read: plain laws on 'snRead'. No condition.
-/
import Derived.Test.YtllgjjldnnmjkaaDoorSayS
set_option linter.unusedVariables false
set_option linter.unusedSimpArgs false
set_option maxRecDepth 100000
namespace Go.Proofs.YtllgjjldnnmjkaaDoor
open Go.RowKit
theorem snClause_keep (x : En) (c : Cl) : (snClause x c).1.default = x.default ∧ (snClause x c).1.action = x.action := by
  unfold snClause
  split
  · exact ⟨rfl, rfl⟩
  split
  · exact ⟨rfl, rfl⟩
  split
  · exact ⟨rfl, rfl⟩
  split <;> exact ⟨rfl, rfl⟩
theorem snClauses_keep {cs : List Cl} : ∀ (l : List Cl) (i : Nat) (x : En), (snClauses cs l i x).1.default = x.default ∧ (snClauses cs l i x).1.action = x.action
  | [], _, _ => ⟨rfl, rfl⟩
  | c :: l, i, x => by
    have h := snClause_keep x c
    unfold snClauses
    split
    · exact ⟨rfl, rfl⟩
    split
    · exact ⟨rfl, rfl⟩
    split
    · exact ⟨rfl, rfl⟩
    split
    · exact h
    · have := snClauses_keep (cs := cs) l (i + 1) (snClause x c).1
      exact ⟨this.1.trans h.1, this.2.trans h.2⟩
theorem snLine_keep (r : Rw) : (snLine r).1.default = false ∧ (snLine r).1.action = 0 := by
  unfold snLine
  simp only
  split
  · exact ⟨rfl, rfl⟩
  · exact snClauses_keep _ _ _
theorem within_ok {n : Fg} {lo hi : Int} (h : (snWithin n lo hi).e = 0) : lo ≤ n.n ∧ n.n ≤ hi := by
  unfold snWithin at h
  split at h
  · simp at h
  split at h
  · simp at h
  · omega
/-- A row that is well. -/
theorem snRow_well {i : Nat} {had : Bool} {r : Rw} (h : (snAct r (snRow i had r).1 (snRow i had r).2.1).2.e = 0) :
    (snAct r (snRow i had r).1 (snRow i had r).2.1).1.default = r.default ∧ (0 ≤ (snAct r (snRow i had r).1 (snRow i had r).2.1).1.action ∧ (snAct r (snRow i had r).1 (snRow i had r).2.1).1.action ≤ 99) ∧ (snRow i had r).2.2 = (had || r.default) ∧ (r.default = true → had = false) := by
  have key : ∀ (x : En) (f : Ft), (snAct r x f).2.e = 0 → x.action = 0 → (snAct r x f).1.default = x.default ∧ 0 ≤ (snAct r x f).1.action ∧ (snAct r x f).1.action ≤ 99 := fun x f h hx => by
    unfold snAct at h ⊢
    split
    · rename_i e
      rw [if_pos e] at h
      have := within_ok h
      exact ⟨rfl, by simp only; omega, by simp only; omega⟩
    · exact ⟨rfl, by rw [hx]; exact Int.le_refl _, by rw [hx]; decide⟩
  have bad : ∀ (x : En) (e p : Int), e ≠ 0 → (snAct r x ⟨e, p⟩).2.e ≠ 0 := fun x e p he => by
    unfold snAct
    rw [if_neg (fun g => he g.1)]
    exact he
  unfold snRow at h ⊢
  by_cases h1 : i = 64
  · simp only [if_pos h1] at h
    exact absurd h (bad _ _ _ (by decide))
  simp only [if_neg h1] at h ⊢
  by_cases h2 : r.default = true ∧ had = true
  · simp only [if_pos h2] at h
    exact absurd h (bad _ _ _ (by decide))
  simp only [if_neg h2] at h ⊢
  by_cases h3 : r.default = true
  · simp only [if_pos h3] at h ⊢
    obtain ⟨g1, g2⟩ := key _ _ h rfl
    exact ⟨by rw [g1]; exact h3.symm, g2, by rw [h3, Bool.or_true], fun _ => by cases hd : had with
      | false => rfl
      | true => exact absurd ⟨h3, hd⟩ h2⟩
  · simp only [if_neg h3] at h ⊢
    have k := snLine_keep r
    obtain ⟨g1, g2⟩ := key _ _ h k.2
    have h3' : r.default = false := by simpa using h3
    exact ⟨by rw [g1, k.1, h3'], g2, by rw [h3', Bool.or_false], fun g => absurd g h3⟩
theorem snRows_no : ∀ (l : List Rw) (i : Nat) (had : Bool) (out : List En) (size : Int), (snRows l i had out size).2.1 ≠ 0 → (snRows l i had out size).1 = []
  | [], i, had, out, size, h => by
    unfold snRows at h ⊢
    split
    · rename_i e; rw [if_pos e] at h; exact absurd rfl h
    · rfl
  | r :: l, i, had, out, size, h => by
    unfold snRows at h ⊢
    simp only at h ⊢
    split
    · rfl
    · rename_i e
      rw [if_neg e] at h
      exact snRows_no l _ _ _ _ h
theorem snRows_yes : ∀ (l : List Rw) (i : Nat) (had : Bool) (out : List En) (size : Int), (snRows l i had out size).2.1 = 0 →
    ∃ es, (snRows l i had out size).1 = out ++ es ∧ (snRows l i had out size).2.2 = 0 ∧ es.length = l.length ∧ (∀ x ∈ es, 0 ≤ x.action ∧ x.action ≤ 99) ∧ es.countP (·.default) = (if had = true then 0 else 1)
  | [], i, had, out, size, h => by
    unfold snRows at h ⊢
    split
    · rename_i e
      exact ⟨[], by simp, rfl, rfl, by simp, by simp⟩
    · rename_i e; rw [if_neg e] at h; simp at h
  | r :: l, i, had, out, size, h => by
    unfold snRows at h ⊢
    simp only at h ⊢
    split
    · rename_i e; rw [if_pos e] at h; exact absurd h e
    · rename_i e
      rw [if_neg e] at h
      obtain ⟨w1, w2, w3, w4⟩ := snRow_well (i := i) (had := had) (r := r) (by simpa using e)
      generalize snAct r (snRow i had r).1 (snRow i had r).2.1 = u at h w1 w2 ⊢
      rw [w3] at h ⊢
      obtain ⟨es, e1, e2, e3, e4, e5⟩ := snRows_yes l (i + 1) (had || r.default) (out ++ [u.1]) size h
      refine ⟨u.1 :: es, by rw [e1]; simp, e2, by simp [e3], fun x hx => ?_, ?_⟩
      · rcases List.mem_cons.1 hx with rfl | hx
        · exact w2
        · exact e4 x hx
      · rw [List.countP_cons, e5, w1]
        cases hr : r.default with
        | true => rw [w4 hr]; rfl
        | false => rw [Bool.or_false]; simp
theorem snCheck_no {l : List Rw} {size : Int} (h : (snCheck l size).2.1 ≠ 0) : (snCheck l size).1 = [] := snRows_no _ _ _ _ _ h
theorem snCheck_yes {l : List Rw} {size : Int} (h : (snCheck l size).2.1 = 0) : (snCheck l size).2.2 = 0 ∧ (snCheck l size).1.length = l.length ∧ (∀ x ∈ (snCheck l size).1, 0 ≤ x.action ∧ x.action ≤ 99) ∧ (snCheck l size).1.countP (·.default) = 1 := by
  obtain ⟨es, e1, e2, e3, e4, e5⟩ := snRows_yes l 0 false [] size h
  unfold snCheck
  rw [e1, List.nil_append]
  exact ⟨e2, e3, e4, by simpa using e5⟩
theorem snRead_no {s : ByteArray} (h : (snRead s).2.1 ≠ 0) : (snRead s).1 = [] := by
  unfold snRead at h ⊢
  split
  · rfl
  · rename_i e; rw [if_neg e] at h; exact snCheck_no h
theorem snRead_yes {s : ByteArray} (h : (snRead s).2.1 = 0) : (parseS s).2.1 = 0 ∧ (snRead s).2.2 = 0 ∧ (snRead s).1.length = (parseS s).1.length ∧ (∀ x ∈ (snRead s).1, 0 ≤ x.action ∧ x.action ≤ 99) ∧ (snRead s).1.countP (·.default) = 1 := by
  unfold snRead at h ⊢
  split
  · rename_i e; rw [if_pos e] at h; exact absurd h e
  · rename_i e; rw [if_neg e] at h; exact ⟨by simpa using e, snCheck_yes h⟩
section
variable {l : List En} {h : List UInt8}
theorem dflS_some : ∀ (r : List En) (i : Nat) (b : Int), 0 < r.countP (·.default) → 0 ≤ dflS r i b
  | [], i, b, hc => by simp at hc
  | x :: r, i, b, hc => by
    unfold dflS
    split
    · split
      · rw [dflS_pos _ _ _ (by omega)]; omega
      · rename_i e
        rw [List.countP_cons, if_neg e] at hc
        exact dflS_some r (i + 1) b hc
    · omega
theorem snWhich_some (hc : 0 < l.countP (·.default)) : 0 ≤ snWhich l h := by
  rw [snWhich_eq]
  exact dflS_some l 0 _ hc
/-- A list with a default one says something; and if its actions are in range, so is that. -/
theorem snSays_some (hc : 0 < l.countP (·.default)) (ha : ∀ x ∈ l, 0 ≤ x.action ∧ x.action ≤ 99) : (snSays l h).2 = true ∧ 0 ≤ (snSays l h).1 ∧ (snSays l h).1 ≤ 99 := by
  have h0 := snWhich_some (h := h) hc
  have h1 := snWhich_lt (l := l) (h := h)
  unfold snSays
  rw [if_neg (by omega)]
  refine ⟨rfl, ha _ ?_⟩
  unfold enAt
  rw [List.getElem?_eq_getElem (show (snWhich l h).toNat < l.length by omega)]
  exact List.getElem_mem _
theorem snSays_nil : snSays [] h = (0, false) := rfl
end
end Go.Proofs.YtllgjjldnnmjkaaDoor
