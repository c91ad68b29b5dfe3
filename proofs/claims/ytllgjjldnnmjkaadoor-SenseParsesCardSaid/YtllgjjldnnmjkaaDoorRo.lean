/-
  Slices that are only read: of things, wherever they lie. No condition.
-/
import Derived.Test.YtllgjjldnnmjkaaDoorWlSep
import Derived.Test.YtllgjjldnnmjkaaDoorParseS
set_option linter.unusedVariables false
set_option linter.unusedSimpArgs false
set_option maxRecDepth 100000
namespace Go.Proofs.YtllgjjldnnmjkaaDoor
open Go.RowKit
def Ro {α : Type} (w : World) (sz : Nat) (f : α → List Value) (a : Option Addr) (n c : Nat) (l : List α) : Prop :=
  n = l.length ∧ n ≤ c ∧ n ≤ maxLen ∧ ∀ i x, l[i]? = some x → ∃ ad, a = some ad ∧ cellsAt w (ad.add (i * sz)) (f x)
section
variable {α : Type} {w w' : World} {sz : Nat} {f : α → List Value} {a : Option Addr} {n c : Nat} {l : List α}
theorem cellsAt.ext {w w' : World} {ad : Addr} {cs : List Value} (h : cellsAt w ad cs) (k : Ext w w') : cellsAt w' ad cs := fun j v hj => cell_ext k (h j v hj)
theorem Ro.ext (h : Ro w sz f a n c l) (k : Ext w w') : Ro w' sz f a n c l := ⟨h.1, h.2.1, h.2.2.1, fun i x hx => by
  obtain ⟨ad, h1, h2⟩ := h.2.2.2 i x hx
  exact ⟨ad, h1, h2.ext k⟩⟩
theorem Ro.max (h : Ro w sz f a n c l) : l.length ≤ 9223372036854775807 := by
  have := h.2.2.1
  rw [h.1] at this
  simp only [maxLen] at this
  omega
theorem Lst.ro {e : TypeId} (hf : ∀ x, (f x).length = sz) (h : Lst w e sz f a n c l) : Ro w sz f a n c l := by
  refine ⟨h.1, ?_, ?_, fun i x hx => ?_⟩
  · rcases h.2.2 with ⟨_, h1, h2⟩ | ⟨g, cur, _, _, h1, h2, _⟩ <;> omega
  · rcases h.2.2 with ⟨_, h1, h2⟩ | ⟨g, cur, _, _, h1, h2, _⟩ <;> omega
  · have hi := (List.getElem?_eq_some_iff.1 hx).1
    cases a with
    | none =>
      rcases h.2.2 with ⟨_, h1, _⟩ | ⟨g, cur, h1, _⟩
      · have := h.1; omega
      · cases h1
    | some ad =>
      obtain ⟨h1, h2⟩ := h.2.cells rfl
      refine ⟨ad, rfl, fun j v hj => ?_⟩
      rw [h1, add_mk, add_mk, Nat.zero_add]
      refine h2 _ _ ?_
      rw [flat_at hf hx (by rw [← hf x]; exact (List.getElem?_eq_some_iff.1 hj).1)]
      exact hj
theorem ixS_Ro {i : Nat} {x : α} {K : Addr → PT} (h : Ro w sz f a n c l) (hx : l[i]? = some x) (hk : ∀ ad, cellsAt w ad (f x) → K ad w) : ixS a n i sz K w := by
  obtain ⟨ad, h1, h2⟩ := h.2.2.2 i x hx
  have hi := (List.getElem?_eq_some_iff.1 hx).1
  have hn := h.1
  refine ixS_of h1 (by omega) (by omega) ?_
  exact hk _ h2
/-- The first ones alone. -/
theorem Ro.take {i : Nat} (h : Ro w sz f a n c l) (hi : i ≤ l.length) : Ro w sz f a i c (l.take i) := by
  have h1 := h.1
  have h2 := h.2.1
  have h3 := h.2.2.1
  refine ⟨?_, by omega, by omega, fun j x hx => ?_⟩
  · rw [List.length_take]; omega
  · rw [List.getElem?_take] at hx
    split at hx
    · exact h.2.2.2 j x hx
    · cases hx
theorem slS_Ro {i : Nat} {K : Option Addr → Nat → Nat → PT} (h : Ro w sz f a n c l) (hi : i ≤ l.length) (hk : K a i c w) : slS a c 0 i sz K w := by
  have h1 := h.1
  have h2 := h.2.1
  refine cnd_of ⟨Int.le_refl _, by omega, by omega⟩ ?_
  show K (if c = 0 then a else a.map (·.add (0 * sz))) (i - 0) (c - 0) w
  have e : (if c = 0 then a else a.map (·.add (0 * sz))) = a := by
    split
    · rfl
    · cases a with
      | none => rfl
      | some ad => cases ad; simp [add_mk, Addr.add]
  rw [e]
  exact hk
end
abbrev NumsO (w : World) (s : Sl3) (l : List Fg) : Prop := Ro w 2 Fg.enc s.a s.n s.c l
def ClsO (w : World) (s : Sl3) (l : List Cl) : Prop := ∃ ps : List (Cl × Sl3), l = ps.map Prod.fst ∧ Ro w 5 clEnc s.a s.n s.c ps ∧ ∀ p ∈ ps, NumsO w p.2 p.1.nums
def RwsO (w : World) (s : Sl3) (l : List Rw) : Prop := ∃ ps : List (Rw × Sl3), l = ps.map Prod.fst ∧ Ro w 8 rwEnc s.a s.n s.c ps ∧ ∀ p ∈ ps, ClsO w p.2 p.1.clauses
section
variable {w w' : World} {s : Sl3}
theorem ClsO.ext {l : List Cl} (h : ClsO w s l) (k : Ext w w') : ClsO w' s l := by
  obtain ⟨ps, h1, h2, h3⟩ := h
  exact ⟨ps, h1, h2.ext k, fun p hp => (h3 p hp).ext k⟩
theorem RwsO.ext {l : List Rw} (h : RwsO w s l) (k : Ext w w') : RwsO w' s l := by
  obtain ⟨ps, h1, h2, h3⟩ := h
  exact ⟨ps, h1, h2.ext k, fun p hp => (h3 p hp).ext k⟩
theorem ClsO.len {l : List Cl} (h : ClsO w s l) : s.n = l.length := by obtain ⟨ps, e1, e2, _⟩ := h; rw [e2.1, e1]; simp
theorem RwsO.len {l : List Rw} (h : RwsO w s l) : s.n = l.length := by obtain ⟨ps, e1, e2, _⟩ := h; rw [e2.1, e1]; simp
theorem RwsO.of_at {F : Nat → Prop} {l : List Rw} (h : RwsAt w F s l) : RwsO w s l := by
  obtain ⟨ps, h1, h2, _, h4⟩ := h
  refine ⟨ps, h1, h2.ro rwEnc_len, fun p hp => ?_⟩
  obtain ⟨qs, g1, g2, _, g4⟩ := h4 p hp
  exact ⟨qs, g1, g2.ro clEnc_len, fun q hq => (g4 q hq).1.ro Fg.enc_len⟩
end
/-- The element of a place, from memory to a list of the plain things. -/
theorem pair_in {α β : Type} {l : List α} {ps : List (α × β)} (h : l = ps.map Prod.fst) {j : Nat} (hj : j < l.length) : ∃ p, ps[j]? = some p ∧ p ∈ ps ∧ l[j]? = some p.1 := by
  subst h
  have hj' : j < ps.length := by simpa using hj
  exact ⟨ps[j], List.getElem?_eq_getElem hj', List.getElem_mem hj', by rw [List.getElem?_map, List.getElem?_eq_getElem hj']; rfl⟩
theorem lay_full {z vs : List Value} {n : Nat} (h1 : z.length = n) (h2 : vs.length = n) : lay z 0 vs = vs := by
  unfold lay
  rw [List.take_zero, List.drop_eq_nil_of_le (by omega)]
  simp
end Go.Proofs.YtllgjjldnnmjkaaDoor
