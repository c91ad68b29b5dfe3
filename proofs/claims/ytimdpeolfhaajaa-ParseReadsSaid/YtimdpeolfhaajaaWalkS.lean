/-
  The document's walk through tokens, as plain functions: each fault is kept, the first counts. What it comes to is what 'parseS' says. No condition.
-/
import Derived.Test.YtimdpeolfhaajaaLaw3
set_option linter.unusedVariables false
set_option linter.unusedSimpArgs false
namespace Go.Proofs.Ytimdpeolfhaajaa
open Go.RowKit
/-- The walk's place; what was wrong first, and where. -/
structure Ws where
  i : Nat
  b : Int
  p : Int
section
variable (l : List Tk) (en : Int)
def wrongW (e : Int) (s : Ws) : Ws := if s.b = 0 then ⟨s.i, e, (peekS l en s.i).pos⟩ else s
def skipW (s : Ws) : Ws := ⟨s.i + 1, s.b, s.p⟩
def kindW (k : Int) (s : Ws) : Ws := skipW (if (peekS l en s.i).kind ≠ k then wrongW l en 8 s else s)
def figV (s : Ws) : Fg := ⟨(peekS l en s.i).n, (peekS l en s.i).pos⟩
def figW (s : Ws) : Ws := kindW l en 2 s
def dotsW : Nat → Ws → List Fg → List Fg × Ws
  | 0, s, ns => (ns, s)
  | m + 1, s, ns => dotsW m (figW l en (kindW l en 3 s)) (ns ++ [figV l en (kindW l en 3 s)])
def moreW (k : Int) (s : Ws) (ns : List Fg) : List Fg × Bool × Ws := if (peekS l en s.i).kind = k then (ns ++ [figV l en (skipW s)], true, figW l en (skipW s)) else (ns, false, s)
def addrT (t : ByteArray) : Bool := same t wSrc || same t wDst
def portT (t : ByteArray) : Bool := same t wSport || same t wDport
def hadW (t : ByteArray) : List ByteArray → Ws → Ws
  | [], s => s
  | h :: r, s => hadW t r (if same h t = true then wrongW l en 9 s else s)
/-- Behind the first number. -/
def clauseW2 (t : Tk) (s : Ws) (f : Fg) : Cl × Ws :=
  let d := if addrT t.text = true then dotsW l en 3 s [f] else ([f], s)
  let m := if addrT t.text = true then moreW l en 4 d.2 d.1 else (d.1, false, d.2)
  let q := if portT t.text = true then moreW l en 5 m.2.2 m.1 else (m.1, false, m.2.2)
  (⟨t.text, t.pos, q.1, m.2.1, q.2.1⟩, q.2.2)
def clauseW1 (had : List ByteArray) (t : Tk) (s : Ws) : Ws :=
  hadW l en t.text had (if addrT t.text = false ∧ portT t.text = false ∧ same t.text wProto = false then wrongW l en 8 s else s)
def clauseW (had : List ByteArray) (s : Ws) : Cl × Ws :=
  let s1 := skipW (clauseW1 l en had (peekS l en s.i) s)
  clauseW2 l en (peekS l en s.i) (figW l en s1) (figV l en s1)
def clausesW : Nat → Ws → List Cl → List Cl × Ws
  | 0, s, cs => (cs, s)
  | m + 1, s, cs => if s.b = 0 ∧ (peekS l en s.i).kind = 1 then clausesW m (clauseW l en (cs.map Cl.word) s).2 (cs ++ [(clauseW l en (cs.map Cl.word) s).1]) else (cs, s)
def wordW (t : ByteArray) (s : Ws) : Bool := (peekS l en s.i).kind == 1 && same (peekS l en s.i).text t
def tailW (s : Ws) : Ws := if s.i < l.length ∧ (peekS l en s.i).kind ≠ 7 then wrongW l en 8 s else s
def actW2 (x : Rw) (s : Ws) : Rw × Ws :=
  if wordW l en wDrop s = true then ({ x with drop := true }, tailW l en (skipW s))
  else
    let s1 := skipW (if wordW l en wPort s = true then s else wrongW l en 8 s)
    ({ x with port := figV l en s1 }, tailW l en (figW l en s1))
def actW (x : Rw) (s : Ws) : Rw × Ws := actW2 l en x (kindW l en 6 s)
def rowW (s : Ws) : Rw × Ws :=
  if wordW l en wDefault s = true then actW l en { rw0 (peekS l en s.i).pos with default := true } (skipW s)
  else
    let c := clausesW l en (l.length - (figW l en s).i) (figW l en s) []
    actW l en { rw0 (peekS l en s.i).pos with prio := figV l en s, clauses := c.1 } c.2
def rowsW : Nat → Ws → List Rw → List Rw × Ws
  | 0, s, out => (out, s)
  | m + 1, s, out => if s.i < l.length ∧ s.b = 0 then
      (if (peekS l en s.i).kind = 7 then rowsW m (skipW s) out
       else rowsW m (rowW l en (if out.length = 64 then wrongW l en 4 s else s)).2 (out ++ [(rowW l en (if out.length = 64 then wrongW l en 4 s else s)).1]))
    else (out, s)
end
/-- What a part of the walk is to come to. -/
def RelW {α : Type} (s : Ws) (r : Res α) (a : α) (s' : Ws) : Prop := (s.b ≠ 0 → s'.b = s.b ∧ s'.p = s.p) ∧ (s.b = 0 → match r with
  | .ok x j => a = x ∧ s'.i = j ∧ s'.b = 0
  | .no e p => e ≠ 0 ∧ s'.b = e ∧ s'.p = p)
section
variable {l : List Tk} {en : Int} {s : Ws}
theorem wrong_rel {α : Type} {e : Int} (he : e ≠ 0) (x : α) : RelW s (.no e (peekS l en s.i).pos) x (wrongW l en e s) := by
  unfold RelW wrongW
  by_cases h : s.b = 0
  · simp [h, he]
  · simp [h]
theorem RelW.stay {α : Type} {r : Res α} {x y : α} {s1 s2 : Ws} (h : RelW s r x s1) (hn : ∀ a j, r ≠ .ok a j) (h2 : s1.b ≠ 0 → s2.b = s1.b ∧ s2.p = s1.p) : RelW s r y s2 := by
  refine ⟨fun hb => ?_, fun hb => ?_⟩
  · obtain ⟨g1, g2⟩ := h.1 hb
    obtain ⟨g3, g4⟩ := h2 (by rw [g1]; exact hb)
    exact ⟨g3.trans g1, g4.trans g2⟩
  · have := h.2 hb
    cases r with
    | ok a j => exact absurd rfl (hn a j)
    | no e p =>
      obtain ⟨g1, g2, g3⟩ := this
      obtain ⟨g4, g5⟩ := h2 (by rw [g2]; exact g1)
      exact ⟨g1, g4.trans g2, g5.trans g3⟩
theorem kind_rel {k : Int} : RelW s (wantS l en k s.i) (peekS l en s.i) (kindW l en k s) := by
  unfold wantS kindW skipW wrongW RelW
  by_cases h : s.b = 0 <;> by_cases g : (peekS l en s.i).kind = k <;> simp [h, g]
theorem fig_rel : RelW s (figS l en s.i) (figV l en s) (figW l en s) := by
  unfold figS figW figV wantS kindW skipW wrongW RelW
  by_cases h : s.b = 0 <;> by_cases g : (peekS l en s.i).kind = 2 <;> simp [h, g]
/-- A part behind a part. -/
theorem RelW.bind {α β : Type} {r : Res α} {x : α} {s1 s2 : Ws} (r2 : α → Nat → Res β) {y : β} {r3 : Res β} (h : RelW s r x s1) (h2 : RelW s1 (r2 x s1.i) y s2) (e1 : ∀ a j, r = .ok a j → r3 = r2 a j) (e2 : ∀ e p, r = .no e p → r3 = .no e p) : RelW s r3 y s2 := by
  refine ⟨fun hb => ?_, fun hb => ?_⟩
  · obtain ⟨g1, g2⟩ := h.1 hb
    obtain ⟨g3, g4⟩ := h2.1 (by rw [g1]; exact hb)
    exact ⟨g3.trans g1, g4.trans g2⟩
  · have := h.2 hb
    cases r with
    | ok a j =>
      obtain ⟨g1, g2, g3⟩ := this
      rw [e1 a j rfl, ← g1, ← g2]
      exact h2.2 g3
    | no e p =>
      obtain ⟨g1, g2, g3⟩ := this
      rw [e2 e p rfl]
      obtain ⟨g4, g5⟩ := h2.1 (by rw [g2]; exact g1)
      exact ⟨g1, g4.trans g2, g5.trans g3⟩
theorem RelW.pure {α : Type} {x : α} : RelW s (.ok x s.i) x s := ⟨fun _ => ⟨rfl, rfl⟩, fun h => ⟨rfl, rfl, h⟩⟩
theorem RelW.skip {α : Type} {r : Res α} {x : α} {s' : Ws} (h : RelW (skipW s) r x s') : RelW s r x s' := h
theorem more_rel {k : Int} {ns : List Fg} : RelW s (moreS l en k s.i ns) ((moreW l en k s ns).1, (moreW l en k s ns).2.1) (moreW l en k s ns).2.2 := by
  unfold moreS moreW
  by_cases g : (peekS l en s.i).kind = k
  · rw [if_neg (by simpa using g), if_pos g]
    simp only
    refine RelW.skip (s := s) ?_
    exact (fig_rel (l := l) (en := en) (s := skipW s)).bind (fun f j => .ok (ns ++ [f], true) j) RelW.pure (fun a j h => by have h : figS l en (s.i + 1) = .ok a j := h; rw [h]; try rfl) (fun a j h => by have h : figS l en (s.i + 1) = .no a j := h; rw [h]; try rfl)
  · rw [if_pos g, if_neg g]
    exact RelW.pure
theorem dots_rel : ∀ (m : Nat) (s : Ws) (ns : List Fg), RelW s (dotsS l en m s.i ns) (dotsW l en m s ns).1 (dotsW l en m s ns).2
  | 0, s, ns => RelW.pure
  | m + 1, s, ns => by
    unfold dotsW dotsS
    refine (kind_rel (l := l) (en := en) (s := s) (k := 3)).bind (fun _ j => match figS l en j with | .no e p => .no e p | .ok f j => dotsS l en m j (ns ++ [f])) ?_ (fun _ _ h => by rw [h]; try rfl) (fun _ _ h => by rw [h]; try rfl)
    exact (fig_rel (l := l) (en := en) (s := kindW l en 3 s)).bind (fun f j => dotsS l en m j (ns ++ [f])) (dots_rel m _ _) (fun _ _ h => by rw [h]; try rfl) (fun _ _ h => by rw [h]; try rfl)
theorem had_stay {t : ByteArray} : ∀ (hs : List ByteArray) (s : Ws), s.b ≠ 0 → hadW l en t hs s = s
  | [], s, h => rfl
  | a :: r, s, h => by
    unfold hadW
    split
    · have : wrongW l en 9 s = s := by unfold wrongW; rw [if_neg h]
      rw [this]
      exact had_stay r s h
    · exact had_stay r s h
theorem same_symm (a b : ByteArray) : same a b = same b a := by unfold same; exact Bool.beq_comm
theorem had_at {t : ByteArray} : ∀ (hs : List ByteArray) (s : Ws), hadW l en t hs s = if hs.any (same t) = true then wrongW l en 9 s else s
  | [], s => rfl
  | a :: r, s => by
    unfold hadW
    rw [List.any_cons, same_symm t a]
    by_cases h : same a t = true
    · rw [if_pos h, if_pos (by simp [h])]
      by_cases hb : s.b = 0
      · exact had_stay r _ (by unfold wrongW; rw [if_pos hb]; simp)
      · rw [show wrongW l en 9 s = s from by unfold wrongW; rw [if_neg hb]]
        exact had_stay r s hb
    · rw [if_neg h, had_at r s]
      simp [h]
theorem clause2_rel {t : Tk} {f : Fg} : RelW s (if (same t.text wSrc || same t.text wDst) = true then (match dotsS l en 3 s.i [f] with
          | .no e p => (.no e p : Res Cl)
          | .ok ns j => match moreS l en 4 j ns with
            | .no e p => .no e p
            | .ok r j => .ok ⟨t.text, t.pos, r.1, r.2, false⟩ j)
        else if (same t.text wSport || same t.text wDport) = true then (match moreS l en 5 s.i [f] with
          | .no e p => .no e p
          | .ok r j => .ok ⟨t.text, t.pos, r.1, false, r.2⟩ j)
        else .ok ⟨t.text, t.pos, [f], false, false⟩ s.i) (clauseW2 l en t s f).1 (clauseW2 l en t s f).2 := by
  unfold clauseW2
  simp only [addrT, portT]
  have ap : (same t.text wSrc || same t.text wDst) = true → (same t.text wSport || same t.text wDport) = false := fun h => by
    have tw : ∀ a b : ByteArray, same t.text a = true → same t.text b = true → a.toList = b.toList := fun a b h1 h2 => by
      unfold same at h1 h2
      exact (eq_of_beq h1).symm.trans (eq_of_beq h2)
    cases h1 : (same t.text wSport || same t.text wDport) with
    | false => rfl
    | true =>
      simp only [Bool.or_eq_true] at h h1
      rcases h with h | h <;> rcases h1 with g | g <;> exact absurd (tw _ _ h g) (by simp only [ByteArray.toList_eq]; decide)
  by_cases ha : (same t.text wSrc || same t.text wDst) = true
  · simp only [ha, ap ha, if_true, Bool.false_eq_true, if_false]
    refine (dots_rel (l := l) (en := en) 3 s [f]).bind (fun ns j => match moreS l en 4 j ns with
            | .no e p => (.no e p : Res Cl)
            | .ok r j => .ok ⟨t.text, t.pos, r.1, r.2, false⟩ j) ?_ (fun _ _ h => by rw [h]; try rfl) (fun _ _ h => by rw [h]; try rfl)
    exact (more_rel (l := l) (en := en) (s := (dotsW l en 3 s [f]).2) (k := 4) (ns := (dotsW l en 3 s [f]).1)).bind (fun r j => (.ok ⟨t.text, t.pos, r.1, r.2, false⟩ j : Res Cl)) RelW.pure (fun _ _ h => by rw [h]; try rfl) (fun _ _ h => by rw [h]; try rfl)
  · simp only [ha, Bool.false_eq_true, if_false]
    by_cases hp : (same t.text wSport || same t.text wDport) = true
    · simp only [hp, if_true]
      exact (more_rel (l := l) (en := en) (s := s) (k := 5) (ns := [f])).bind (fun r j => (.ok ⟨t.text, t.pos, r.1, false, r.2⟩ j : Res Cl)) RelW.pure (fun _ _ h => by rw [h]; try rfl) (fun _ _ h => by rw [h]; try rfl)
    · simp only [hp, Bool.false_eq_true, if_false]
      exact RelW.pure
theorem clauseW1_i {t : Tk} {had : List ByteArray} : (clauseW1 l en had t s).i = s.i := by
  unfold clauseW1
  rw [had_at]
  unfold wrongW
  grind
theorem clause2_stay {t : Tk} {f : Fg} (h : s.b ≠ 0) : (clauseW2 l en t s f).2.b = s.b ∧ (clauseW2 l en t s f).2.p = s.p := (clause2_rel (l := l) (en := en) (t := t) (f := f)).1 h
theorem clause_rel {had : List ByteArray} : RelW s (clauseS l en had s.i) (clauseW l en had s).1 (clauseW l en had s).2 := by
  unfold clauseS clauseW
  simp only
  generalize ht : peekS l en s.i = t
  have hi := clauseW1_i (l := l) (en := en) (s := s) (t := t) (had := had)
  have stay : ∀ s1 : Ws, s1.b ≠ 0 → (clauseW2 l en t (figW l en (skipW s1)) (figV l en (skipW s1))).2.b = s1.b ∧ (clauseW2 l en t (figW l en (skipW s1)) (figV l en (skipW s1))).2.p = s1.p := fun s1 h => by
    obtain ⟨g1, g2⟩ := (fig_rel (l := l) (en := en) (s := skipW s1)).1 h
    obtain ⟨g3, g4⟩ := clause2_stay (l := l) (en := en) (t := t) (f := figV l en (skipW s1)) (s := figW l en (skipW s1)) (by rw [g1]; exact h)
    exact ⟨g3.trans g1, g4.trans g2⟩
  have h1 : clauseW1 l en had t s = if (same t.text wSrc || same t.text wDst || same t.text wSport || same t.text wDport || same t.text wProto) = false then (if had.any (same t.text) = true then wrongW l en 9 (wrongW l en 8 s) else wrongW l en 8 s) else (if had.any (same t.text) = true then wrongW l en 9 s else s) := by
    unfold clauseW1 addrT portT
    rw [had_at]
    cases same t.text wSrc <;> cases same t.text wDst <;> cases same t.text wSport <;> cases same t.text wDport <;> cases same t.text wProto <;> simp
  by_cases hw : (same t.text wSrc || same t.text wDst || same t.text wSport || same t.text wDport || same t.text wProto) = false
  · rw [if_pos hw]
    rw [if_pos hw] at h1
    have e8 : RelW s (.no 8 t.pos) (clauseW2 l en t s ⟨0, 0⟩).1 (wrongW l en 8 s) := by rw [← ht]; exact wrong_rel (by decide) _
    have e9 : clauseW1 l en had t s = wrongW l en 8 s := by
      rw [h1]
      split
      · unfold wrongW
        by_cases hb : s.b = 0 <;> simp [hb]
      · rfl
    rw [e9]
    exact e8.stay (fun a j g => by cases g) (stay _)
  · rw [if_neg hw]
    rw [if_neg hw] at h1
    by_cases hh : had.any (same t.text) = true
    · rw [if_pos hh]
      rw [if_pos hh] at h1
      rw [h1]
      have e9 : RelW s (.no 9 t.pos) (clauseW2 l en t s ⟨0, 0⟩).1 (wrongW l en 9 s) := by rw [← ht]; exact wrong_rel (by decide) _
      exact e9.stay (fun a j g => by cases g) (stay _)
    · rw [if_neg hh]
      rw [if_neg hh] at h1
      rw [h1]
      refine RelW.skip (s := s) ?_
      exact (fig_rel (l := l) (en := en) (s := skipW s)).bind (fun f j => if (same t.text wSrc || same t.text wDst) = true then (match dotsS l en 3 j [f] with
          | .no e p => (.no e p : Res Cl)
          | .ok ns j => match moreS l en 4 j ns with
            | .no e p => .no e p
            | .ok r j => .ok ⟨t.text, t.pos, r.1, r.2, false⟩ j)
        else if (same t.text wSport || same t.text wDport) = true then (match moreS l en 5 j [f] with
          | .no e p => .no e p
          | .ok r j => .ok ⟨t.text, t.pos, r.1, false, r.2⟩ j)
        else .ok ⟨t.text, t.pos, [f], false, false⟩ j) clause2_rel (fun a j h => by have h : figS l en (s.i + 1) = .ok a j := h; rw [h]; try rfl) (fun a j h => by have h : figS l en (s.i + 1) = .no a j := h; rw [h]; try rfl)
theorem clauses_rel : ∀ (m : Nat) (s : Ws) (cs : List Cl), RelW s (clausesS l en m s.i cs) (clausesW l en m s cs).1 (clausesW l en m s cs).2
  | 0, s, cs => RelW.pure
  | m + 1, s, cs => by
    by_cases hb : s.b = 0
    · by_cases hk : (peekS l en s.i).kind = 1
      · have e : clausesW l en (m + 1) s cs = clausesW l en m (clauseW l en (cs.map Cl.word) s).2 (cs ++ [(clauseW l en (cs.map Cl.word) s).1]) := by conv => lhs; unfold clausesW; rw [if_pos ⟨hb, hk⟩]
        rw [e]
        unfold clausesS
        rw [if_pos hk]
        exact (clause_rel (l := l) (en := en) (s := s) (had := cs.map Cl.word)).bind (fun c j => clausesS l en m j (cs ++ [c])) (clauses_rel m _ _) (fun _ _ h => by rw [h]; try rfl) (fun _ _ h => by rw [h]; try rfl)
      · have e : clausesW l en (m + 1) s cs = (cs, s) := by conv => lhs; unfold clausesW; rw [if_neg (fun g => hk g.2)]
        rw [e]
        unfold clausesS
        rw [if_neg hk]
        exact RelW.pure
    · have e : clausesW l en (m + 1) s cs = (cs, s) := by conv => lhs; unfold clausesW; rw [if_neg (fun g => hb g.1)]
      rw [e]
      exact ⟨fun _ => ⟨rfl, rfl⟩, fun h => absurd h hb⟩
theorem tail_rel (h0 : ∀ t ∈ l, t.kind ≠ 0) {x : Rw} : RelW s (tailS l en x s.i) x (tailW l en s) := by
  unfold tailS tailW
  by_cases hi : s.i < l.length
  · have hk : (peekS l en s.i).kind ≠ 0 := by
      unfold peekS
      rw [if_pos hi, List.getElem?_eq_getElem hi]
      exact h0 _ (List.getElem_mem hi)
    by_cases h7 : (peekS l en s.i).kind = 7
    · rw [if_neg (fun g => g.1 h7), if_neg (fun g => g.2 h7)]
      exact RelW.pure
    · rw [if_pos ⟨h7, hk⟩, if_pos ⟨hi, h7⟩]
      exact wrong_rel (by decide) x
  · have hk : (peekS l en s.i).kind = 0 := by unfold peekS; rw [if_neg hi]
    rw [if_neg (fun g => g.2 hk), if_neg (fun g => hi g.1)]
    exact RelW.pure
theorem act_rel (h0 : ∀ t ∈ l, t.kind ≠ 0) {x : Rw} : RelW s (actS l en x s.i) (actW l en x s).1 (actW l en x s).2 := by
  unfold actS actW
  refine (kind_rel (l := l) (en := en) (s := s) (k := 6)).bind (fun _ j => if (peekS l en j).kind = 1 ∧ same (peekS l en j).text wDrop = true then tailS l en { x with drop := true } (j + 1)
    else if (peekS l en j).kind = 1 ∧ same (peekS l en j).text wPort = true then match figS l en (j + 1) with
      | .no e p => .no e p
      | .ok f k => tailS l en { x with port := f } k
    else .no 8 (peekS l en j).pos) ?_ (fun _ _ h => by rw [h]; try rfl) (fun _ _ h => by rw [h]; try rfl)
  generalize kindW l en 6 s = s1
  unfold actW2 wordW
  simp only [Bool.and_eq_true, beq_iff_eq]
  by_cases hd : (peekS l en s1.i).kind = 1 ∧ same (peekS l en s1.i).text wDrop = true
  · rw [if_pos hd, if_pos hd]
    exact RelW.skip (tail_rel h0)
  · rw [if_neg hd, if_neg hd]
    by_cases hp : (peekS l en s1.i).kind = 1 ∧ same (peekS l en s1.i).text wPort = true
    · rw [if_pos hp, if_pos hp]
      refine RelW.skip (s := s1) ?_
      exact (fig_rel (l := l) (en := en) (s := skipW s1)).bind (fun f k => tailS l en { x with port := f } k) (tail_rel h0) (fun a j h => by have h : figS l en (s1.i + 1) = .ok a j := h; rw [h]; try rfl) (fun a j h => by have h : figS l en (s1.i + 1) = .no a j := h; rw [h]; try rfl)
    · rw [if_neg hp, if_neg hp]
      have e8 : RelW s1 (.no 8 (peekS l en s1.i).pos) x (wrongW l en 8 s1) := wrong_rel (by decide) x
      refine e8.stay (fun a j g => by cases g) fun hb => ?_
      have g := (fig_rel (l := l) (en := en) (s := skipW (wrongW l en 8 s1))).1 hb
      have g2 := (tail_rel h0 (en := en) (x := x) (s := figW l en (skipW (wrongW l en 8 s1)))).1 (by rw [g.1]; exact hb)
      exact ⟨g2.1.trans g.1, g2.2.trans g.2⟩
theorem fig_i : (figW l en s).i = s.i + 1 := by
  unfold figW kindW skipW wrongW
  grind
theorem row_rel (h0 : ∀ t ∈ l, t.kind ≠ 0) : RelW s (lineS l en s.i) (rowW l en s).1 (rowW l en s).2 := by
  unfold lineS rowW wordW
  simp only [Bool.and_eq_true, beq_iff_eq]
  by_cases hd : (peekS l en s.i).kind = 1 ∧ same (peekS l en s.i).text wDefault = true
  · rw [if_pos hd, if_pos hd]
    exact RelW.skip (act_rel h0)
  · rw [if_neg hd, if_neg hd]
    refine (fig_rel (l := l) (en := en) (s := s)).bind (fun f j => match clausesS l en (l.length - j) j [] with
      | .no e p => .no e p
      | .ok cs j => actS l en { rw0 (peekS l en s.i).pos with prio := f, clauses := cs } j) ?_ (fun _ _ h => by rw [h]; try rfl) (fun _ _ h => by rw [h]; try rfl)
    exact (clauses_rel (l := l) (en := en) (l.length - (figW l en s).i) (figW l en s) []).bind (fun cs j => actS l en { rw0 (peekS l en s.i).pos with prio := figV l en s, clauses := cs } j) (act_rel h0) (fun _ _ h => by rw [h]; try rfl) (fun _ _ h => by rw [h]; try rfl)
theorem rows_stop : ∀ (m : Nat) (s : Ws) (out : List Rw), s.b ≠ 0 → rowsW l en m s out = (out, s)
  | 0, s, out, h => rfl
  | m + 1, s, out, h => by unfold rowsW; rw [if_neg (fun g => h g.2)]
theorem rows_rel (h0 : ∀ t ∈ l, t.kind ≠ 0) : ∀ (m : Nat) (s : Ws) (out : List Rw), s.b = 0 → (match linesS l en m s.i out with
      | .ok o j => (rowsW l en m s out).1 = o ∧ (rowsW l en m s out).2.b = 0
      | .no e p => e ≠ 0 ∧ (rowsW l en m s out).2.b = e ∧ (rowsW l en m s out).2.p = p)
  | 0, s, out, h => by unfold linesS rowsW; exact ⟨rfl, h⟩
  | m + 1, s, out, h => by
    by_cases hi : s.i < l.length
    · by_cases h7 : (peekS l en s.i).kind = 7
      · have e : rowsW l en (m + 1) s out = rowsW l en m (skipW s) out := by conv => lhs; unfold rowsW; rw [if_pos ⟨hi, h⟩, if_pos h7]
        rw [e]
        unfold linesS
        rw [if_pos hi, if_pos h7]
        exact rows_rel h0 m (skipW s) out h
      · by_cases h64 : out.length = 64
        · have e : rowsW l en (m + 1) s out = rowsW l en m (rowW l en (wrongW l en 4 s)).2 (out ++ [(rowW l en (wrongW l en 4 s)).1]) := by conv => lhs; unfold rowsW; rw [if_pos ⟨hi, h⟩, if_neg h7, if_pos h64]
          rw [e]
          unfold linesS
          rw [if_pos hi, if_neg h7, if_pos h64]
          have e4 : RelW s (.no 4 (peekS l en s.i).pos) (rowW l en s).1 (wrongW l en 4 s) := wrong_rel (by decide) _
          obtain ⟨g1, g2, g3⟩ := (e4.stay (y := (rowW l en s).1) (fun a j g => by cases g) (row_rel h0 (en := en) (s := wrongW l en 4 s)).1).2 h
          rw [rows_stop m _ _ (by rw [g2]; exact g1)]
          exact ⟨g1, g2, g3⟩
        · have e : rowsW l en (m + 1) s out = rowsW l en m (rowW l en s).2 (out ++ [(rowW l en s).1]) := by conv => lhs; unfold rowsW; rw [if_pos ⟨hi, h⟩, if_neg h7, if_neg h64]
          rw [e]
          unfold linesS
          rw [if_pos hi, if_neg h7, if_neg h64]
          have er := (row_rel h0 (en := en) (s := s)).2 h
          cases hl : lineS l en s.i with
          | ok x j =>
            rw [hl] at er
            obtain ⟨g1, g2, g3⟩ := er
            have := rows_rel h0 m (rowW l en s).2 (out ++ [(rowW l en s).1]) g3
            rw [g2] at this
            rw [g1] at this ⊢
            exact this
          | no e p =>
            rw [hl] at er
            obtain ⟨g1, g2, g3⟩ := er
            rw [rows_stop m _ _ (by rw [g2]; exact g1)]
            exact ⟨g1, g2, g3⟩
    · have e : rowsW l en (m + 1) s out = (out, s) := by conv => lhs; unfold rowsW; rw [if_neg (fun g => hi g.1)]
      rw [e]
      unfold linesS
      rw [if_neg hi]
      exact ⟨rfl, h⟩
end
end Go.Proofs.Ytimdpeolfhaajaa
