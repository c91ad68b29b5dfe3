/-
  From a row's reading of the arguments to what a walk asks of them: each value's shape, each cell's. No condition.
-/
import Derived.Test.YtllgjjldnnmjkaaDoorWlFacts
import Derived.OpenShut
import Derived.ShutString
import Derived.ChangeOld
import Derived.SizedLaws
set_option maxRecDepth 100000
namespace Go.Proofs.YtllgjjldnnmjkaaDoor
open Go.RowKit Go.ChangeShapes Go.WideShapes

/-- Cells that read as a value of a type. -/
def Typ (P : Program) (w : World) : Nat → TypeId → List Value → Prop
  | 0, _, _ => False
  | fuel + 1, t, cs => match P.underlying t with
    | some .bool => ∃ b, cs = [.bool b]
    | some (.int k) => ∃ n, cs = [.int k n] ∧ (Lit.int k n).wf = true
    | some (.float k) => ∃ b, cs = [.float k b] ∧ (Lit.float k b).wf = true
    | some .string => ∃ s, cs = [.string s] ∧ s.size ≤ maxLen
    | some (.pointer e) => cs = [.pointer none] ∨ ∃ a es, cs = [.pointer (some a)] ∧ es.length = P.cellsOf e ∧ cellsAt w a es ∧ Typ P w fuel e es
    | some (.slice e) => cs = [.slice none 0 0] ∨ ∃ a len cap, cs = [.slice (some a) len cap] ∧ len ≤ cap ∧ cap ≤ maxLen ∧
        ∀ i, i < cap → ∃ es, es.length = P.cellsOf e ∧ cellsAt w (a.add (i * P.cellsOf e)) es ∧ Typ P w fuel e es
    | some (.struct fs) => cs.length = P.cellsOf t ∧ ∀ f ∈ fs.toList, Typ P w fuel f.type ((cs.drop f.offset).take (P.cellsOf f.type))
    | some (.array n e) => cs.length = P.cellsOf t ∧ ∀ i, i < n → Typ P w fuel e ((cs.drop (i * P.cellsOf e)).take (P.cellsOf e))
    | _ => True

theorem mapM_some {α β : Type} (f : α → Option β) : ∀ {l : List α} {r : List β}, l.mapM f = some r → ∀ x ∈ l, ∃ y, f x = some y
  | [], _, _, x, hx => by cases hx
  | a :: l, r, h, x, hx => by
    simp only [List.mapM_cons, Option.bind_eq_bind, Option.bind_eq_some_iff] at h
    obtain ⟨y, hy, ys, hys, _⟩ := h
    rcases List.mem_cons.1 hx with rfl | hx
    · exact ⟨y, hy⟩
    · exact mapM_some f hys x hx
theorem mapM_get {α β : Type} (f : α → Option β) : ∀ {l : List α} {r : List β}, l.mapM f = some r → r.length = l.length ∧ ∀ (j : Nat) x, l[j]? = some x → ∃ y, r[j]? = some y ∧ f x = some y
  | [], r, h => by simp at h; subst h; simp
  | a :: l, r, h => by
    simp only [List.mapM_cons, Option.bind_eq_bind, Option.bind_eq_some_iff] at h
    obtain ⟨y, hy, ys, hys, he⟩ := h
    cases he
    obtain ⟨h1, h2⟩ := mapM_get f hys
    refine ⟨by simp [h1], fun j x hj => ?_⟩
    cases j with
    | zero => simp at hj; subst hj; exact ⟨y, by simp, hy⟩
    | succ j => simpa using h2 j x (by simpa using hj)
theorem cells?_at {w : World} {a : Addr} {n : Nat} {cs : List Value} (h : w.cells? 0 a n = some cs) : cs.length = n ∧ cellsAt w a cs := by
  unfold World.cells? at h
  rw [if_pos (Nat.zero_le _)] at h
  obtain ⟨h1, h2⟩ := mapM_get _ h
  refine ⟨by simpa using h1, fun j v hj => ?_⟩
  have hjn : j < n := by
    have := (List.getElem?_eq_some_iff.1 hj).1
    rw [h1] at this; simpa using this
  obtain ⟨y, hy, hc⟩ := h2 j j (by simp [hjn])
  rw [hj] at hy; cases hy
  exact hc

theorem typ_of_trod {H : Type} {enc : TypeId × Value → H} {P : Program} {w : World} : ∀ {fuel : Nat} {t : TypeId} {cs : List Value} {x : DataW H × List MemPlace},
    DataW.trod enc P w 0 (fun _ => true) true fuel t cs = some x → Typ P w fuel t cs
  | 0, _, _, _, h => by simp [DataW.trod] at h
  | fuel + 1, t, cs, x, h => by
    unfold Typ
    cases hu : P.underlying t with
    | none => trivial
    | some d =>
      unfold DataW.trod at h
      rw [hu] at h
      cases d with
      | bool => dsimp only at h ⊢; split at h <;> simp_all
      | int k => dsimp only at h ⊢; split at h <;> simp_all
      | float k => dsimp only at h ⊢; split at h <;> simp_all
      | string => dsimp only at h ⊢; split at h <;> simp_all
      | pointer e =>
        dsimp only at h ⊢
        split at h <;> try (simp at h; done)
        all_goals try (rename_i he; cases he; done)
        · exact .inl rfl
        · rename_i e' a he
          cases he
          simp only [Option.map_eq_some_iff, Option.bind_eq_some_iff] at h
          obtain ⟨y, ⟨es, hes, hy⟩, _⟩ := h
          obtain ⟨h1, h2⟩ := cells?_at hes
          exact .inr ⟨a, es, rfl, h1, h2, typ_of_trod hy⟩
      | slice e =>
        dsimp only at h ⊢
        split at h <;> try (simp at h; done)
        all_goals try (rename_i he; cases he; done)
        · exact .inl rfl
        · rename_i e' a len cap he
          cases he
          split at h
          · rename_i hb
            refine .inr ⟨a, len, cap, rfl, hb.2.1, hb.2.2, fun i hi => ?_⟩
            simp only [Option.bind_eq_some_iff, if_true, Option.map_eq_some_iff] at h
            obtain ⟨es, h1, rs, h2, _⟩ := h
            have key : ∃ y, (w.cells? 0 (a.add (i * P.cellsOf e)) (P.cellsOf e)).bind (DataW.trod enc P w 0 (fun _ => true) true fuel e) = some y := by
              by_cases hl : i < len
              · exact mapM_some _ h1 i (by simpa using hl)
              · obtain ⟨y, hy⟩ := mapM_some _ h2 (i - len) (by simp; omega)
                rw [show len + (i - len) = i by omega] at hy
                exact ⟨y, hy⟩
            obtain ⟨y, hy⟩ := key
            obtain ⟨cs, hc, hy⟩ := Option.bind_eq_some_iff.1 hy
            obtain ⟨g1, g2⟩ := cells?_at hc
            exact ⟨cs, g1, g2, typ_of_trod hy⟩
          · cases h
      | struct fs =>
        dsimp only at h ⊢
        split at h
        · rename_i hl
          simp only [Option.map_eq_some_iff] at h
          obtain ⟨xs, h1, _⟩ := h
          refine ⟨hl, fun f hf => ?_⟩
          obtain ⟨y, hy⟩ := mapM_some _ h1 f hf
          exact typ_of_trod hy
        · cases h
      | array n e =>
        dsimp only at h ⊢
        split at h
        · rename_i hl
          simp only [Option.map_eq_some_iff] at h
          obtain ⟨xs, h1, _⟩ := h
          refine ⟨hl, fun i hi => ?_⟩
          obtain ⟨y, hy⟩ := mapM_some _ h1 i (by simpa using hi)
          exact typ_of_trod hy
        · cases h
      | _ => trivial

/-- A value handed in, of a type. -/
def Arg (W : World) (t : TypeId) (v : Value) : Prop := (∃ b, Value.okWide Tryd.prog W .any b t v) ∧ ∃ fuel, Typ Tryd.prog W fuel t v.cells.toList
theorem Arg.mk' {H : Type} {enc : TypeId × Value → H} {W : World} {b : Nat} {t : TypeId} {v : Value} {d : DataW H} {p : List MemPlace} (h1 : Value.okWide Tryd.prog W .any b t v) (h2 : DataW.Trod enc Tryd.prog W 0 (fun _ => true) true t v d p) : Arg W t v :=
  ⟨⟨b, h1⟩, by obtain ⟨f, hf⟩ := h2; exact ⟨f, typ_of_trod hf⟩⟩

section
variable {W : World} {t : TypeId} {v : Value}
theorem Arg.int {k : IntKind} (hu : Tryd.prog.underlying t = some (.int k)) (h : Arg W t v) : ∃ n, v = .int k n ∧ (Lit.int k n).wf = true := by
  obtain ⟨⟨b, h1⟩, fuel, h2⟩ := h
  obtain ⟨n, rfl⟩ := okWide_int hu h1
  cases fuel with
  | zero => exact h2.elim
  | succ f =>
    unfold Typ at h2; rw [hu] at h2
    obtain ⟨m, hm, hw⟩ := h2
    simp [Value.cells] at hm; subst hm
    exact ⟨n, rfl, hw⟩
theorem Arg.bool (hu : Tryd.prog.underlying t = some .bool) (h : Arg W t v) : ∃ b, v = .bool b := by
  obtain ⟨⟨b, h1⟩, _⟩ := h
  exact okWide_bool hu h1
theorem Arg.str (hu : Tryd.prog.underlying t = some .string) (h : Arg W t v) : ∃ s, v = .string s ∧ s.size ≤ maxLen := by
  obtain ⟨⟨b, h1⟩, fuel, h2⟩ := h
  obtain ⟨n, rfl⟩ := okWide_string hu h1
  cases fuel with
  | zero => exact h2.elim
  | succ f =>
    unfold Typ at h2; rw [hu] at h2
    obtain ⟨m, hm, hw⟩ := h2
    simp [Value.cells] at hm; subst hm
    exact ⟨n, rfl, hw⟩
/-- A slice that came in: its elements' cells, each of its type. -/
theorem Arg.slice {e : TypeId} {n : Nat} (hu : Tryd.prog.underlying t = some (.slice e)) (hn : Tryd.prog.cellsOf e = n) (h : Arg W t v) : ∃ (a : Option Addr) (len cap : Nat), v = .slice a len cap ∧ len ≤ cap ∧ cap ≤ maxLen ∧
    ∃ fuel, ∀ i, i < len → ∃ ad es, a = some ad ∧ es.length = n ∧ cellsAt W (ad.add (i * n)) es ∧ Typ Tryd.prog W fuel e es := by
  subst hn
  obtain ⟨⟨b, h1⟩, fuel, h2⟩ := h
  obtain ⟨a, len, cap, rfl⟩ := okWide_slice hu h1
  cases fuel with
  | zero => exact h2.elim
  | succ f =>
    unfold Typ at h2; rw [hu] at h2
    rcases h2 with h2 | ⟨ad, l, c, h2, hl, hm, hc⟩
    · simp [Value.cells] at h2
      obtain ⟨rfl, rfl, rfl⟩ := h2
      exact ⟨none, 0, 0, rfl, Nat.le_refl _, Nat.zero_le _, 0, fun i hi => by omega⟩
    · simp [Value.cells] at h2
      obtain ⟨rfl, rfl, rfl⟩ := h2
      refine ⟨some ad, len, cap, rfl, hl, hm, f, fun i hi => ?_⟩
      obtain ⟨es, g1, g2, g3⟩ := hc i (by omega)
      exact ⟨ad, es, rfl, g1, g2, g3⟩
/-- A struct or an array handed in by value. -/
theorem Arg.agg {fs : Array Field} (hu : Tryd.prog.underlying t = some (.struct fs)) (h : Arg W t v) : ∃ cs : List Value, v = .agg ⟨cs⟩ ∧ ∃ fuel, Typ Tryd.prog W fuel t cs := by
  obtain ⟨⟨b, h1⟩, fuel, h2⟩ := h
  simp only [Value.okWide, hu] at h1
  obtain ⟨cs, rfl, _⟩ := h1
  exact ⟨cs.toList, by cases cs; rfl, fuel, h2⟩
theorem Arg.arr {n : Nat} {e : TypeId} (hu : Tryd.prog.underlying t = some (.array n e)) (h : Arg W t v) : ∃ cs : List Value, v = .agg ⟨cs⟩ ∧ ∃ fuel, Typ Tryd.prog W fuel t cs := by
  obtain ⟨⟨b, h1⟩, fuel, h2⟩ := h
  simp only [Value.okWide, hu] at h1
  obtain ⟨cs, rfl, _⟩ := h1
  exact ⟨cs.toList, by cases cs; rfl, fuel, h2⟩
end

/-- What a law's walk is to show. -/
def Walked (f : FuncId) (ts : List TypeId) : Prop := ∀ (vs : List Value) (W : World), vs.length = ts.length → (∀ (j : Nat) t v, ts[j]? = some t → vs[j]? = some v → Arg W t v) →
  Calls Tryd.prog f ⟨vs⟩ W fun e w' => e = .returned (.bool true) ∧ Below W.heap.size W w'

end Go.Proofs.YtllgjjldnnmjkaaDoor
