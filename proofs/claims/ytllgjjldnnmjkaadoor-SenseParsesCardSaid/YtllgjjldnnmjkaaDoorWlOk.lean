/-
  What the reading 'comp' asks is enough: each operation, each piece of code comes to it. No condition.
-/
import Derived.Test.YtllgjjldnnmjkaaDoorWl
import Derived.OrdersHeld
import Derived.LoopN
import Derived.Scope
set_option maxRecDepth 100000
namespace Go.Proofs.YtllgjjldnnmjkaaDoor
open Go.RowKit

/-- What stands fast while a piece of code runs: the deferred calls; the first slots. -/
structure Env where
  D : List Deferred
  k : Nat
  fx : Nat → Value
def Env.none : Env := ⟨[], 0, fun _ => undef⟩
def PanOk (E : Env) (a : Act) : Prop := a.defers = E.D ∧ ∀ t, t < E.k → a.tmps.getD t undef = E.fx t
def Rel (E : Env) (n : Nat) (a : Act) (ρ : Fr) : Prop := a.tmps.size = n ∧ PanOk E a ∧ ∀ t, a.tmps.getD t undef = ρ t

theorem Rel.eval {E : Env} {n : Nat} {a : Act} {ρ : Fr} (h : Rel E n a ρ) : a.eval = ev ρ := by
  funext x
  cases x <;> simp only [Act.eval, ev, h.2.2]
theorem nbeq (a b : Nat) : Nat.beq a b = decide (a = b) := by
  rw [Bool.eq_iff_iff]; simp [Nat.beq_eq]
theorem put_at (ρ : Fr) (d : Nat) (v : Value) : put ρ d v d = v := by simp [put]
theorem put_ne (ρ : Fr) (d : Nat) (v : Value) (j : Nat) (h : j ≠ d) : put ρ d v j = ρ j := by simp [put, nbeq, h]
theorem put_same {ρ : Fr} {s : Nat} {v : Value} (h : ρ s = v) : put ρ s v = ρ := by
  funext j
  by_cases hj : j = s
  · subst hj; rw [put_at, h]
  · rw [put_ne _ _ _ _ hj]
theorem panOk_put {E : Env} {a : Act} {d : Nat} (hk : E.k ≤ d) (v : Value) : PanOk E (a.put (some d) v) ↔ PanOk E a := by
  unfold PanOk
  have : ∀ t, t < E.k → (a.put (some d) v).tmps.getD t undef = a.tmps.getD t undef := fun t ht => by
    simp only [Act.put, Array.getD_eq_getD_getElem?, Array.getElem?_setIfInBounds]
    rw [if_neg (by omega)]
  exact ⟨fun h => ⟨h.1, fun t ht => by rw [← this t ht]; exact h.2 t ht⟩, fun h => ⟨h.1, fun t ht => by rw [this t ht]; exact h.2 t ht⟩⟩
theorem Rel.put {E : Env} {n : Nat} {a : Act} {ρ : Fr} (h : Rel E n a ρ) {d : Nat} (hd : d < n ∧ E.k ≤ d) (v : Value) : Rel E n (a.put (some d) v) (put ρ d v) := by
  obtain ⟨h1, h2, h3⟩ := h
  refine ⟨by simp [Act.put, h1], (panOk_put hd.2 v).2 h2, fun t => ?_⟩
  by_cases ht : t = d
  · subst ht
    rw [put_at]
    simp [Act.put, Array.getD, h1, hd.1]
  · rw [put_ne _ _ _ _ ht, ← h3 t]
    simp only [Act.put, Array.getD_eq_getD_getElem?, Array.getElem?_setIfInBounds]
    rw [if_neg (fun h => ht h.symm)]
theorem Rel.putO {E : Env} {n : Nat} {a : Act} {ρ : Fr} (h : Rel E n a ρ) (o : Option Nat) (hd : ∀ d, o = some d → d < n ∧ E.k ≤ d) (v : Value) : Rel E n (a.put o v) (putO ρ o v) := by
  cases o with
  | none => exact h
  | some d => exact h.put (hd d rfl) v

section
variable {P : Program}

theorem shT_some {t : TypeId} {s : Sh} (h : shT P t = s) (hu : s ≠ .unit) : ∃ d i, P.underlying t = some d ∧ P.info? t = some i ∧ shD d i.size = s := by
  unfold shT at h
  split at h
  · rename_i d i h1 h2; exact ⟨d, i, h1, h2, h⟩
  · exact absurd h.symm hu
def aggD (d : TypeDesc) : Bool := match d with | .struct _ | .array _ _ => true | _ => false
theorem isAgg_run {t : TypeId} {d : TypeDesc} (h : P.underlying t = some d) (w : World) : (isAgg t).run P w = .ok (aggD d) w := by
  unfold isAgg
  simp only [Sem.run_bind, run_underlying h, Result.andThen_ok]
  cases d <;> rfl
theorem load_cell {w : World} {a : Addr} {v : Value} (h : w.cell? a = some v) : (load a).run P w = .ok v w := by simp [h]

theorem ld_ok {t : TypeId} {a : Addr} {K : Value → PT} {w : World} (h : ld (shT P t) a K w) : ∃ v, (loadVar t a).run P w = .ok v w ∧ K v w := by
  generalize hs : shT P t = s at h
  have hu : s ≠ .unit := by rintro rfl; exact h
  obtain ⟨d, i, h1, h2, h3⟩ := shT_some hs hu
  have one : ∀ v, w.cell? a = some v → aggD d = false → (loadVar t a).run P w = .ok v w := fun v hv hd => by
    unfold loadVar
    simp only [Sem.run_bind, isAgg_run h1, Result.andThen_ok, hd, Bool.false_eq_true, if_false]
    exact load_cell hv
  cases s with
  | int k => obtain ⟨n, hc, hk⟩ := h; exact ⟨_, one _ hc (by cases d <;> first | rfl | cases h3), hk⟩
  | bool => obtain ⟨n, hc, hk⟩ := h; exact ⟨_, one _ hc (by cases d <;> first | rfl | cases h3), hk⟩
  | str => obtain ⟨n, hc, hk⟩ := h; exact ⟨_, one _ hc (by cases d <;> first | rfl | cases h3), hk⟩
  | ptr => obtain ⟨n, hc, hk⟩ := h; exact ⟨_, one _ hc (by cases d <;> first | rfl | cases h3), hk⟩
  | sl => obtain ⟨b, n, c, hc, hk⟩ := h; exact ⟨_, one _ hc (by cases d <;> first | rfl | cases h3), hk⟩
  | map => obtain ⟨n, hc, hk⟩ := h; exact ⟨_, one _ hc (by cases d <;> first | rfl | cases h3), hk⟩
  | any => obtain ⟨n, hc, hk⟩ := h; exact ⟨_, one _ hc (by cases d <;> first | rfl | cases h3), hk⟩
  | agg n =>
    obtain ⟨cs, hl, hc, hk⟩ := h
    refine ⟨_, ?_, hk⟩
    have hd : aggD d = true := by cases d <;> first | rfl | cases h3
    have hn : i.size = n := by cases d <;> first | (injection h3) | cases h3
    have hr := run_loadCells_list (P := P) w a cs hc
    unfold loadVar
    simp only [Sem.run_bind, isAgg_run h1, Result.andThen_ok, hd, if_true, sizeOf, typeInfo, run_program, h2, Sem.run_pure, hn, ← hl, hr]
  | unit => exact h.elim
  | two _ _ => exact h.elim
  | three _ _ _ => exact h.elim

theorem cells_one {v : Value} (h : v.oneCell' = true) : v.cells = #[v] := by cases v <;> first | rfl | cases h
theorem store_cell {w : World} {a : Addr} {v u : Value} (hv : v.oneCell' = true) (h : w.cell? a = some u) (hf : w.frozen? a = false) : (store a v).run P w = .ok () (w.setCell a v) := by
  rw [run_store P w a v .plain hv, h]; simp [hf]
theorem storeCells_ok (a : Addr) : ∀ (vs : List Value) (i : Nat) (w : World), (∀ j v, vs[j]? = some v → v.oneCell' = true ∧ (w.cell? (a.add (i + j))).isSome = true ∧ w.frozen? (a.add (i + j)) = false) →
    (storeCells a vs i).run P w = .ok () (stores w a i vs)
  | [], i, w, _ => rfl
  | v :: r, i, w, h => by
    obtain ⟨h1, h2, h3⟩ := h 0 v rfl
    rw [Nat.add_zero] at h2 h3
    obtain ⟨u, hu⟩ := Option.isSome_iff_exists.1 h2
    unfold storeCells
    simp only [Sem.run_bind, store_cell h1 hu h3, Result.andThen_ok]
    refine storeCells_ok a r (i + 1) _ fun j x hx => ?_
    obtain ⟨g1, g2, g3⟩ := h (j + 1) x (by simpa using hx)
    rw [show i + 1 + j = i + (j + 1) by omega]
    refine ⟨g1, ?_, by rw [World.frozen?_setCell]; exact g3⟩
    obtain ⟨y, hy⟩ := Option.isSome_iff_exists.1 g2
    by_cases e : a.add i = a.add (i + (j + 1))
    · rw [← e]; rw [World.cell?_setCell_same w (a.add i) v hu]; rfl
    · rw [World.cell?_setCell_other w _ _ v e, hy]; rfl
theorem st1_ok {t : TypeId} {a : Addr} {v : Value} {K : PT} {w : World} (hs : cellsOf? P t = 1) (h : st1 a v K w) : ∃ w', (storeVar t a v).run P w = .ok () w' ∧ K w' := by
  obtain ⟨hv, hc, hf, hk⟩ := h
  obtain ⟨u, hu⟩ := Option.isSome_iff_exists.1 hc
  refine ⟨_, ?_, hk⟩
  unfold cellsOf? at hs
  split at hs
  · rename_i i hi
    unfold storeVar
    rw [cells_one hv]
    simp only [Sem.run_bind, sizeOf, typeInfo, run_program, Result.andThen_ok, hi, Sem.run_pure, hs, List.size_toArray, List.length_cons, List.length_nil, Nat.zero_add, ne_eq, not_true_eq_false, if_false]
    have := storeCells_ok (P := P) a [v] 0 w (fun j x hx => by
      cases j with
      | zero => simp at hx; subst hx; exact ⟨hv, by simpa [Addr.add] using hc, by simpa [Addr.add] using hf⟩
      | succ j => simp at hx)
    simpa [stores, Addr.add] using this
  · cases hs
theorem stN_ok {t : TypeId} {a : Addr} {vs : List Value} {n : Nat} {K : PT} {w : World} (hs : shT P t = .agg n) (h : stN n a vs K w) : ∃ w', (storeVar t a (.agg ⟨vs⟩)).run P w = .ok () w' ∧ K w' := by
  obtain ⟨hl, hc, hk⟩ := h
  obtain ⟨d, i, h1, h2, h3⟩ := shT_some hs (by intro e; cases e)
  have hn : i.size = n := by cases d <;> first | (injection h3) | cases h3
  refine ⟨_, ?_, hk⟩
  unfold storeVar
  have := storeCells_ok (P := P) a vs 0 w (fun j x hx => by simpa using hc j x hx)
  simp only [Sem.run_bind, sizeOf, typeInfo, run_program, Result.andThen_ok, h2, Sem.run_pure, hn, Value.cells, List.size_toArray, hl, ne_eq, not_true_eq_false, if_false, this]

theorem run_ok {s : Sem Value} {K : Value → PT} {w : World} (sh : Sh) (h : run sh P s K w) : ∃ v w', s.run P w = .ok v w' ∧ K v w' := by
  cases sh with
  | int k => obtain ⟨v, w', hr, hk⟩ := h; exact ⟨_, _, hr, hk⟩
  | sl => obtain ⟨a, n, c, w', hr, hk⟩ := h; exact ⟨_, _, hr, hk⟩
  | agg n => obtain ⟨v, w', hr, hk⟩ := h; exact ⟨_, _, hr, hk⟩
  | _ => obtain ⟨v, w', hr, hk⟩ := h; exact ⟨_, _, hr, hk⟩

theorem is1_ok {s : Sh} {K : Value → PT} {v : Value} {w : World} (h : is1 s K v w) : K v w := by
  cases s with
  | sl => obtain ⟨a, n, c, rfl, hk⟩ := h; exact hk
  | agg n => obtain ⟨cs, rfl, hk⟩ := h; exact hk
  | unit => obtain ⟨rfl, hk⟩ := h; exact hk
  | int k => obtain ⟨n, rfl, hk⟩ := h; exact hk
  | bool => obtain ⟨n, rfl, hk⟩ := h; exact hk
  | str => obtain ⟨n, rfl, hk⟩ := h; exact hk
  | ptr => obtain ⟨n, rfl, hk⟩ := h; exact hk
  | map => obtain ⟨n, rfl, hk⟩ := h; exact hk
  | _ => exact h
theorem is2_ok {a b : Sh} {K : Value → PT} {x y : Value} {w : World} (h : is1 a (fun x' => is1 b (fun y' => K (.tuple #[x', y'])) y) x w) : K (.tuple #[x, y]) w := by
  have h1 := is1_ok (s := a) (K := fun x => is1 b (fun y => K (.tuple #[x, y])) y) h
  exact is1_ok (s := b) (K := fun y => K (.tuple #[x, y])) h1
theorem is_ok {s : Sh} {K : Value → PT} {v : Value} {w : World} (h : is s K v w) : K v w := by
  cases s with
  | two a b =>
    obtain ⟨x, y, rfl, hk⟩ := h
    exact is2_ok hk
  | three a b c =>
    obtain ⟨x, y, z, rfl, hk⟩ := h
    have h1 := is1_ok (s := a) (K := fun x => is1 b (fun y => is1 c (fun z => K (.tuple #[x, y, z])) z) y) hk
    have h2 := is1_ok (s := b) (K := fun y => is1 c (fun z => K (.tuple #[x, y, z])) z) h1
    exact is1_ok (s := c) (K := fun z => K (.tuple #[x, y, z])) h2
  | bool => exact is1_ok (s := .bool) h
  | int k => exact is1_ok (s := .int k) h
  | str => exact is1_ok (s := .str) h
  | ptr => exact is1_ok (s := .ptr) h
  | sl => exact is1_ok (s := .sl) h
  | agg n => exact is1_ok (s := .agg n) h
  | map => exact is1_ok (s := .map) h
  | any => exact is1_ok (s := .any) h
  | unit => exact is1_ok (s := .unit) h

/-! ### The operations that ask nothing of memory -/
theorem pt_ok {t : TypeId} {cs : List Value} {o : Nat} {K : Value → PT} {w : World} (h : pt (shT P t) cs o K w) : ∃ v, (∀ w', (part t ⟨cs⟩ o).run P w' = .ok v w') ∧ K v w := by
  generalize hs : shT P t = s at h
  have hu : s ≠ .unit := by rintro rfl; exact h
  obtain ⟨d, i, h1, h2, h3⟩ := shT_some hs hu
  have one : ∀ v, cs[o]? = some v → aggD d = false → ∀ w' : World, (part t ⟨cs⟩ o).run P w' = .ok v w' := fun v hv hd w' => by
    unfold part
    simp only [Sem.run_bind, isAgg_run h1, Result.andThen_ok, hd, Bool.false_eq_true, if_false]
    have : (⟨cs⟩ : Array Value)[o]? = some v := by simpa using hv
    rw [this]; rfl
  cases s with
  | int k => obtain ⟨n, hc, hk⟩ := h; exact ⟨_, one _ hc (by cases d <;> first | rfl | cases h3), hk⟩
  | bool => obtain ⟨n, hc, hk⟩ := h; exact ⟨_, one _ hc (by cases d <;> first | rfl | cases h3), hk⟩
  | str => obtain ⟨n, hc, hk⟩ := h; exact ⟨_, one _ hc (by cases d <;> first | rfl | cases h3), hk⟩
  | ptr => obtain ⟨n, hc, hk⟩ := h; exact ⟨_, one _ hc (by cases d <;> first | rfl | cases h3), hk⟩
  | sl => obtain ⟨b, n, c, hc, hk⟩ := h; exact ⟨_, one _ hc (by cases d <;> first | rfl | cases h3), hk⟩
  | map => obtain ⟨n, hc, hk⟩ := h; exact ⟨_, one _ hc (by cases d <;> first | rfl | cases h3), hk⟩
  | any => obtain ⟨n, hc, hk⟩ := h; exact ⟨_, one _ hc (by cases d <;> first | rfl | cases h3), hk⟩
  | agg n =>
    have hd : aggD d = true := by cases d <;> first | rfl | cases h3
    have hn : i.size = n := by cases d <;> first | (injection h3) | cases h3
    refine ⟨_, fun w' => ?_, h⟩
    unfold part
    simp only [Sem.run_bind, isAgg_run h1, Result.andThen_ok, hd, if_true, sizeOf, typeInfo, run_program, h2, Sem.run_pure, hn]
    simp [sub]
  | unit => exact h.elim
  | two _ _ => exact h.elim
  | three _ _ _ => exact h.elim

/-- It yields its value in whatever world. -/
def Pure (P : Program) (s : Sem Next) (K : Value → PT) (w : World) : Prop := ∃ v, (∀ w', s.run P w' = .ok (.value v) w') ∧ K v w
theorem Pure.mk {s : Sem Next} {K : Value → PT} {w : World} (v : Value) (h : ∀ w', s.run P w' = .ok (.value v) w') (k : K v w) : Pure P s K w := ⟨v, h, k⟩
theorem Pure.v {s : Sem Value} {K : Value → PT} {w : World} (v : Value) (h : ∀ w', s.run P w' = .ok v w') (k : K v w) : Pure P (do pure (.value (← s))) K w :=
  ⟨v, fun w' => by simp only [Sem.run_bind, h, Result.andThen_ok, Sem.run_pure], k⟩

theorem cint_ok {op : BinOp} {t : TypeId} {k : IntKind} {m n : Int} {K : Value → PT} {w : World} (hs : isShift op = false) (h : cint op k m n K w) :
    ∃ v, (∀ w' : World, (binOp op t (.int k m) (.int k n)).run P w' = .ok v w') ∧ K v w := by
  cases op <;> first
    | exact h.elim
    | exact absurd hs (by decide)
    | (refine ⟨_, fun w' => ?_, h⟩; simp [binOp, Op.intArith]; done)
    | (refine ⟨_, fun w' => ?_, h⟩; simp [binOp, Op.intCmp]; done)
    | (refine ⟨_, fun w' => ?_, h⟩; simp only [binOp, ne_eq, not_true_eq_false, if_false]; rfl)
    | (refine ⟨_, fun w' => ?_, h.2⟩; simp [binOp, Op.intDiv, h.1]; done)
theorem cshift_ok {op : BinOp} {t : TypeId} {k k' : IntKind} {m n : Int} {K : Value → PT} {w : World} (hs : isShift op = true) (h : cshift op k m n K w) :
    ∃ v, (∀ w' : World, (binOp op t (.int k m) (.int k' n)).run P w' = .ok v w') ∧ K v w := by
  cases op <;> first
    | exact h.elim
    | exact absurd hs (by decide)
    | (refine ⟨_, fun w' => ?_, h.2⟩; simp [binOp, Op.shift, Int.not_lt.2 h.1]; done)
theorem cstr_ok {op : BinOp} {t : TypeId} {x y : ByteArray} {K : Value → PT} {w : World} (h : cstr op x y K w) :
    ∃ v, (∀ w' : World, (binOp op t (.string x) (.string y)).run P w' = .ok v w') ∧ K v w := by
  cases op <;> first
    | exact h.elim
    | (refine ⟨_, fun w' => ?_, h⟩; simp [binOp, Op.stringOp]; done)
    | (refine ⟨_, fun w' => ?_, h.2⟩; simp only [binOp, Op.stringOp]; rw [if_neg (Int.not_lt.2 h.1)]; rfl)
def plainV (a : Value) : Bool := match a with | .nilIface => false | .agg _ => false | _ => true
theorem eqGuard_ok {op : BinOp} {t : TypeId} {x y : Operand} {a b : Value} (h : plainV a = true) (w : World) : (eqGuard op t x y a b).run P w = .ok () w := by
  unfold eqGuard
  cases op <;> cases a <;> first | rfl | exact absurd h (by simp [plainV])
theorem run_equalIn_ptrN {t e : TypeId} {p : Option Addr} (d : Nat) (h : P.underlying t = some (.pointer e)) (w : World) : (Op.equalIn (d + 1) t (.pointer p) (.pointer none)).run P w = .ok (isNone p) w := by
  cases p <;> simp [Op.equalIn, run_underlying h, isNone]
theorem run_equal_ptrN {t e : TypeId} {p : Option Addr} (h : P.underlying t = some (.pointer e)) (w : World) : (Op.equal t (.pointer p) (.pointer none)).run P w = .ok (isNone p) w := run_equalIn_ptrN 9999 h w
theorem run_equalIn_slN {t e : TypeId} {p : Option Addr} {a b c d : Nat} (n : Nat) (h : P.underlying t = some (.slice e)) (w : World) : (Op.equalIn (n + 1) t (.slice p a b) (.slice none c d)).run P w = .ok (isNone p) w := by
  cases p <;> simp [Op.equalIn, run_underlying h, isNone]
theorem run_equal_slN {t e : TypeId} {p : Option Addr} {a b c d : Nat} (h : P.underlying t = some (.slice e)) (w : World) : (Op.equal t (.slice p a b) (.slice none c d)).run P w = .ok (isNone p) w := run_equalIn_slN 9999 h w
theorem run_eql_ptrN {t e : TypeId} {p : Option Addr} (h : P.underlying t = some (.pointer e)) {w : World} : (binOp .eql t (.pointer p) (.pointer none)).run P w = .ok (.bool (isNone p)) w := by
  simp only [binOp, Sem.run_bind, run_equal_ptrN h, Result.andThen_ok, Sem.run_pure]
theorem run_neq_ptrN {t e : TypeId} {p : Option Addr} (h : P.underlying t = some (.pointer e)) {w : World} : (binOp .neq t (.pointer p) (.pointer none)).run P w = .ok (.bool (!isNone p)) w := by
  simp only [binOp, Sem.run_bind, run_equal_ptrN h, Result.andThen_ok, Sem.run_pure]
theorem run_eql_slN {t e : TypeId} {p : Option Addr} {a b c d : Nat} (h : P.underlying t = some (.slice e)) {w : World} : (binOp .eql t (.slice p a b) (.slice none c d)).run P w = .ok (.bool (isNone p)) w := by
  simp only [binOp, Sem.run_bind, run_equal_slN h, Result.andThen_ok, Sem.run_pure]
theorem run_neq_slN {t e : TypeId} {p : Option Addr} {a b c d : Nat} (h : P.underlying t = some (.slice e)) {w : World} : (binOp .neq t (.slice p a b) (.slice none c d)).run P w = .ok (.bool (!isNone p)) w := by
  simp only [binOp, Sem.run_bind, run_equal_slN h, Result.andThen_ok, Sem.run_pure]
theorem cbin_ok {op : BinOp} {t : TypeId} {x y : Operand} {a b : Value} {K : Value → PT} {w : World} (h : cbin P op t a b K w) :
    ∃ v, (∀ w' : World, (do eqGuard op t x y a b; binOp op t a b : Sem Value).run P w' = .ok v w') ∧ K v w := by
  have lift : plainV a = true → (∃ v, (∀ w' : World, (binOp op t a b).run P w' = .ok v w') ∧ K v w) → ∃ v, (∀ w' : World, (do eqGuard op t x y a b; binOp op t a b : Sem Value).run P w' = .ok v w') ∧ K v w := by
    rintro g1 ⟨v, hv, hk⟩
    exact ⟨v, fun w' => by simp only [Sem.run_bind, eqGuard_ok g1, Result.andThen_ok, hv], hk⟩
  generalize hX : cbin P op t a b K = X at h
  unfold cbin at hX
  split at hX
  · rename_i k m k' n
    refine lift rfl ?_
    cases hs : isShift op with
    | true => rw [hs] at hX; subst hX; exact cshift_ok hs h
    | false =>
      rw [hs] at hX
      cases hk : keq k k' with
      | true => rw [hk] at hX; subst hX; obtain rfl := keq_eq hk; exact cint_ok hs h
      | false => rw [hk] at hX; subst hX; exact h.elim
  · subst hX; exact lift rfl (cstr_ok h)
  · rename_i x' y'
    refine lift rfl ?_
    split at hX
    · rename_i hsh
      obtain ⟨d, i, h1, h2, h3⟩ := shT_some hsh (by intro e; cases e)
      obtain rfl : d = .bool := by cases d <;> first | rfl | cases h3
      split at hX
      · subst hX; exact ⟨_, fun w' => run_eql_bool w' t x' y' h1, h⟩
      · subst hX; exact ⟨_, fun w' => run_neq_bool w' t x' y' h1, h⟩
      · subst hX; exact h.elim
    · subst hX; exact h.elim
  · rename_i p
    refine lift rfl ?_
    split at hX
    · rename_i hsh
      obtain ⟨d, i, h1, h2, h3⟩ := shT_some hsh (by intro e; cases e)
      obtain ⟨e, rfl⟩ : ∃ e, d = .pointer e := by cases d <;> first | exact ⟨_, rfl⟩ | cases h3
      split at hX
      · subst hX; exact ⟨_, fun w' => by rw [run_eql_ptrN h1], h⟩
      · subst hX; exact ⟨_, fun w' => by rw [run_neq_ptrN h1], h⟩
      · subst hX; exact h.elim
    · subst hX; exact h.elim
  · rename_i p _ _ _ _
    refine lift rfl ?_
    split at hX
    · rename_i hsh
      obtain ⟨d, i, h1, h2, h3⟩ := shT_some hsh (by intro e; cases e)
      obtain ⟨e, rfl⟩ : ∃ e, d = .slice e := by cases d <;> first | exact ⟨_, rfl⟩ | cases h3
      split at hX
      · subst hX; exact ⟨_, fun w' => by rw [run_eql_slN h1], h⟩
      · subst hX; exact ⟨_, fun w' => by rw [run_neq_slN h1], h⟩
      · subst hX; exact h.elim
    · subst hX; exact h.elim
  · subst hX; exact h.elim

theorem fieldOff_ok {s : TypeId} {f : Nat} {t off : Nat} (h : fieldOff P s f = some (t, off)) : ∃ fs fd, P.underlying s = some (.struct fs) ∧ fs[f]? = some fd ∧ fd.type = t ∧ fd.offset = off := by
  unfold fieldOff at h
  split at h
  · rename_i fs h1
    split at h
    · rename_i fd h2; simp at h; exact ⟨fs, fd, h1, h2, h.1, h.2⟩
    · cases h
  · cases h
theorem elK_some {e : TypeId} {x y : El} (h : elK P e x = y) (hy : y ≠ .no) : x = y ∧ ∃ i, P.info? e = some i := by
  unfold elK at h
  split at h
  · rename_i i hi; exact ⟨h, i, hi⟩
  · exact absurd h.symm hy
theorem elT_sl {t e : TypeId} (h : elT P t = .sl e) : P.underlying t = some (.slice e) := by
  unfold elT at h
  split at h
  · rename_i e' h1
    obtain ⟨h2, _⟩ := elK_some h (by intro e; cases e)
    cases h2; exact h1
  · obtain ⟨h2, _⟩ := elK_some h (by intro e; cases e)
    cases h2
  · cases h
theorem elT_arr {t e : TypeId} {n : Nat} (h : elT P t = .arr n e) : P.underlying t = some (.array n e) := by
  unfold elT at h
  split at h
  · obtain ⟨h2, _⟩ := elK_some h (by intro e; cases e)
    cases h2
  · rename_i n' e' h1
    obtain ⟨h2, _⟩ := elK_some h (by intro e; cases e)
    cases h2; exact h1
  · cases h
/-- Every slice's and array's element type is in the table. -/
def ElsOk (P : Program) : Prop := ∀ t e, elT P t = .sl e ∨ (∃ n, elT P t = .arr n e) → ∃ i, P.info? e = some i
theorem hEls : ElsOk P := by
  intro t e h
  unfold elT at h
  split at h
  · rcases h with h | ⟨n, h⟩ <;> (obtain ⟨h2, h3⟩ := elK_some h (by intro e; cases e); first | (cases h2; done) | (cases h2; exact h3))
  · rcases h with h | ⟨n, h⟩ <;> (obtain ⟨h2, h3⟩ := elK_some h (by intro e; cases e); first | (cases h2; done) | (cases h2; exact h3))
  · rcases h with h | ⟨n, h⟩ <;> cases h
theorem shT_str {t : TypeId} (h : shT P t = .str) : P.underlying t = some .string := by
  obtain ⟨d, i, h1, h2, h3⟩ := shT_some h (by intro e; cases e)
  obtain rfl : d = .string := by cases d <;> first | rfl | cases h3
  exact h1
theorem shT_int {t : TypeId} {k : IntKind} (h : shT P t = .int k) : P.underlying t = some (.int k) := by
  obtain ⟨d, i, h1, h2, h3⟩ := shT_some h (by intro e; cases e)
  obtain rfl : d = .int k := by cases d <;> first | (injection h3 with h3; rw [h3]) | cases h3
  exact h1
/-- A type of the table. -/
theorem sizeOf_ok {t : TypeId} {n : Nat} (h : cellsOf? P t = n) (hn : 0 < n) (w : World) : (sizeOf t).run P w = .ok n w := by
  unfold cellsOf? at h
  split at h
  · rename_i i hi; simp [sizeOf, typeInfo, hi, h]
  · omega
theorem sizeOf_some {t : TypeId} {i : TypeInfo} (h : P.info? t = some i) (w : World) : (sizeOf t).run P w = .ok (cellsOf? P t) w := by
  simp [sizeOf, typeInfo, h, cellsOf?]

theorem lowOf_ok {ρ : Fr} {x : Option Operand} {d l : Int} (h : lowOf ρ x d = some l) : (x = none ∧ l = d) ∨ ∃ y, x = some y ∧ ev ρ y = .int .i64 l := by
  unfold lowOf at h
  split at h
  · exact .inl ⟨rfl, by simpa using h.symm⟩
  · rename_i y
    split at h
    · rename_i n hn; simp at h; exact .inr ⟨y, rfl, by rw [hn, h]⟩
    · cases h
theorem sliceBound_ok (l : Int) (y : Nat) (c : BoundsCode) (h0 : 0 ≤ l) (h1 : l ≤ y) (w : World) : (Instr.sliceBound (.int .i64 l) y c).run P w = .ok l.toNat w := by
  simp [Instr.sliceBound, asIntOf, h0, h1]
theorem sliceBounds_ok {ρ : Fr} {lo hi : Option Operand} {l h : Int} (b : Bool) (n c : Nat) (hl : lowOf ρ lo 0 = some l) (hh : lowOf ρ hi n = some h) (g0 : 0 ≤ l) (g1 : l ≤ h) (g2 : h ≤ c) (w : World) :
    (Instr.sliceBounds b n c (lo.map (ev ρ)) (hi.map (ev ρ)) none).run P w = .ok (l.toNat, h.toNat, c) w := by
  have hb : ∀ cd, (Instr.sliceBound (.int .i64 h) c cd).run P w = .ok h.toNat w := fun cd => sliceBound_ok h c cd (by omega) g2 w
  have lb : ∀ cd, (Instr.sliceBound (.int .i64 l) h.toNat cd).run P w = .ok l.toNat w := fun cd => sliceBound_ok l _ cd g0 (by omega) w
  rcases lowOf_ok hl with ⟨rfl, rfl⟩ | ⟨y, rfl, hy⟩ <;> rcases lowOf_ok hh with ⟨rfl, rfl⟩ | ⟨z, rfl, hz⟩ <;>
    simp_all [Instr.sliceBounds]

theorem sliceBounds3_ok {ρ : Fr} {lo : Option Operand} {hi mx : Operand} {l h m : Int} (b : Bool) (n c : Nat) (hl : lowOf ρ lo 0 = some l) (hh : ev ρ hi = .int .i64 h) (hm : ev ρ mx = .int .i64 m) (g0 : 0 ≤ l) (g1 : l ≤ h) (g2 : h ≤ m) (g3 : m ≤ c) (w : World) :
    (Instr.sliceBounds b n c (lo.map (ev ρ)) (some (ev ρ hi)) (some (ev ρ mx))).run P w = .ok (l.toNat, h.toNat, m.toNat) w := by
  have mb : ∀ cd, (Instr.sliceBound (.int .i64 m) c cd).run P w = .ok m.toNat w := fun cd => sliceBound_ok m c cd (by omega) g3 w
  have hb : ∀ cd, (Instr.sliceBound (.int .i64 h) m.toNat cd).run P w = .ok h.toNat w := fun cd => sliceBound_ok h _ cd (by omega) (by omega) w
  have lb : ∀ cd, (Instr.sliceBound (.int .i64 l) h.toNat cd).run P w = .ok l.toNat w := fun cd => sliceBound_ok l _ cd g0 (by omega) w
  rcases lowOf_ok hl with ⟨rfl, rfl⟩ | ⟨y, rfl, hy⟩ <;>
    simp_all [Instr.sliceBounds]

theorem ix_in {i : Int} {n : Nat} (h0 : 0 ≤ i) (h1 : i < n) : (0 ≤ i ∧ i < (n : Int)) := ⟨h0, h1⟩

theorem map_mk {α β : Type} (l : Array α) (f : α → β) : l.map f = ⟨l.toList.map f⟩ := Array.ext' (by simp)
theorem pv_ok {o : Oper} {ρ : Fr} {K : Value → PT} {w : World} (hT : ∀ t e, elT P t = .sl e ∨ (∃ n, elT P t = .arr n e) → ∃ i, P.info? e = some i) (h : pv P o ρ K w) : Pure P (execOp (ev ρ) o) K w := by
  obtain ⟨dst, op, ty, pos, after, guard⟩ := o
  generalize hX : pv P _ ρ K = X at h
  unfold pv at hX
  split at hX
  · rename_i x ho; cases ho; exact .mk _ (fun _ => rfl) (by subst hX; exact h)
  · rename_i x ho; cases ho; exact .mk _ (fun _ => rfl) (by subst hX; exact h)
  · rename_i c a b ho; cases ho
    split at hX
    · rename_i t ht
      subst hX
      cases t
      · exact .mk _ (fun w' => by simp [execOp, ht, asBool]) h
      · exact .mk _ (fun w' => by simp [execOp, ht, asBool]) h
    · subst hX
      exact h.elim
  · rename_i x ho; cases ho
    split at hX
    · rename_i p hp
      subst hX
      cases p with
      | none => exact h.elim
      | some a => exact .mk _ (fun w' => by simp [execOp, hp]) h
    · subst hX
      exact h.elim
  · rename_i s x f ho; cases ho
    split at hX
    · rename_i a ha
      split at hX
      · rename_i t off hf
        obtain ⟨fs, fd, h1, h2, rfl, rfl⟩ := fieldOff_ok hf
        split at hX
        · subst hX
          exact h.elim
        · rename_i n hn
          subst hX
          refine .v _ (fun w' => ?_) h
          have hz : (sizeOf fd.type).run P w' = .ok (n + 1) w' := sizeOf_ok hn (by omega) w'
          simp [Instr.fieldAt, run_underlying h1, h2, ha, Instr.sureAddr, fieldPlace, hz]
      · subst hX
        exact h.elim
    · subst hX
      exact h.elim
  · rename_i s x f ho; cases ho
    split at hX
    · rename_i cs hc
      split at hX
      · rename_i t off hf
        obtain ⟨fs, fd, h1, h2, rfl, rfl⟩ := fieldOff_ok hf
        subst hX
        obtain ⟨v, hv, hk⟩ := pt_ok h
        exact .v v (fun w' => by simp [Instr.field, run_underlying h1, h2, hc, asAgg, hv]) hk
      · subst hX
        exact h.elim
    · subst hX
      exact h.elim
  · rename_i op xt x y yt ho; cases ho
    rw [← hX] at h
    obtain ⟨v, hv, hk⟩ := cbin_ok (x := x) (y := y) h
    subst hX
    exact .v v hv hk
  · rename_i op xt x ho; cases ho
    split at hX
    · rename_i b hb
      split at hX
      · subst hX
        exact .v _ (fun w' => by simp [Op.unary, hb]) h
      · subst hX
        exact h.elim
    · rename_i k n hn
      split at hX
      · subst hX
        exact .v _ (fun w' => by simp [Op.unary, hn, Op.intArith]) h
      · subst hX
        exact .v _ (fun w' => by simp only [Op.unary, hn]; rfl) h
      · subst hX
        exact h.elim
    · subst hX
      exact h.elim
  · rename_i s d x ho; cases ho
    split at hX
    · rename_i k n hn
      split at hX
      · rename_i ks hks
        split at hX
        · rename_i k' hk
          subst hX
          refine .v _ (fun w' => ?_) h
          simp [hn, convert, run_underlying (shT_int hks), run_underlying (shT_int hk), Conv.intToInt]
        · subst hX; exact h.elim
      · subst hX; exact h.elim
    · subst hX; exact h.elim
  · rename_i x i ho; cases ho
    split at hX
    · rename_i vs hv
      split at hX
      · rename_i v hi
        subst hX
        exact .v v (fun w' => by simp [Instr.extract, hv, hi]) h
      · subst hX
        exact h.elim
    · subst hX
      exact h.elim
  · rename_i fn first captured ho; cases ho
    subst hX
    exact .v _ (fun w' => by rw [map_mk, map_mk]; rfl) h
  · rename_i t x i ho; cases ho
    split at hX
    · rename_i s k n hs hn
      split at hX
      · rename_i ht
        subst hX
        obtain ⟨h0, b, hb, hk⟩ := h
        exact .v _ (fun w' => by simp [Instr.index, hs, hn, asIntOf, run_underlying (shT_str ht), h0, hb]) hk
      · subst hX
        exact h.elim
    · rename_i cs k n hs hn
      split at hX
      · rename_i len e he
        subst hX
        obtain ⟨⟨h0, h1⟩, hk⟩ := h
        obtain ⟨v, hv, hk⟩ := pt_ok hk
        obtain ⟨i, hi⟩ := hT t e (.inr ⟨_, he⟩)
        exact .v v (fun w' => by simp [Instr.index, hs, hn, asIntOf, run_underlying (elT_arr he), h0, h1, sizeOf_some hi, hv]) hk
      · subst hX
        exact h.elim
    · subst hX
      exact h.elim
  · rename_i t x i ho; cases ho
    split at hX
    · rename_i a n c k j hs hn
      split at hX
      · rename_i e he
        subst hX
        obtain ⟨b, rfl, h0, h1, hk⟩ := h
        obtain ⟨i, hi⟩ := hT t e (.inl he)
        exact .v _ (fun w' => by simp [Instr.indexAt, hs, hn, asIntOf, run_underlying (elT_sl he), h0, h1, sizeOf_some hi]) hk
      · subst hX
        exact h.elim
    · rename_i a k j hs hn
      split at hX
      · rename_i len e he
        subst hX
        obtain ⟨⟨h0, h1⟩, hk⟩ := h
        obtain ⟨i, hi⟩ := hT t e (.inr ⟨_, he⟩)
        exact .v _ (fun w' => by simp [Instr.indexAt, hs, hn, asIntOf, run_underlying (elT_arr he), h0, h1, sizeOf_some hi, Instr.sureAddr]) hk
      · subst hX
        exact h.elim
    · subst hX
      exact h.elim
  · rename_i t x lo hi ho; cases ho
    split at hX
    · rename_i a n c hx
      split at hX
      · rename_i e l h' he hl hh
        subst hX
        obtain ⟨⟨g0, g1, g2⟩, hk⟩ := h
        obtain ⟨i, hi'⟩ := hT t e (.inl he)
        exact .v _ (fun w' => by simp [hx, Instr.sliceAt, Instr.slice, run_underlying (elT_sl he), sliceBounds_ok true n c hl hh g0 g1 g2, sizeOf_some hi']) hk
      · subst hX; exact h.elim
    · rename_i s hx
      split at hX
      · rename_i l h' he hl hh
        subst hX
        obtain ⟨⟨g0, g1, g2⟩, hk⟩ := h
        exact .v _ (fun w' => by simp [hx, Instr.sliceAt, Instr.slice, run_underlying (shT_str he), sliceBounds_ok false s.size s.size hl hh g0 g1 g2]) hk
      · subst hX; exact h.elim
    · rename_i a hx
      split at hX
      · rename_i len e he
        split at hX
        · rename_i l h' hl hh
          subst hX
          obtain ⟨⟨g0, g1, g2⟩, hk⟩ := h
          obtain ⟨i, hi'⟩ := hT t e (.inr ⟨_, he⟩)
          exact .v _ (fun w' => by simp [hx, Instr.sliceAt, run_underlying (elT_arr he), sliceBounds_ok false len len hl hh g0 g1 g2, sizeOf_some hi', Instr.sureAddr]) hk
        · subst hX; exact h.elim
      · subst hX; exact h.elim
    · subst hX; exact h.elim
  · rename_i t x ho; cases ho
    split at hX
    · subst hX; exact h.elim
    · rename_i d hni hd
      subst hX
      refine .v _ (fun w' => ?_) h
      unfold Instr.makeInterface
      simp only [Sem.run_bind, run_underlying hd, Result.andThen_ok]
      cases d <;> first | rfl | exact absurd hd (hni _)
    · subst hX; exact h.elim
  · rename_i t x lo hi mx ho; cases ho
    split at hX
    · rename_i a n c hx
      split at hX
      · rename_i e l h' m he hl hh hm
        subst hX
        obtain ⟨⟨g0, g1, g2, g3⟩, hk⟩ := h
        obtain ⟨i, hi'⟩ := hT t e (.inl he)
        exact .v _ (fun w' => by simp [hx, Instr.sliceAt, Instr.slice, run_underlying (elT_sl he), sliceBounds3_ok true n c hl hh hm g0 g1 g2 g3, sizeOf_some hi']) hk
      · subst hX; exact h.elim
    · subst hX; exact h.elim
  · rename_i x y ts ho; cases ho
    split at hX
    · rename_i k m k' n hx hy
      subst hX
      exact .mk _ (fun w' => by simp [execOp, resolve, invoke, builtin, hx, hy, Builtin.max_, Builtin.max2]) h
    · subst hX; exact h.elim
  · rename_i x y ts ho; cases ho
    split at hX
    · rename_i k m k' n hx hy
      subst hX
      exact .mk _ (fun w' => by simp [execOp, resolve, invoke, builtin, hx, hy, Builtin.min_, Builtin.min2]) h
    · subst hX; exact h.elim
  · rename_i x t ho; cases ho
    split at hX
    · rename_i a n c hx
      split at hX
      · rename_i e he
        subst hX
        exact .mk _ (fun w' => by simp [execOp, resolve, invoke, builtin, hx, Builtin.len_, run_underlying (elT_sl he), goInt]) h
      · subst hX; exact h.elim
    · rename_i s hx
      split at hX
      · rename_i he
        subst hX
        exact .mk _ (fun w' => by simp [execOp, resolve, invoke, builtin, hx, Builtin.len_, run_underlying (shT_str he), goInt]) h
      · subst hX; exact h.elim
    · subst hX; exact h.elim
  · subst hX; exact h.elim

/-- The program's functions bear no name that the model treats apart. -/
def NamesOk (P : Program) : Prop := ∀ (f : Nat) (fn : Func), P.funcs[f]? = some fn → (fn.name == "runtime.NumGoroutine") = false



/-- What is asked behind an operation, by its kind of ending. -/
def QOk (E : Env) (Z : List PanicEntry → PT) (Q : Exit → Act → World → Prop) : Prop := ∀ c (a : Act) w, PanOk E a → Z c w → Q (.panic c) a w

theorem up_value {o : Oper} {a : Act} {K : Act → World → Prop} {Q : Exit → Act → World → Prop} {w w' : World} {v : Value} (h : (execOp a.eval o).run P w = .ok (.value v) w') (k : K (a.put o.dst v) w') : o.wp P a w K Q := by
  unfold Oper.wp; rw [h]; exact k
theorem up_skip {o : Oper} {a : Act} {K : Act → World → Prop} {Q : Exit → Act → World → Prop} {w w' : World} (h : (execOp a.eval o).run P w = .ok .skip w') (k : K (a.put o.dst undef) w') : o.wp P a w K Q := by
  unfold Oper.wp; rw [h]; exact k
theorem val_run {s : Sem Value} {w w' : World} {v : Value} (h : s.run P w = .ok v w') : (do pure (.value (← s)) : Sem Next).run P w = .ok (.value v) w' := by
  simp only [Sem.run_bind, h, Result.andThen_ok, Sem.run_pure]
theorem bodied_ok {f : FuncId} (h : bodied P f = true) : ∃ fn c, P.funcs[f]? = some fn ∧ fn.body = some c := by
  unfold bodied at h
  split at h
  · rename_i a1 a2 a3 a4 a5 a6 a7 a8 b a9 a10 a11 a12 a13 a14 a15 h1
    exact ⟨_, b, h1, rfl⟩
  · cases h

theorem set_fold (off : Nat) : ∀ (vs : List Value) (m : Nat) (l : List Value), off + m + vs.length ≤ l.length →
    (vs.zipIdx m).foldl (fun (cs : Array Value) x => cs.setIfInBounds (off + x.2) x.1) (⟨l⟩ : Array Value) = ⟨l.take (off + m) ++ vs ++ l.drop (off + m + vs.length)⟩
  | [], m, l, _ => by simp
  | v :: r, m, l, h => by
    simp only [List.length_cons] at h
    simp only [List.zipIdx_cons, List.foldl_cons]
    have e : (⟨l⟩ : Array Value).setIfInBounds (off + m) v = ⟨l.set (off + m) v⟩ := by apply Array.ext'; simp
    rw [e, set_fold off r (m + 1) _ (by simp; omega)]
    congr 1
    have hs : l.set (off + m) v = l.take (off + m) ++ v :: l.drop (off + m + 1) := by rw [List.set_eq_take_append_cons_drop, if_pos (by omega)]
    have hk : (l.take (off + m)).length = off + m := by simp; omega
    rw [hs, List.take_append, List.drop_append, hk, List.take_of_length_le (by omega), List.drop_eq_nil_of_le (show (l.take (off + m)).length ≤ off + (m + 1) + r.length by omega)]
    rw [show off + (m + 1) - (off + m) = 1 by omega, show off + (m + 1) + r.length - (off + m) = r.length + 1 by omega]
    simp only [List.take_succ_cons, List.take_zero, List.drop_succ_cons, List.drop_drop, List.nil_append, List.append_assoc, List.cons_append, List.length_cons]
    rw [show off + m + 1 + r.length = off + m + (r.length + 1) by omega]

theorem fill_one {place : Nat → Option (Nat × Nat)} {i off sz : Nat} {v : Value} {r : List (Nat × Value)} {pre z vs : List Value} (hp : place i = some (off, sz)) (hv : v.cells = ⟨vs⟩) (hvs : vs.length = sz) (hb : pre.length ≤ off) (hz : off - pre.length + sz ≤ z.length) :
    Instr.fill place ⟨pre ++ z⟩ ((i, v) :: r) = Instr.fill place ⟨(pre ++ z.take (off - pre.length) ++ vs) ++ z.drop (off - pre.length + sz)⟩ r := by
  have h1 : (pre ++ z).length = pre.length + z.length := by simp
  simp only [Instr.fill, hp, hv]
  rw [if_neg (by simp [hvs]; omega)]
  congr 1
  have h2 := set_fold off vs 0 (pre ++ z) (by rw [h1]; omega)
  have h3 : (⟨vs⟩ : Array Value).zipIdx.foldl (fun (cs : Array Value) x => cs.setIfInBounds (off + x.2) x.1) (⟨pre ++ z⟩ : Array Value) = (vs.zipIdx 0).foldl (fun (cs : Array Value) x => cs.setIfInBounds (off + x.2) x.1) (⟨pre ++ z⟩ : Array Value) := by
    rw [← Array.foldl_toList]; simp
  refine h3.trans (h2.trans ?_)
  congr 1
  simp only [Nat.add_zero, List.take_append, List.drop_append, List.append_assoc]
  rw [List.take_of_length_le hb, List.drop_eq_nil_of_le (show pre.length ≤ off + vs.length by omega)]
  simp [show off + vs.length - pre.length = off - pre.length + sz by omega]

theorem parts_ok {pl : Nat → Option (Nat × Nat)} {w : World} : ∀ (ps : List (Nat × Value)) (b : Nat) (pre z : List Value) (K : List Value → PT), pre.length = b → parts pl ps b z K w →
    ∃ out, Instr.fill pl ⟨pre ++ z⟩ ps = some ⟨pre ++ out⟩ ∧ out.length = z.length ∧ K out w
  | [], b, pre, z, K, _, h => ⟨z, rfl, rfl, h⟩
  | (i, v) :: r, b, pre, z, K, hb, h => by
    generalize hX : parts pl ((i, v) :: r) b z K = X at h
    unfold parts at hX
    split at hX
    · subst hX; exact h.elim
    · rename_i off sz hp
      split at hX
      · rename_i hle
        simp only [Bool.and_eq_true, Nat.ble_eq] at hle
        subst hb
        have fin : ∀ vs : List Value, v.cells = ⟨vs⟩ → vs.length = sz → parts pl r (off + sz) (z.drop (off - pre.length + sz)) (fun out => K (z.take (off - pre.length) ++ (vs ++ out))) w →
            ∃ out, Instr.fill pl ⟨pre ++ z⟩ ((i, v) :: r) = some ⟨pre ++ out⟩ ∧ out.length = z.length ∧ K out w := fun vs hv hvs hk => by
          obtain ⟨out, h1, h2, h3⟩ := parts_ok r (off + sz) (pre ++ z.take (off - pre.length) ++ vs) (z.drop (off - pre.length + sz)) _ (by simp; omega) hk
          refine ⟨_, ?_, ?_, h3⟩
          · rw [fill_one hp hv hvs hle.1 hle.2, h1]; simp
          · simp at h2 ⊢; omega
        split at hX
        · rename_i vs
          subst hX
          exact fin vs rfl h.1 h.2
        · subst hX; exact h.elim
        · rename_i hna hnt
          split at hX
          · subst hX
            refine fin [v] ?_ rfl h
            cases v <;> first | rfl | exact absurd rfl (hna _) | exact absurd rfl (hnt _)
          · subst hX; exact h.elim
      · subst hX; exact h.elim

theorem zeroOf_ok {t : TypeId} {z : List Value} (h : zeroOf P t = some z) : ∃ i v, P.info? t = some i ∧ i.zero = some v ∧ z = v.cells.toList := by
  unfold zeroOf at h
  split at h
  · rename_i i hi
    split at h
    · rename_i v hv; cases h; exact ⟨i, v, hi, hv, rfl⟩
    · cases h
  · cases h
theorem zero_run {t : TypeId} {i : TypeInfo} {v : Value} (hi : P.info? t = some i) (hv : i.zero = some v) (w : World) : (zeroValue t).run P w = .ok v w := by
  simp [zeroValue, typeInfo, hi, hv]
theorem newC_run {e : TypeId} {cs : List Value} (w : World) : (newRow e ⟨cs⟩).run P w = .ok ⟨w.heap.size, 0, none⟩ (w.alloc (.cells ⟨cs⟩ e)) := by
  simp [newRow]

theorem reps_len (z : List Value) : ∀ n, (reps n z).length = n * z.length
  | 0 => by simp [reps]
  | n + 1 => by simp [reps, reps_len z n, Nat.add_mul]; omega
theorem reps_get (z : List Value) (hz : 0 < z.length) : ∀ n j, j < n * z.length → (reps n z)[j]? = z[j % z.length]?
  | 0, j, h => by omega
  | n + 1, j, h => by
    rw [reps, List.getElem?_append]
    by_cases hj : j < z.length
    · rw [if_pos hj, Nat.mod_eq_of_lt hj]
    · rw [if_neg hj, reps_get z hz n (j - z.length) (by rw [Nat.add_mul] at h; omega)]
      congr 1
      exact (Nat.mod_eq_sub_mod (by omega)).symm
theorem range_map (z : Array Value) (n : Nat) (h : n * z.size ≠ 0) : (Array.range (n * z.size)).map (z[· % z.size]!) = ⟨reps n z.toList⟩ := by
  have hz : 0 < z.toList.length := by
    rcases Nat.eq_zero_or_pos z.size with h0 | h0
    · rw [h0] at h; simp at h
    · simpa using h0
  apply Array.ext'
  apply List.ext_getElem?
  intro j
  simp only [Array.toList_map, Array.toList_range, List.getElem?_map]
  by_cases hj : j < n * z.size
  · rw [List.getElem?_range hj, reps_get _ hz n j (by simpa using hj)]
    have : j % z.size < z.size := Nat.mod_lt _ (by simpa using hz)
    simp [getElem!_pos, this]
  · rw [List.getElem?_eq_none (by simp; omega), List.getElem?_eq_none (by rw [reps_len]; simpa using hj)]; rfl

theorem mapM_list_run {α : Type} (g : α → Nat) (t : α → TypeId) (w : World) : ∀ (l : List α), (l.all fun f => (P.info? (t f)).isSome) = true →
    (l.mapM (fun f => do pure (g f, ← sizeOf (t f)) : α → Sem (Nat × Nat))).run P w = .ok (l.map fun f => (g f, cellsOf? P (t f))) w
  | [], _ => rfl
  | f :: r, h => by
    simp only [List.all_cons, Bool.and_eq_true] at h
    obtain ⟨i, hi⟩ := Option.isSome_iff_exists.1 h.1
    have ih := mapM_list_run g t w r h.2
    simp only [List.mapM_cons, Sem.run_bind, sizeOf_some hi, Result.andThen_ok, Sem.run_pure, List.map_cons]
    rw [ih]
    rfl
theorem cop_ok {E : Env} {n : Nat} {Z : List PanicEntry → PT} {o : Oper} {ρ : Fr} {K : Value → PT} {a : Act} {w : World} {K' : Act → World → Prop} {Q : Exit → Act → World → Prop} (hN : NamesOk P) (hT : ElsOk P) (hr : Rel E n a ρ) (hQ : QOk E Z Q)
    (hK : ∀ v w', K v w' → K' (a.put o.dst v) w') (h : cop P Z o ρ K w) : o.wp P a w K' Q := by
  have he := hr.eval
  generalize hX : cop P Z o ρ K = X at h
  unfold cop at hX
  split at hX
  · subst hX
    obtain ⟨v, hv, hk⟩ := pv_ok hT h
    exact up_value (by rw [he]; exact hv w) (hK _ _ hk)
  · obtain ⟨dst, op, ty, pos, after, guard⟩ := o
    split at hX
    · rename_i t x ho; cases ho
      split at hX
      · rename_i ad hx
        subst hX
        obtain ⟨v, hv, hk⟩ := ld_ok h
        exact up_value (by rw [he]; exact val_run (by simp [Instr.loadAt, hx, Instr.sureAddr, hv])) (hK _ _ hk)
      · subst hX; exact h.elim
    · rename_i t x y ho; cases ho
      split at hX
      · rename_i ad hx
        split at hX
        · rename_i n hs
          split at hX
          · rename_i vs hy
            subst hX
            obtain ⟨w', hv, hk⟩ := stN_ok hs h
            exact up_skip (by rw [he]; simp [execOp, Instr.storeAt, hx, hy, Instr.sureAddr, hv]) (hK _ _ hk)
          · subst hX; exact h.elim
        · split at hX
          · rename_i hs
            subst hX
            obtain ⟨w', hv, hk⟩ := st1_ok hs h
            exact up_skip (by rw [he]; simp [execOp, Instr.storeAt, hx, Instr.sureAddr, hv]) (hK _ _ hk)
          · subst hX; exact h.elim
      · subst hX; exact h.elim
    · rename_i tt args ats ho; cases ho
      subst hX
      obtain ⟨g, first, captured, hf, hb, h⟩ := h
      obtain ⟨fn, c, h1, h2⟩ := bodied_ok hb
      have hf : ev ρ (.tmp tt) = .func (.func g) ⟨first⟩ ⟨captured⟩ := hf
      have hx : (execOp a.eval { dst, op := .call { callee := .value (.tmp tt), args, argTypes := ats }, type := ty, pos, after, guard }).run P w = .ok (.enter g ⟨first ++ args.toList.map (ev ρ) ++ captured⟩) w := by
        rw [he]
        simp only [execOp, resolve, hf, Deferred.ofValue, Sem.run_bind, Sem.run_pure, Result.andThen_ok, invoke, callFunc, run_program, h1, hN g fn h1, h2, Bool.false_eq_true, if_false, Option.isNone_some]
        congr 2
        apply Array.ext'
        simp
      unfold Oper.wp
      rw [hx]
      refine Calls.mono h fun e w' hR => ?_
      cases e with
      | returned v => exact hK _ _ (is_ok hR)
      | panicked c => exact hQ _ _ _ hr.2.1 hR
      | outgrown => exact hR.elim
    · rename_i f args ats hnt ho; cases ho
      split at hX
      · rename_i g first captured hf
        split at hX
        · rename_i hb
          subst hX
          obtain ⟨fn, c, h1, h2⟩ := bodied_ok hb
          have hx : (execOp a.eval { dst, op := .call { callee := .value f, args, argTypes := ats }, type := ty, pos, after, guard }).run P w = .ok (.enter g ⟨first ++ args.toList.map (ev ρ) ++ captured⟩) w := by
            rw [he]
            simp only [execOp, resolve, hf, Deferred.ofValue, Sem.run_bind, Sem.run_pure, Result.andThen_ok, invoke, callFunc, run_program, h1, hN g fn h1, h2, Bool.false_eq_true, if_false, Option.isNone_some]
            congr 2
            apply Array.ext'
            simp
          unfold Oper.wp
          rw [hx]
          refine Calls.mono h fun e w' hR => ?_
          cases e with
          | returned v => exact hK _ _ (is_ok hR)
          | panicked c => exact hQ _ _ _ hr.2.1 hR
          | outgrown => exact hR.elim
        · subst hX; exact h.elim
      · subst hX; exact h.elim
    · rename_i e x ho; cases ho
      split at hX
      · rename_i vs hx
        subst hX
        exact up_value (by rw [he]; exact val_run (by simp [Instr.box, newVar, newRow, hx, Value.cells])) (hK _ _ h)
      · subst hX; exact h.elim
      · rename_i hx _
        subst hX
        exact up_value (by rw [he]; exact val_run (by
          have : (ev ρ x).cells = #[ev ρ x] := by
            generalize hv : ev ρ x = v at hx
            cases v <;> first | rfl | exact absurd rfl (hx _)
          simp [Instr.box, newVar, newRow, this])) (hK _ _ h)
    · rename_i x ho; cases ho
      subst hX
      revert h
      show (match ev ρ x with | .iface t v => Z [{ v := .iface t v, recovered := false }] w | _ => False) → _
      intro h
      split at h
      · rename_i t v hx
        unfold Oper.wp
        have : (execOp a.eval { dst, op := .panic x, type := ty, pos, after, guard }).run P w = .halt (.panic (.iface t v)) w := by
          rw [he]; simp [execOp, hx, Instr.panic]
        rw [this]
        exact hQ _ _ _ hr.2.1 h
      · exact h.elim
    · subst hX; exact h.elim
    · subst hX; exact h.elim
    · subst hX; exact h.elim
    · rename_i b args ats ho; cases ho
      subst hX
      obtain ⟨v, w', hv, hk⟩ := run_ok _ h
      refine up_value (w' := w') (v := v) ?_ (hK _ _ hk)
      rw [he]
      have key : (execOp (ev ρ) { dst, op := .call { callee := .builtin b, args, argTypes := ats }, type := ty, pos, after, guard }).run P w =
          (builtin b ats ty ⟨args.toList.map isC⟩ ⟨args.toList.map (ev ρ)⟩).run P w := by
        simp only [execOp, resolve, Sem.run_bind, Sem.run_pure, Result.andThen_ok, invoke, map_mk]
        rfl
      rw [key]
      unfold bi at hv
      simp only [Sem.run_bind] at hv
      generalize (builtin b ats ty _ _).run P w = r at hv
      cases r with
      | ok nx w1 =>
        simp only [Result.andThen_ok] at hv
        cases nx <;> first | (simp only [Sem.run_pure, Result.ok.injEq] at hv; obtain ⟨rfl, rfl⟩ := hv; rfl) | (simp at hv; done)
      | halt x w1 => simp at hv
    · rename_i t ps ho; cases ho
      split at hX
      · split at hX
        · rename_i z hz
          split at hX
          · rename_i pl hpl
            subst hX
            obtain ⟨i, v, hi, hzv, rfl⟩ := zeroOf_ok hz
            obtain ⟨out, h1, _, hk⟩ := parts_ok _ _ [] _ _ rfl h
            simp only [List.nil_append] at h1
            have hz0 := zero_run hi hzv w
            refine up_value (w' := w) ?_ (hK _ _ hk)
            rw [he]
            refine val_run ?_
            rw [map_mk]
            unfold placesOf at hpl
            split at hpl
            · rename_i fs hfs
              split at hpl
              · rename_i hall
                cases hpl
                have hpl : (fun i : Nat => (fs.map fun (f : Field) => (f.offset, cellsOf? P f.type))[i]?) = fun i : Nat => match fs[i]? with | some f => some (f.offset, cellsOf? P f.type) | none => none := by
                  funext i
                  rw [Array.getElem?_map]
                  cases fs[i]? <;> rfl
                replace h1 : Instr.fill (fun i : Nat => (fs.map fun (f : Field) => (f.offset, cellsOf? P f.type))[i]?) ⟨v.cells.toList⟩ (List.map (fun x => (x.1, ev ρ x.2)) ps.toList) = some ⟨out⟩ := by rw [hpl]; exact h1
                simp only [Instr.build, Sem.run_bind, hz0, Result.andThen_ok, run_underlying hfs]
                rw [Array.mapM_eq_mapM_toList]
                have hm := mapM_list_run (P := P) (fun f : Field => f.offset) (fun f : Field => f.type) w fs.toList hall
                simp only [Sem.run_map, hm, Result.andThen_ok]
                have e0 : (List.map (fun f : Field => (f.offset, cellsOf? P f.type)) fs.toList).toArray = fs.map fun (f : Field) => (f.offset, cellsOf? P f.type) := by
                  apply Array.ext'; simp
                rw [e0]
                have e1 : (⟨v.cells.toList⟩ : Array Value) = v.cells := rfl
                rw [e1] at h1
                rw [h1]
                rfl
              · cases hpl
            · rename_i n e hfs
              split at hpl
              · rename_i j hj
                cases hpl
                simp [Instr.build, hz0, run_underlying hfs, sizeOf, typeInfo, hj, h1]
              · cases hpl
            · cases hpl
          · subst hX; exact h.elim
        · subst hX; exact h.elim
      · subst hX
        obtain ⟨v, w', hv, hk⟩ := run_ok _ h
        exact up_value (by rw [he]; exact val_run (by rw [map_mk]; exact hv)) (hK _ _ hk)
    · rename_i t m ps ho; cases ho
      split at hX
      · rename_i e hel
        split at hX
        · rename_i z hz
          split at hX
          · rename_i hle
            subst hX
            simp only [Bool.and_eq_true, Nat.ble_eq] at hle
            have hlen : z.length = cellsOf? P e := by simpa using hle.2
            obtain ⟨i, v, hi, hzv, rfl⟩ := zeroOf_ok hz
            obtain ⟨out, h1, _, hk⟩ := parts_ok _ _ [] _ _ rfl h
            simp only [List.nil_append] at h1
            refine up_value (w' := w.alloc (.cells ⟨out⟩ e)) ?_ (hK _ _ hk)
            rw [he]
            refine val_run ?_
            rw [map_mk]
            have hcells : (Array.range (m * cellsOf? P e)).map ((if m * cellsOf? P e = 0 then #[] else v.cells)[· % (if m * cellsOf? P e = 0 then #[] else v.cells).size]!) = ⟨reps m v.cells.toList⟩ := by
              by_cases h0 : m * cellsOf? P e = 0
              · rw [h0]
                have : reps m v.cells.toList = [] := List.eq_nil_of_length_eq_zero (by rw [reps_len, hlen, h0])
                rw [this]; simp
              · have hs : cellsOf? P e = v.cells.size := by rw [← hlen]; simp
                rw [if_neg h0]
                rw [hs] at h0 ⊢
                exact range_map v.cells m h0
            simp only [Instr.buildSlice, Sem.run_bind, run_underlying (elT_sl hel), Result.andThen_ok, sizeOf_some hi]
            rw [if_neg (by omega)]
            have e2 : (fun i => some (i * cellsOf? P e, cellsOf? P e)) = elPlace (cellsOf? P e) := rfl
            by_cases h0 : m * cellsOf? P e = 0
            · rw [if_pos h0] at hcells ⊢
              simp only [Sem.run_bind, Sem.run_pure, Result.andThen_ok, hcells, e2, h1]
              simp [newRow]
            · rw [if_neg h0] at hcells ⊢
              simp only [Sem.run_bind, Sem.run_pure, Result.andThen_ok, zero_run hi hzv, hcells, e2, h1]
              simp [newRow]
          · subst hX; exact h.elim
        · subst hX; exact h.elim
      · subst hX; exact h.elim
    · rename_i e ho; cases ho
      split at hX
      · rename_i z hz
        subst hX
        obtain ⟨i, v, hi, hzv, rfl⟩ := zeroOf_ok hz
        refine up_value (w' := w.alloc (.cells ⟨v.cells.toList⟩ e)) ?_ (hK _ _ h)
        rw [he]
        exact val_run (by simp [Instr.alloc, zero_run hi hzv, newVar, newRow])
      · subst hX; exact h.elim
    · rename_i op xt x y yt ho; cases ho
      subst hX
      obtain ⟨v, w', hv, hk⟩ := run_ok _ h
      exact up_value (by rw [he]; exact val_run hv) (hK _ _ hk)
    · rename_i s d x ho; cases ho
      subst hX
      obtain ⟨v, w', hv, hk⟩ := run_ok _ h
      exact up_value (by rw [he]; exact val_run hv) (hK _ _ hk)
    · rename_i t x ho; cases ho
      subst hX
      obtain ⟨v, w', hv, hk⟩ := run_ok _ h
      exact up_value (by rw [he]; exact val_run hv) (hK _ _ hk)
    · rename_i t r ho; cases ho
      subst hX
      obtain ⟨v, w', hv, hk⟩ := run_ok _ h
      exact up_value (by rw [he]; exact val_run hv) (hK _ _ hk)
    · rename_i t l c ho; cases ho
      subst hX
      obtain ⟨v, w', hv, hk⟩ := run_ok _ h
      exact up_value (by rw [he]; exact val_run hv) (hK _ _ hk)
    · rename_i t m k ok ho; cases ho
      split at hX
      · subst hX
        obtain ⟨x, y, w', hv, hk⟩ := h
        exact up_value (by rw [he]; exact val_run hv) (hK _ _ (is2_ok hk))
      · subst hX
        obtain ⟨v, w', hv, hk⟩ := run_ok _ h
        exact up_value (by rw [he]; exact val_run hv) (hK _ _ hk)
    · rename_i t m k v ho; cases ho
      subst hX
      obtain ⟨w', hv, hk⟩ := h
      exact up_skip (by rw [he]; simp [execOp, hv]) (hK _ _ hk)
    · rename_i t x ho; cases ho
      subst hX
      obtain ⟨v, w', hv, hk⟩ := run_ok _ h
      exact up_value (by rw [he]; exact val_run hv) (hK _ _ hk)
    · rename_i i s ho; cases ho
      split at hX
      · subst hX
        obtain ⟨v, w', hv, ⟨rfl, hk⟩ | ⟨x, y, rfl, hk⟩⟩ := h
        · exact up_value (by rw [he]; exact val_run hv) (hK _ _ hk)
        · have h1 := is1_ok (s := .int .i64) (K := fun x => is1 (.int .i32) (fun y => K (.tuple #[.bool true, x, y])) y) hk
          exact up_value (by rw [he]; exact val_run hv) (hK _ _ (is1_ok (s := .int .i32) (K := fun y => K (.tuple #[.bool true, x, y])) h1))
      · subst hX
        obtain ⟨v, w', hv, ⟨rfl, hk⟩ | ⟨x, y, rfl, hk⟩⟩ := h
        · exact up_value (by rw [he]; exact val_run hv) (hK _ _ hk)
        · exact up_value (by rw [he]; exact val_run hv) (hK _ _ hk)
    · rename_i x t u ok ho; cases ho
      split at hX
      · subst hX
        obtain ⟨x, y, w', hv, hk⟩ := h
        exact up_value (by rw [he]; exact val_run hv) (hK _ _ (is2_ok hk))
      · subst hX
        obtain ⟨v, w', hv, hk⟩ := run_ok _ h
        exact up_value (by rw [he]; exact val_run hv) (hK _ _ hk)
    · subst hX; exact h.elim

def opsOk (n : Nat) (ops : List Oper) : Bool := ops.all fun o => match o.dst with | some d => Nat.blt d n | none => true
def opsAb (k : Nat) (ops : List Oper) : Bool := ops.all fun o => match o.dst with | some d => Nat.ble k d | none => true
/-- No slot below k is written. -/
def codeAb (k : Nat) : Code → Bool
  | .region _ ops _ => opsAb k ops.toList
  | .seq a b => codeAb k a && codeAb k b
  | .cond _ a b => codeAb k a && codeAb k b
  | .block _ c => codeAb k c
  | .loop c => codeAb k c
  | .scope c => codeAb k c
  | _ => true
theorem opsAb_zero (ops : List Oper) : opsAb 0 ops = true := List.all_eq_true.2 fun o _ => by
  cases o.dst with
  | none => rfl
  | some d => exact Nat.ble_eq_true_of_le (Nat.zero_le d)
theorem codeAb_zero : ∀ c : Code, codeAb 0 c = true
  | .region _ ops _ => opsAb_zero _
  | .seq a b => by simp [codeAb, codeAb_zero a, codeAb_zero b]
  | .cond _ a b => by simp [codeAb, codeAb_zero a, codeAb_zero b]
  | .block _ c => by simp [codeAb, codeAb_zero c]
  | .loop c => by simp [codeAb, codeAb_zero c]
  | .scope c => by simp [codeAb, codeAb_zero c]
  | .skip => rfl
  | .exit _ => rfl
  | .ret => rfl
  | .rangeFunc _ _ _ _ => rfl
  | .label _ => rfl
  | .goto _ => rfl
  | .refuse _ => rfl
def codeOk (n : Nat) : Code → Bool
  | .region _ ops _ => opsOk n ops.toList
  | .seq a b => codeOk n a && codeOk n b
  | .cond _ a b => codeOk n a && codeOk n b
  | .block _ c => codeOk n c
  | .loop c => codeOk n c
  | .scope c => codeOk n c
  | _ => true
theorem opsOk_at {E : Env} {n : Nat} {ops : List Oper} (h : opsOk n ops = true ∧ opsAb E.k ops = true) {o : Oper} (ho : o ∈ ops) : ∀ d, o.dst = some d → d < n ∧ E.k ≤ d := by
  intro d hd
  have h1 := List.all_eq_true.1 h.1 o ho
  have h2 := List.all_eq_true.1 h.2 o ho
  simp only [hd] at h1 h2
  exact ⟨Nat.le_of_ble_eq_true h1, Nat.le_of_ble_eq_true h2⟩

theorem yielded_ok {E : Env} {n : Nat} {ops : Array Oper} {a : Act} {ρ : Fr} (hr : Rel E n a ρ) (hd : opsOk n ops.toList = true ∧ opsAb E.k ops.toList = true) {i s : Nat} {t : Bool} (hi : (ops.toList[i]?).bind (·.dst) = some s) (hs : ρ s = .bool t) : yielded ops a.tmps i = some t := by
  obtain ⟨o, ho, hos⟩ := Option.bind_eq_some_iff.1 hi
  have hsn : s < n := (opsOk_at hd (List.mem_of_getElem? ho) s hos).1
  have h1 : ops[i]? = some o := by simpa using ho
  have h2 : a.tmps[s]? = some (.bool t) := by
    have := hr.2.2 s
    rw [hs, Array.getD_eq_getD_getElem?, Array.getElem?_eq_getElem (by rw [hr.1]; exact hsn)] at this
    rw [Array.getElem?_eq_getElem (by rw [hr.1]; exact hsn)]
    simpa using this
  simp [yielded, h1, hos, h2]

/-- A guard, looked at: either it is wanted, and the frame is as it was, or it isn't. -/
theorem guarded_ok {E : Env} {n : Nat} {ops : Array Oper} {o : Oper} {a : Act} {ρ : Fr} {X Y : Fr → PT} {w : World} (hr : Rel E n a ρ) (hd : opsOk n ops.toList = true ∧ opsAb E.k ops.toList = true) (h : guarded ops.toList o ρ X Y w) :
    (Region.wanted o (yielded ops a.tmps) = true ∧ X ρ w) ∨ (Region.wanted o (yielded ops a.tmps) = false ∧ Y ρ w) := by
  generalize hX : guarded ops.toList o ρ X Y = B at h
  unfold guarded at hX
  split at hX
  · rename_i hg; subst hX; exact .inl ⟨by simp [Region.wanted, hg], h⟩
  · rename_i i want hg
    split at hX
    · subst hX; exact h.elim
    · rename_i s hi
      split at hX
      · rename_i t hs
        have hy := yielded_ok hr hd hi hs
        have hw : Region.wanted o (yielded ops a.tmps) = (t == want) := by simp [Region.wanted, hg, hy]
        rw [hw]
        have hp : ∀ b, t = b → put ρ s (.bool b) = ρ := fun b e => put_same (by rw [hs, e])
        cases want <;> cases t <;> (subst hX; simp only [pif] at h)
        · rw [hp _ rfl] at h; exact .inl ⟨rfl, h⟩
        · rw [hp _ rfl] at h; exact .inr ⟨rfl, h⟩
        · rw [hp _ rfl] at h; exact .inr ⟨rfl, h⟩
        · rw [hp _ rfl] at h; exact .inl ⟨rfl, h⟩
      · rename_i vs hs
        subst hX
        have hy : yielded ops a.tmps i = none := by
          obtain ⟨o', ho, hos⟩ := Option.bind_eq_some_iff.1 hi
          have hsn : s < n := (opsOk_at hd (List.mem_of_getElem? ho) s hos).1
          have h1 : ops[i]? = some o' := by simpa using ho
          have h2 : a.tmps[s]? = some (.tuple vs) := by
            have := hr.2.2 s
            rw [hs, Array.getD_eq_getD_getElem?, Array.getElem?_eq_getElem (by rw [hr.1]; exact hsn)] at this
            rw [Array.getElem?_eq_getElem (by rw [hr.1]; exact hsn)]
            simpa using this
          simp [yielded, h1, hos, h2]
        exact .inr ⟨by simp [Region.wanted, hg, hy], h⟩
      · subst hX; exact h.elim

theorem cops_cons {Z : List PanicEntry → PT} {ops : List Oper} {o : Oper} {r : List Oper} {K : Fr → PT} {ρ : Fr} :
    cops P Z ops (o :: r) K ρ = guarded ops o ρ (fun ρ => cop P Z o ρ fun v => cops P Z ops r K (putO ρ o.dst v)) (fun ρ => cops P Z ops r K (putO ρ o.dst undef)) := rfl

theorem cops_ok {E : Env} {n : Nat} {Z : List PanicEntry → PT} {ops : Array Oper} {K : Fr → PT} {Q : Exit → Act → World → Prop} (hN : NamesOk P) (hT : ElsOk P) (hQ : QOk E Z Q) (hd : opsOk n ops.toList = true ∧ opsAb E.k ops.toList = true)
    (hK : ∀ ρ a w, Rel E n a ρ → K ρ w → Q .normal a w) : ∀ (l : List Oper) (_ : ∀ o ∈ l, o ∈ ops.toList) (ρ : Fr) (a : Act) (w : World), Rel E n a ρ → cops P Z ops.toList l K ρ w → wpList P ops Q l a w
  | [], _, ρ, a, w, hr, h => wpList_nil (hK ρ a w hr h)
  | o :: r, hl, ρ, a, w, hr, h => by
    have hdo := opsOk_at hd (hl o (by simp))
    have ih := cops_ok hN hT hQ hd hK r (fun o ho => hl o (by simp [ho]))
    rw [cops_cons] at h
    refine wpList_step fun K' hK' => ?_
    rcases guarded_ok hr hd h with ⟨hw, hx⟩ | ⟨hw, hx⟩
    · rw [if_pos hw]
      exact cop_ok hN hT hr hQ (fun v w' hv => hK' _ _ (ih _ _ _ (hr.putO _ hdo v) hv)) hx
    · rw [if_neg (by simp [hw])]
      exact hK' _ _ (ih _ _ _ (hr.putO _ hdo undef) hx)

theorem hld_ok {S : PT} {t : TypeId} {a : Addr} {K : Value → PT} {w : World} (h : hld S (shT P t) a K w) : ∃ v, (∀ w', S w' → (loadVar t a).run P w' = .ok v w') ∧ K v w := by
  generalize hs : shT P t = s at h
  have tr : ∀ v, (∀ w', S w' → ld s a (fun u _ => u = v) w') → ∀ w', S w' → (loadVar t a).run P w' = .ok v w' := fun v hv w' hw' => by
    have := hv w' hw'
    rw [← hs] at this
    obtain ⟨u, h1, h2⟩ := ld_ok this
    rw [← h2]; exact h1
  cases s with
  | int k => obtain ⟨n, hc, hk⟩ := h; exact ⟨_, tr _ fun w' hw' => ⟨n, hc w' hw', rfl⟩, hk⟩
  | bool => obtain ⟨n, hc, hk⟩ := h; exact ⟨_, tr _ fun w' hw' => ⟨n, hc w' hw', rfl⟩, hk⟩
  | str => obtain ⟨n, hc, hk⟩ := h; exact ⟨_, tr _ fun w' hw' => ⟨n, hc w' hw', rfl⟩, hk⟩
  | ptr => obtain ⟨n, hc, hk⟩ := h; exact ⟨_, tr _ fun w' hw' => ⟨n, hc w' hw', rfl⟩, hk⟩
  | sl => obtain ⟨b, n, c, hc, hk⟩ := h; exact ⟨_, tr _ fun w' hw' => ⟨b, n, c, hc w' hw', rfl⟩, hk⟩
  | map => obtain ⟨n, hc, hk⟩ := h; exact ⟨_, tr _ fun w' hw' => ⟨n, hc w' hw', rfl⟩, hk⟩
  | any => obtain ⟨n, hc, hk⟩ := h; exact ⟨_, tr _ fun w' hw' => ⟨n, hc w' hw', rfl⟩, hk⟩
  | agg n => obtain ⟨cs, hl, hc, hk⟩ := h; exact ⟨_, tr _ fun w' hw' => ⟨cs, hl, hc w' hw', rfl⟩, hk⟩
  | unit => exact h.elim
  | two _ _ => exact h.elim
  | three _ _ _ => exact h.elim
theorem ld_heap {s : Sh} {a : Addr} {K : Value → PT} {w : World} (h : ld s a K w) : ∃ v, K v w ∧ ∀ w' : World, w'.heap = w.heap → ld s a (fun u _ => u = v) w' := by
  have hc : ∀ (w' : World), w'.heap = w.heap → ∀ a, w'.cell? a = w.cell? a := fun w' hw a => by simp [World.cell?, hw]
  cases s with
  | int k => obtain ⟨n, hc1, hk⟩ := h; exact ⟨_, hk, fun w' hw' => ⟨n, by rw [hc w' hw']; exact hc1, rfl⟩⟩
  | bool => obtain ⟨n, hc1, hk⟩ := h; exact ⟨_, hk, fun w' hw' => ⟨n, by rw [hc w' hw']; exact hc1, rfl⟩⟩
  | str => obtain ⟨n, hc1, hk⟩ := h; exact ⟨_, hk, fun w' hw' => ⟨n, by rw [hc w' hw']; exact hc1, rfl⟩⟩
  | ptr => obtain ⟨n, hc1, hk⟩ := h; exact ⟨_, hk, fun w' hw' => ⟨n, by rw [hc w' hw']; exact hc1, rfl⟩⟩
  | sl => obtain ⟨b, n, c, hc1, hk⟩ := h; exact ⟨_, hk, fun w' hw' => ⟨b, n, c, by rw [hc w' hw']; exact hc1, rfl⟩⟩
  | map => obtain ⟨n, hc1, hk⟩ := h; exact ⟨_, hk, fun w' hw' => ⟨n, by rw [hc w' hw']; exact hc1, rfl⟩⟩
  | any => obtain ⟨n, hc1, hk⟩ := h; exact ⟨_, hk, fun w' hw' => ⟨n, by rw [hc w' hw']; exact hc1, rfl⟩⟩
  | agg n => obtain ⟨cs, hl, hc1, hk⟩ := h; exact ⟨_, hk, fun w' hw' => ⟨cs, hl, fun j v hj => by rw [hc w' hw']; exact hc1 j v hj, rfl⟩⟩
  | unit => exact h.elim
  | two _ _ => exact h.elim
  | three _ _ _ => exact h.elim

/-- What an operation that is taken first yields, in every world that meets S. -/
theorem popH_ok {M : Option PT} {S : PT} {o : Oper} {ρ : Fr} {K : Value → PT} {w : World} (hT : ElsOk P) (hM : ∀ S', M = some S' → S = S') (hM0 : M = none → ∀ w', S w' → w'.heap = w.heap) (h : popH P M o ρ K w) :
    ∃ v, (∀ w', S w' → (execOp (ev ρ) o).run P w' = .ok (.value v) w') ∧ K v w := by
  generalize hX : popH P M o ρ K = X at h
  unfold popH at hX
  split at hX
  · subst hX
    obtain ⟨v, hv, hk⟩ := pv_ok hT h
    exact ⟨v, fun w' _ => hv w', hk⟩
  · obtain ⟨dst, op, ty, pos, after, guard⟩ := o
    split at hX
    · rename_i t x ho; cases ho
      split at hX
      · rename_i ad hx
        split at hX
        · subst hX
          obtain ⟨v, hk, hv⟩ := ld_heap h
          refine ⟨v, fun w' hw' => val_run ?_, hk⟩
          obtain ⟨u, h1, h2⟩ := ld_ok (hv w' (hM0 rfl w' hw'))
          simp [Instr.loadAt, hx, Instr.sureAddr, h1, h2]
        · rename_i S'
          subst hX
          obtain rfl := hM S' rfl
          obtain ⟨v, hv, hk⟩ := hld_ok h
          exact ⟨v, fun w' hw' => val_run (by simp [Instr.loadAt, hx, Instr.sureAddr, hv w' hw']), hk⟩
      · subst hX; exact h.elim
    · subst hX; exact h.elim

theorem allP_at {f : Nat → PT} {w : World} : ∀ {l : List Nat}, allP f l w → ∀ i ∈ l, f i w
  | [i], h, j, hj => by simp at hj; subst hj; exact h
  | i :: k :: r, h, j, hj => by
    rcases List.mem_cons.1 hj with rfl | hj
    · exact h.1
    · exact allP_at (l := k :: r) h.2 j hj

theorem panOk_putO {E : Env} {n : Nat} {a : Act} {o : Option Nat} (hd : ∀ d, o = some d → d < n ∧ E.k ≤ d) (v : Value) : PanOk E (a.put o v) ↔ PanOk E a := by
  cases o with
  | none => exact Iff.rfl
  | some d => exact panOk_put (hd d rfl).2 v
theorem defers_put (a : Act) (o : Option Nat) (v : Value) : (a.put o v).defers = a.defers := by cases o <;> rfl
/-! ### Orders: a condition that is asked behind each operation but those that wait for all others -/
theorem waitsO_ok {ops : Array Oper} {i j : Nat} (h : waitsO ops j i = true) : ∃ oj, ops[j]? = some oj ∧ ∃ e ∈ oj.after, Region.binds .any e = true ∧ e.on = i := by
  unfold waitsO at h
  split at h
  · rename_i oj hj
    obtain ⟨e, he, hb⟩ := List.any_eq_true.1 h
    simp only [Bool.and_eq_true, Nat.beq_eq] at hb
    exact ⟨oj, hj, e, Array.mem_toList_iff.1 he, hb.1, hb.2⟩
  · cases h
/-- In whatever order; behind an operation S is asked, as 'asksS' says. -/
def anyK (P : Program) (ops : Array Oper) (Q : Exit → Act → World → Prop) (S : World → Prop) : Nat → Array Bool → Act → World → Prop
  | 0, L, a, w => Region.ready .any ops L = [] ∧ Q .normal a w
  | f + 1, L, a, w => (Region.ready .any ops L = [] → Q .normal a w) ∧ ∀ i ∈ Region.ready .any ops L, wpOp P ops Q i (fun a' w' => (asksS ops i = true → S w') ∧ anyK P ops Q S f (L.setIfInBounds i true) a' w') a w
theorem anyK_any {ops : Array Oper} {Q : Exit → Act → World → Prop} {S : World → Prop} : ∀ (f : Nat) (L : Array Bool) (a : Act) (w : World), anyK P ops Q S f L a w → wpAny P .any ops Q f L a w
  | 0, _, _, _, h => h
  | f + 1, _, _, _, h => ⟨h.1, fun i hi => wpOp_mono (fun _ _ h' => anyK_any f _ _ _ h'.2) (h.2 i hi)⟩
theorem anyK_done {ops : Array Oper} {Q : Exit → Act → World → Prop} {S : World → Prop} {L : Array Bool} {a : Act} {w : World} (hr : Region.ready .any ops L = []) (h : Q .normal a w) : ∀ f, anyK P ops Q S f L a w
  | 0 => ⟨hr, h⟩
  | _ + 1 => ⟨fun _ => h, fun i hi => by rw [hr] at hi; cases hi⟩
theorem anyK_take {ops : Array Oper} {Q : Exit → Act → World → Prop} {S : World → Prop} {i : Nat} {oi : Oper} {v : Value} (hi : ops[i]? = some oi) (hs : Region.noSelect ops = true) (hQ : ∀ c a w, Q (.panic c) (a.put oi.dst v) w → Q (.panic c) a w) :
    ∀ (f : Nat) (L : Array Bool) (a : Act) (w : World),
      (∀ j oj, ops[j]? = some oj → j ≠ i → L.getD j true = false → (∀ e ∈ oj.after, Region.binds .any e = true → e.on ≠ i) → oi.apart ops oj = true) →
      i ∈ Region.ready .any ops L → YieldsIf P ops S oi v a → S w → anyK P ops Q S f (L.setIfInBounds i true) (a.put oi.dst v) w → anyK P ops Q S (f + 1) L a w := by
  have nosel := Region.noSelect_spec hs
  -- one that comes up ahead of i doesn't wait for it
  have ahead : ∀ {j : Nat} {L : Array Bool}, j ∈ Region.ready .any ops L → i ∈ Region.ready .any ops L → j ≠ i → ∃ oj, ops[j]? = some oj ∧ L.getD j true = false ∧ (∀ e ∈ oj.after, Region.binds .any e = true → e.on ≠ i) ∧ asksS ops j = true := by
    intro j L hj hir hji
    obtain ⟨hun, oj, hoj, hall⟩ := mem_ready.1 hj
    have hno : ∀ e ∈ oj.after, Region.binds .any e = true → e.on ≠ i := by
      intro e he hb heq
      have h1 := hall e he hb
      have h0 := (mem_ready.1 hir).1
      rw [heq] at h1
      by_cases hl : i < L.size
      · simp [hl] at h0 h1; rw [h0] at h1; cases h1
      · simp [Array.getElem?_eq_none (Nat.le_of_not_lt hl)] at h1
    refine ⟨oj, hoj, hun, hno, List.any_eq_true.2 ⟨i, ?_, ?_⟩⟩
    · have := (Array.getElem?_eq_some_iff.1 hi).1
      simpa using this
    · have h1 : Nat.beq i j = false := by
        cases hb : Nat.beq i j with
        | false => rfl
        | true => exact absurd (Nat.beq_eq.mp hb).symm hji
      have h2 : waitsO ops j i = false := by
        cases hw : waitsO ops j i with
        | false => rfl
        | true =>
          obtain ⟨o', ho', e, he, hb, hon⟩ := waitsO_ok hw
          rw [hoj] at ho'; cases ho'
          exact absurd hon (hno e he hb)
      rw [h1, h2]; rfl
  intro f
  induction f with
  | zero =>
    intro L a w _ hr hy hS H
    refine ⟨fun h => (by rw [h] at hr; cases hr), fun j hj => ?_⟩
    by_cases hji : j = i
    · subst hji; exact hy.wpOp hi hS ⟨fun _ => hS, H⟩
    · have hm := ready_mono hj hji
      rw [H.1] at hm; cases hm
  | succ f ih =>
    intro L a w hfree hr hy hS H
    refine ⟨fun h => (by rw [h] at hr; cases hr), fun j hj => ?_⟩
    by_cases hji : j = i
    · subst hji; exact hy.wpOp hi hS ⟨fun _ => hS, H⟩
    · obtain ⟨oj, hoj, hun, hno, hask⟩ := ahead hj hr hji
      have h2 := wpOp_putIf hoj (hfree j oj hoj hji hun hno) (fun cs b => nosel i oi cs b hi) (fun cs b => nosel j oj cs b hoj) hQ hy (H.2 j (ready_mono hj hji))
      refine wpOp_mono (fun a' w' h3 => ⟨h3.2.1, ?_⟩) h2
      refine ih (L.setIfInBounds j true) a' w' (fun k ok hk hki hk' hno' => ?_) (ready_mono hr (Ne.symm hji)) h3.1 (h3.2.1 hask) ?_
      · refine hfree k ok hk hki ?_ hno'
        by_cases hjk : j = k
        · subst hjk; exact hun
        · rw [getD_set_ne true hjk] at hk'; exact hk'
      · rw [Array.setIfInBounds_comm _ _ hji]
        exact h3.2.2
/-- Behind one that waits for all others none is left. -/
theorem ready_last {ops : Array Oper} {L : Array Bool} {j : Nat} (hj : j ∈ Region.ready .any ops L) (h : asksS ops j = false) : Region.ready .any ops (L.setIfInBounds j true) = [] := by
  obtain ⟨hun, oj, hoj, hall⟩ := mem_ready.1 hj
  cases hr : Region.ready .any ops (L.setIfInBounds j true) with
  | nil => rfl
  | cons k r =>
    exfalso
    have hk : k ∈ Region.ready .any ops (L.setIfInBounds j true) := by rw [hr]; simp
    obtain ⟨hku, ok, hok, _⟩ := mem_ready.1 hk
    by_cases hjk : j = k
    · subst hjk
      by_cases hl : j < L.size
      · simp [hl] at hku
      · simp at hku
    · rw [getD_set_ne true hjk] at hku
      have hks := (Array.getElem?_eq_some_iff.1 hok).1
      have hw := (List.any_eq_false.1 h) k (by simpa using hks)
      have h1 : Nat.beq k j = false := by
        cases hb : Nat.beq k j with
        | false => rfl
        | true => exact absurd (Nat.beq_eq.mp hb).symm hjk
      rw [h1] at hw
      simp only [Bool.not_false, Bool.true_and, Bool.not_eq_true', Bool.not_eq_false] at hw
      obtain ⟨o', ho', e, he, hb, hon⟩ := waitsO_ok hw
      rw [hoj] at ho'; cases ho'
      have h2 := hall e he hb
      rw [hon] at h2
      by_cases hl : k < L.size
      · simp [hl] at hku h2; rw [hku] at h2; cases h2
      · simp [Array.getElem?_eq_none (Nat.le_of_not_lt hl)] at h2
theorem compH_ok {E : Env} {n : Nat} {Z : List PanicEntry → PT} {ops : Array Oper} {K : Fr → PT} {Q : Exit → Act → World → Prop} {M : Option PT} {S : PT} (hN : NamesOk P) (hT : ElsOk P) (hQ : ∀ c (a : Act) w, Q (.panic c) a w ↔ PanOk E a ∧ Z c w) (hd : opsOk n ops.toList = true ∧ opsAb E.k ops.toList = true) (hsel : Region.noSelect ops = true)
    (hM : ∀ S', M = some S' → S = S') (h0 : World) (hM0 : M = none → ∀ w', S w' → w'.heap = h0.heap)
    (hK : ∀ ρ a w, Rel E n a ρ → K ρ w → Q .normal a w) : ∀ (fuel : Nat) (listed : Array Bool) (ρ : Fr) (a : Act) (w : World), Rel E n a ρ → (Region.ready .any ops listed ≠ [] → S w) → (M = none → w = h0) → compH P Z ops M K fuel listed ρ w → anyK P ops Q S fuel listed a w := by
  have hQ' : QOk E Z Q := fun c a w hd h => (hQ c a w).2 ⟨hd, h⟩
  intro fuel
  induction fuel with
  | zero =>
    intro listed ρ a w hr hS hw h
    generalize hX : compH P Z ops M K 0 listed ρ = X at h
    unfold compH at hX
    split at hX
    · rename_i hrd; subst hX; exact anyK_done hrd (hK _ _ _ hr h) 0
    · subst hX; exact h.elim
  | succ fuel ih =>
    intro listed ρ a w hr hS hw h
    generalize hX : compH P Z ops M K (fuel + 1) listed ρ = X at h
    unfold compH at hX
    split at hX
    · rename_i hrd; subst hX; exact anyK_done hrd (hK _ _ _ hr h) _
    · rename_i i0 rs hrd
      replace hS : S w := hS (by rw [hrd]; simp)
      split at hX
      · rename_i i hf
        have hmem : i ∈ Region.ready .any ops listed := by rw [hrd]; exact List.mem_of_find?_eq_some hf
        have hmay : mayTake P ops listed ρ i = true := List.find?_some hf
        simp only [mayTake, Bool.and_eq_true] at hmay
        generalize hX2 : takeH P ops M (compH P Z ops M K fuel) listed ρ i = X2 at hX
        unfold takeH at hX2
        split at hX2
        · rename_i o ho
          subst hX2; subst hX
          have hdo := opsOk_at hd (o := o) (List.mem_of_getElem? (by simpa using ho))
          rcases guarded_ok hr hd h with ⟨hwt, hx⟩ | ⟨hwt, hx⟩
          · obtain ⟨v, hv, hk⟩ := popH_ok hT hM (fun e w' hw' => by rw [hM0 e w' hw', hw e]) hx
            refine anyK_take (v := v) ho hsel (fun c a w hq => (hQ c _ w).2 (by have := (hQ c _ w).1 hq; exact ⟨(panOk_putO hdo _).1 this.1, this.2⟩)) _ _ _ _ (Region.free_spec ho hmay.2) hmem (.inl ⟨hwt, fun w' hw' => by rw [hr.eval]; exact hv w' hw'⟩) hS ?_
            exact ih _ _ _ _ (hr.putO _ hdo v) (fun _ => hS) hw hk
          · refine anyK_take (v := undef) ho hsel (fun c a w hq => (hQ c _ w).2 (by have := (hQ c _ w).1 hq; exact ⟨(panOk_putO hdo _).1 this.1, this.2⟩)) _ _ _ _ (Region.free_spec ho hmay.2) hmem (.inr ⟨hwt, rfl⟩) hS ?_
            exact ih _ _ _ _ (hr.putO _ hdo undef) (fun _ => hS) hw hx
        · subst hX2; subst hX; exact h.elim
      · cases M with
        | none => subst hX; exact h.elim
        | some S' =>
          obtain rfl := hM S' rfl
          subst hX
          refine ⟨fun h0 => (by rw [hrd] at h0; cases h0), fun i hi' => ?_⟩
          have hi : i ∈ i0 :: rs := by rw [← hrd]; exact hi'
          have h1 := allP_at h i hi
          generalize hX1 : effH P Z ops S (compH P Z ops (some S) K fuel) listed ρ i = X1 at h1
          unfold effH at hX1
          split at hX1
          · rename_i o ho
            subst hX1
            have hdo := opsOk_at hd (o := o) (List.mem_of_getElem? (by simpa using ho))
            unfold wpOp
            simp only [ho]
            rcases guarded_ok hr hd h1 with ⟨hwt, hx⟩ | ⟨hwt, hx⟩
            · rw [if_pos hwt]
              refine .inl (cop_ok hN hT hr hQ' (fun v w' hv => ?_) hx)
              cases hask : asksS ops i with
              | true =>
                rw [hask] at hv
                exact ⟨fun _ => hv.1, ih _ _ _ _ (hr.putO _ hdo v) (fun _ => hv.1) (fun e => by cases e) hv.2⟩
              | false =>
                rw [hask] at hv
                exact ⟨fun e => (by cases e), ih _ _ _ _ (hr.putO _ hdo v) (fun hne => absurd (ready_last hi' hask) hne) (fun e => by cases e) hv⟩
            · rw [if_neg (by simp [hwt])]
              exact ⟨fun _ => hS, ih _ _ _ _ (hr.putO _ hdo undef) (fun _ => hS) (fun e => by cases e) hx⟩
          · subst hX1; exact h1.elim

/-! ### Code -/
/-- The conditions at the ends, over frames as the model has them. -/
def conv (E : Env) (n : Nat) (Z : List PanicEntry → PT) (Q : QF) : Exit → Act → World → Prop := fun e a w => match e with
  | .panic c => PanOk E a ∧ Z c w
  | .outgrown => False
  | e => ∃ ρ, Rel E n a ρ ∧ Q e ρ w
theorem conv_normal {E : Env} {n : Nat} {Z : List PanicEntry → PT} {Q : QF} {a : Act} {w : World} {ρ : Fr} (hr : Rel E n a ρ) (h : Q .normal ρ w) : conv E n Z Q .normal a w := ⟨ρ, hr, h⟩

/-- A piece of code comes to Q from J. -/
def Ok (P : Program) (n : Nat) (Z : List PanicEntry → PT) (c : Code) (Q : QF) (J : Fr → PT) : Prop := ∀ (E : Env) (_ : codeAb E.k c = true) ρ w a, Rel E n a ρ → J ρ w → c.wp P (conv E n Z Q) a w

theorem Ok.imp {n : Nat} {Z : List PanicEntry → PT} {c : Code} {Q : QF} {J J' : Fr → PT} (h : Ok P n Z c Q J) (hj : ∀ ρ w, J' ρ w → J ρ w) : Ok P n Z c Q J' := fun E he ρ w a hr h' => h E he ρ w a hr (hj _ _ h')

theorem ok_seq {n : Nat} {Z : List PanicEntry → PT} {x y : Code} {Q : QF} {J J2 : Fr → PT} (h1 : Ok P n Z x (thenK J2 Q) J) (h2 : Ok P n Z y Q J2) : Ok P n Z (.seq x y) Q J := by
  intro E he ρ w a hr h
  simp only [codeAb, Bool.and_eq_true] at he
  refine wp_seq (wp_mono (h1 E he.1 ρ w a hr h) fun e a' w' hq => ?_)
  cases e with
  | normal => obtain ⟨ρ', hr', h'⟩ := hq; exact h2 E he.2 ρ' w' a' hr' h'
  | _ => exact hq
theorem ok_block {n : Nat} {Z : List PanicEntry → PT} {c : Code} {id : Nat} {Q : QF} {J : Fr → PT} (h1 : Ok P n Z c (inBl id Q) J) : Ok P n Z (.block id c) Q J := by
  intro E he ρ w a hr h
  refine wp_block (wp_mono (h1 E he ρ w a hr h) fun e a' w' hq => ?_)
  cases e with
  | exit i =>
    obtain ⟨ρ', hr', h'⟩ := hq
    simp only [inBl, nbeq] at h'
    simp only [Exit.inBlock]
    by_cases e : i = id
    · simp only [e, decide_true, cond_true] at h'
      rw [if_pos e]; exact ⟨ρ', hr', h'⟩
    · simp only [e, decide_false, cond_false] at h'
      rw [if_neg e]; exact ⟨ρ', hr', h'⟩
  | _ => exact hq
/-- A test, each way for itself. -/
def condJ (c : Operand) (X Y : Fr → PT) : Fr → PT := fun ρ => match ev ρ c with | .bool t => pif t (X ρ) (Y ρ) | _ => bad
theorem ok_cond {n : Nat} {Z : List PanicEntry → PT} {c : Operand} {x y : Code} {Q : QF} {X Y : Fr → PT} (h1 : Ok P n Z x Q X) (h2 : Ok P n Z y Q Y) : Ok P n Z (.cond c x y) Q (condJ c X Y) := by
  intro E he ρ w a hr h
  simp only [codeAb, Bool.and_eq_true] at he
  generalize hX : condJ c X Y ρ = B at h
  unfold condJ at hX
  split at hX
  · rename_i t ht
    cases t
    · subst hX; exact wp_cond (t := false) (by rw [hr.eval]; exact ht) (h2 _ he.2 _ _ _ hr h)
    · subst hX; exact wp_cond (t := true) (by rw [hr.eval]; exact ht) (h1 _ he.1 _ _ _ hr h)
  · subst hX; exact h.elim
theorem ok_loop {n : Nat} {Z : List PanicEntry → PT} {c : Code} {Q : QF} {J : Nat → Fr → PT} (h0 : ∀ ρ w, ¬ J 0 ρ w) (h : ∀ k, Ok P n Z c (thenK (J k) Q) (J (k + 1))) : Ok P n Z (.loop c) Q (fun ρ w => ∃ k, J k ρ w) := by
  rintro E he ρ w a hr ⟨k, hk⟩
  refine wp_loop_rounds k ?_
  induction k generalizing ρ w a with
  | zero => exact absurd hk (h0 ρ w)
  | succ k ih =>
    rw [rounds_succ]
    refine wp_mono (h k E he ρ w a hr hk) fun e a' w' hq => ?_
    cases e with
    | normal => obtain ⟨ρ', hr', h'⟩ := hq; exact ih ρ' w' a' hr' h'
    | _ => exact hq

theorem ok_scope {n : Nat} {Z : List PanicEntry → PT} {c : Code} {Q : QF} {J : Fr → PT} (h1 : Ok P n Z c (noG Q) J) : Ok P n Z (.scope c) Q J := by
  intro E he ρ w a hr h
  refine wp_scope_straight (wp_mono (h1 E he ρ w a hr h) fun e a' w' hq => ?_)
  cases e with
  | goto l => obtain ⟨ρ', hr', h'⟩ := hq; exact h'.elim
  | _ => exact hq
theorem ok_comp {n : Nat} {Z : List PanicEntry → PT} (hN : NamesOk P) (hT : ElsOk P) (hmix : P.follows .mixedOrders = true) : ∀ (c : Code) (Q : QF), codeOk n c = true → Ok P n Z c Q (comp P Z c Q)
  | .skip, Q, _ => fun E he ρ w a hr h => wp_skip ⟨ρ, hr, h⟩
  | .region id ops false, Q, hc => fun E he ρ w a hr h => wp_region_list (cops_ok hN hT (fun c a w hd h => ⟨hd, h⟩) ⟨hc, he⟩ (fun ρ a w hr h => ⟨ρ, hr, h⟩) ops.toList (fun _ h => h) ρ a w hr h)
  | .region id ops true, Q, hc => fun E he ρ w a hr h => by
    generalize hX : comp P Z (.region id ops true) Q ρ = X at h
    unfold comp at hX
    split at hX
    · rename_i hsel
      split at hX
      · subst hX
        refine wp_region_any hmix (anyK_any (S := fun w' => w'.heap = w.drew.heap) _ _ _ _ ?_)
        exact compH_ok hN hT (Q := conv E n Z Q) (fun c a w => Iff.rfl) ⟨hc, he⟩ hsel (by intro S' e; cases e) w.drew (fun _ w' h => h) (fun ρ a w hr h => ⟨ρ, hr, h⟩) _ _ ρ a w.drew hr (fun _ => rfl) (fun _ => rfl) h
      · subst hX
        obtain ⟨S, hS, hk⟩ := h
        refine wp_region_any hmix (anyK_any (S := S) _ _ _ _ ?_)
        exact compH_ok hN hT (Q := conv E n Z Q) (M := some S) (fun c a w => Iff.rfl) ⟨hc, he⟩ hsel (by intro S' e; cases e; rfl) w.drew (by intro e; cases e) (fun ρ a w hr h => ⟨ρ, hr, h⟩) _ _ ρ a w.drew hr (fun _ => hS) (by intro e; cases e) hk
    · subst hX; exact h.elim
  | .seq x y, Q, hc => by
    simp only [codeOk, Bool.and_eq_true] at hc
    exact ok_seq (ok_comp hN hT hmix x _ hc.1) (ok_comp hN hT hmix y Q hc.2)
  | .cond c x y, Q, hc => by
    simp only [codeOk, Bool.and_eq_true] at hc
    exact ok_cond (ok_comp hN hT hmix x Q hc.1) (ok_comp hN hT hmix y Q hc.2)
  | .block id c, Q, hc => ok_block (ok_comp hN hT hmix c _ hc)
  | .exit id, Q, _ => fun E he ρ w a hr h => wp_exit ⟨ρ, hr, h⟩
  | .ret, Q, _ => fun E he ρ w a hr h => wp_ret ⟨ρ, hr, h⟩
  | .loop _, _, _ => fun _ _ _ _ _ _ h => h.elim
  | .rangeFunc _ _ _ _, _, _ => fun _ _ _ _ _ _ h => h.elim
  | .scope c, Q, hc => ok_scope (ok_comp hN hT hmix c _ hc)
  | .label _, Q, _ => fun E he ρ w a hr h => wp_label ⟨ρ, hr, h⟩
  | .goto _, _, _ => fun _ _ _ _ _ _ h => h.elim
  | .refuse _, _, _ => fun _ _ _ _ _ _ h => h.elim

def resM (tmps : Array Value) (r : ResultVar) : Sem Value := match r with
  | .tmp t => pure (tmps.getD t undef)
  | .cell a t => do loadVar t (← asAddr (tmps.getD a undef))
theorem res1_ok {r : ResultVar} {E : Env} {n : Nat} {a : Act} {ρ : Fr} {R : Value → PT} {w : World} (hr : Rel E n a ρ) (h : res1 P r ρ R w) : ∃ v, (resM a.tmps r).run P w = .ok v w ∧ R v w := by
  cases r with
  | tmp t => exact ⟨_, rfl, by rw [hr.2.2]; exact h⟩
  | cell t ty =>
    generalize hX : res1 P (.cell t ty) ρ R = X at h
    unfold res1 at hX
    simp only at hX
    split at hX
    · rename_i ad hp
      subst hX
      obtain ⟨v, h1, h2⟩ := ld_ok h
      refine ⟨v, ?_, h2⟩
      unfold resM
      simp only [hr.2.2, hp, asAddr, Sem.run_bind, Sem.run_pure, Result.andThen_ok, h1]
    · subst hX; exact h.elim
theorem resL_ok {E : Env} {n : Nat} {a : Act} {ρ : Fr} {w : World} (hr : Rel E n a ρ) : ∀ (l : List ResultVar) (R : List Value → PT), resL P l ρ R w → ∃ vs, (l.mapM (resM a.tmps)).run P w = .ok vs w ∧ vs.length = l.length ∧ R vs w
  | [], R, h => ⟨[], rfl, rfl, h⟩
  | r :: l, R, h => by
    obtain ⟨v, h1, h2⟩ := res1_ok hr h
    obtain ⟨vs, h3, h4, h5⟩ := resL_ok hr l _ h2
    exact ⟨v :: vs, by simp only [List.mapM_cons, Sem.run_bind, h1, h3, Result.andThen_ok, Sem.run_pure], by simp [h4], h5⟩
theorem results_ok {fn : Func} {rs : List ResultVar} {E : Env} {n : Nat} {a : Act} {ρ : Fr} {R : Value → PT} {w : World} (hrs : fn.results = ⟨rs⟩) (hr : Rel E n a ρ) (h : retV P rs ρ R w) : ∃ v, (results fn a.tmps).run P w = .ok v w ∧ R v w := by
  have key : ∀ vs, (rs.mapM (resM a.tmps)).run P w = .ok vs w → (results fn a.tmps).run P w = .ok (if h : vs.toArray.size = 1 then vs.toArray[0] else .tuple vs.toArray) w := fun vs hv => by
    unfold results
    rw [hrs, Array.mapM_eq_mapM_toList]
    have e : (fun x : ResultVar => (match x with
      | .tmp t => pure (a.tmps.getD t undef)
      | .cell a1 t => do loadVar t (← asAddr (a.tmps.getD a1 undef)) : Sem Value)) = resM a.tmps := by
      funext x; cases x <;> rfl
    simp only [Sem.run_bind, Sem.run_map]
    have e2 : (rs.mapM (fun x : ResultVar => (match x with
      | .tmp t => pure (a.tmps.getD t undef)
      | .cell a1 t => do loadVar t (← asAddr (a.tmps.getD a1 undef)) : Sem Value))) = rs.mapM (resM a.tmps) := by rw [e]
    have hv2 := hv
    rw [← e2] at hv2
    erw [hv2]
    rfl
  clear hrs
  match rs, h, key with
  | [], h, key => exact ⟨_, key [] rfl, h⟩
  | [r], h, key =>
    obtain ⟨v, h1, h2⟩ := res1_ok hr h
    exact ⟨v, key [v] (by simp only [List.mapM_cons, List.mapM_nil, Sem.run_bind, h1, Result.andThen_ok, Sem.run_pure]), h2⟩
  | r :: r2 :: l, h, key =>
    obtain ⟨vs, h1, h2, h3⟩ := resL_ok hr (r :: r2 :: l) (fun vs => R (.tuple ⟨vs⟩)) h
    refine ⟨_, key vs h1, ?_⟩
    rw [dif_neg (by simp [h2])]
    exact h3
/-- **A call comes to what its body's code comes to.** -/
theorem calls_of_ok {f : FuncId} {fn : Func} {c : Code} {Z : List PanicEntry → PT} {args : List Value} {R : Value → PT} {J : Fr → PT} {w : World} {rs : List ResultVar} (hf : P.funcs[f]? = some fn) (hb : fn.body = some c) (hrs : fn.results = ⟨rs⟩) (hlen : args.length ≤ fn.ntmps)
    (h : Ok P fn.ntmps Z c (bodyQ P rs R) J) (hJ : J (fr0 args) w) : Calls P f ⟨args⟩ w fun e w' => match e with | .returned v => R v w' | .panicked c => Z c w' | _ => False := by
  have h0 : Rel Env.none fn.ntmps { tmps := (⟨args⟩ : Array Value) ++ Array.replicate (fn.ntmps - (⟨args⟩ : Array Value).size) undef, defers := [] } (fr0 args) := by
    refine ⟨by simp; omega, ⟨rfl, fun t ht => absurd ht (Nat.not_lt_zero t)⟩, fun t => ?_⟩
    simp only [fr0, Array.getD_eq_getD_getElem?, List.getD_eq_getElem?_getD]
    by_cases ht : t < args.length
    · simp [Array.getElem?_append, ht]
    · rw [Array.getElem?_append_right (by simp; omega)]
      simp only [Array.getElem?_replicate]
      rw [List.getElem?_eq_none (by omega)]
      split <;> rfl
  refine calls_of_wp hf hb (wp_mono (h _ (codeAb_zero _) _ w _ h0 hJ) fun e a' w' hq => ?_)
  have fin : ∀ ρ, Rel Env.none fn.ntmps a' ρ → retV P rs ρ R w' → ∃ v, (results fn a'.tmps).run P w' = .ok v w' ∧ R v w' := fun ρ hr h => results_ok hrs hr h
  cases e with
  | normal => obtain ⟨ρ, hr, h'⟩ := hq; obtain ⟨v, hv, hR⟩ := fin ρ hr h'; exact ⟨hr.2.1.1, v, hv, hR⟩
  | ret => obtain ⟨ρ, hr, h'⟩ := hq; obtain ⟨v, hv, hR⟩ := fin ρ hr h'; exact ⟨hr.2.1.1, v, hv, hR⟩
  | exit i => obtain ⟨ρ, hr, h'⟩ := hq; exact h'.elim
  | goto l => obtain ⟨ρ, hr, h'⟩ := hq; exact h'.elim
  | panic ch => exact ⟨hq.1.1, hq.2⟩
  | outgrown => exact hq.elim
end
end Go.Proofs.YtllgjjldnnmjkaaDoor
