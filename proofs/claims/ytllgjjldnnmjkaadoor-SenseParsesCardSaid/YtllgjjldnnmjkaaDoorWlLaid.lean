/-
  Package-level variables that hold plain data: from a row's condition to their cells. No condition.
-/
import Derived.Test.YtllgjjldnnmjkaaDoorWlSep
import Derived.Lib.LaidTab
import Derived.Lib.LaidU8
set_option linter.unusedVariables false
set_option maxRecDepth 100000
namespace Go.Proofs.YtllgjjldnnmjkaaDoor
open Go.RowKit Go.Lib

/-- A variable's cells. -/
def VarIs (g : Nat) (cs : List Value) (w : World) : Prop := ∃ e z, w.heap[g]? = some (.cells ⟨cs⟩ e z)
section
variable {g : Nat} {cs : List Value} {w w' : World}
theorem VarIs.lt (h : VarIs g cs w) : g < w.heap.size := by obtain ⟨e, z, h⟩ := h; exact (Array.getElem?_eq_some_iff.1 h).1
theorem VarIs.keep {S : Nat → Prop} (h : VarIs g cs w) (k : Keep S w w') (hs : ¬ S g) : VarIs g cs w' := by
  have := h.lt
  obtain ⟨e, z, h⟩ := h
  exact ⟨e, z, (k.block g this hs).trans h⟩
theorem VarIs.ext (h : VarIs g cs w) (k : Ext w w') : VarIs g cs w' := h.keep k fun g => g
theorem VarIs.cell (h : VarIs g cs w) (i : Nat) : w.cell? ⟨g, i, none⟩ = cs[i]? := by
  obtain ⟨e, z, h⟩ := h
  simp [World.cell?, h]
theorem VarIs.tab {n : String} {k : IntKind} {zs : List Int} (hg : Tryd.prog.globalNamed n = some g) (h : VarIs g (zs.map fun z => Value.int k z) w) : TabIs Tryd.prog w n k zs := by
  obtain ⟨e, z, h⟩ := h
  simp [TabIs, World.var?, hg, h]
theorem VarIs.of_var {n : String} {a : Array Value} (hg : Tryd.prog.globalNamed n = some g) (h : w.var? Tryd.prog n = some a) : VarIs g a.toList w := by
  simp only [World.var?, hg, Option.bind_some] at h
  split at h
  · rename_i cs e z hh
    cases h
    exact ⟨e, z, hh⟩
  · cases h
end
/-- A table of ints. -/
theorem varIs_tab {w : World} {l : List (String × DataW Unit)} {n : String} {k : IntKind} {zs : List Int} {g : Nat} {t e : TypeId} {m : Nat} (h : laidMet Tryd.prog l w) (hm : (n, (tabData k zs : DataW Unit)) ∈ l)
    (hg : Tryd.prog.globalNamed n = some g) (hty : (Tryd.prog.globals[g]?).map (·.type) = some t) (ht : Tryd.prog.underlying t = some (.array m e)) (he : Tryd.prog.underlying e = some (.int k)) (hce : Tryd.prog.cellsOf e = 1) (hct : Tryd.prog.cellsOf t = m) : VarIs g (zs.map fun z => Value.int k z) w := by
  obtain ⟨g', t', cs, fuel, p, h1, h2, h3, h4⟩ := laidMet.reads h hm
  obtain rfl := Option.some.inj (hg.symm.trans h1)
  obtain rfl := Option.some.inj (hty.symm.trans h2)
  have := cells_of_tab ht he hce hct h4
  rw [← this]
  exact VarIs.of_var hg h3
/-- A table of pairs of ints. -/
def pairData (zs : List (Int × Int)) : DataW Unit := .agg (zs.map fun z => .agg [.lit (.int .i64 z.1), .lit (.int .i64 z.2)])
def pairCells : List (Int × Int) → List Value
  | [] => []
  | z :: r => .int .i64 z.1 :: .int .i64 z.2 :: pairCells r
theorem pairCells_at : ∀ {zs : List (Int × Int)} {i : Nat} {z : Int × Int}, zs[i]? = some z → (pairCells zs)[2 * i]? = some (.int .i64 z.1) ∧ (pairCells zs)[2 * i + 1]? = some (.int .i64 z.2)
  | [], i, z, h => by simp at h
  | x :: r, 0, z, h => by simp at h; subst h; simp [pairCells]
  | x :: r, i + 1, z, h => by
    have := pairCells_at (zs := r) (i := i) (z := z) (by simpa using h)
    simpa [pairCells, show 2 * (i + 1) = 2 * i + 2 by omega, show 2 * (i + 1) + 1 = 2 * i + 1 + 2 by omega] using this
theorem pairCells_len : ∀ zs : List (Int × Int), (pairCells zs).length = 2 * zs.length
  | [] => rfl
  | x :: r => by simp [pairCells, pairCells_len r]; omega
theorem varIs_pairs {w : World} {l : List (String × DataW Unit)} {n : String} {zs : List (Int × Int)} {g : Nat} {t e i : TypeId} {m : Nat} {f1 f2 : Field} (h : laidMet Tryd.prog l w) (hm : (n, pairData zs) ∈ l)
    (hg : Tryd.prog.globalNamed n = some g) (hty : (Tryd.prog.globals[g]?).map (·.type) = some t) (ht : Tryd.prog.underlying t = some (.array m e)) (he : Tryd.prog.underlying e = some (.struct #[f1, f2])) (hi : Tryd.prog.underlying i = some (.int .i64)) (hf : f1.type = i ∧ f2.type = i ∧ f1.offset = 0 ∧ f2.offset = 1) (hci : Tryd.prog.cellsOf i = 1) (hce : Tryd.prog.cellsOf e = 2) (hct : Tryd.prog.cellsOf t = m * 2) : VarIs g (pairCells zs) w := by
  obtain ⟨g', t', cs, fuel, p, h1, h2, h3, h4⟩ := laidMet.reads h hm
  obtain rfl := Option.some.inj (hg.symm.trans h1)
  obtain rfl := Option.some.inj (hty.symm.trans h2)
  obtain ⟨e1, e2, e3, e4⟩ := hf
  have key : cs.toList = pairCells zs := by
    cases fuel with
    | zero => simp [DataW.trod] at h4
    | succ fuel =>
      simp only [DataW.trod, ht, hce, hct] at h4
      split at h4
      · rename_i hl
        obtain ⟨xs, hxm, hx⟩ := Option.map_eq_some_iff.1 h4
        have hxs : xs.map (·.1) = zs.map fun z => (DataW.agg [.lit (.int .i64 z.1), .lit (.int .i64 z.2)] : DataW Unit) := by
          have := congrArg Prod.fst hx
          simpa [pairData] using this
        have hxl : xs.length = m := by simpa using mapM_length hxm
        have hzl : zs.length = m := by
          have := congrArg List.length hxs
          simp at this
          omega
        have hat : ∀ j z, zs[j]? = some z → cs.toList[2 * j]? = some (.int .i64 z.1) ∧ cs.toList[2 * j + 1]? = some (.int .i64 z.2) := fun j z hz => by
          have hj : j < m := by rw [← hzl]; exact (List.getElem?_eq_some_iff.1 hz).1
          obtain ⟨b, hb, hfj⟩ := mapM_at hxm j j (by simp [hj])
          have hbz : b.1 = DataW.agg [.lit (.int .i64 z.1), .lit (.int .i64 z.2)] := by
            have : (xs.map (·.1))[j]? = some b.1 := by simp [hb]
            rw [hxs, List.getElem?_map, hz] at this
            simpa using this.symm
          cases fuel with
          | zero => simp [DataW.trod] at hfj
          | succ fuel =>
            simp only [DataW.trod, he, hce] at hfj
            split at hfj
            · rename_i hl2
              simp only [List.mapM_cons, List.mapM_nil, e1, e2, e3, e4, hci, Option.bind_eq_bind, Option.pure_def, Option.map_eq_some_iff, Option.bind_eq_some_iff, Option.some.injEq] at hfj
              obtain ⟨ys, ⟨y1, hy1, ys', ⟨y2, hy2, ys'', hn, rfl⟩, rfl⟩, hb2⟩ := hfj
              subst hn
              rw [← hb2] at hbz
              simp only [List.map_cons, List.map_nil, DataW.agg.injEq, List.cons.injEq, and_true] at hbz
              obtain ⟨z1, c1, d1, _⟩ := DataW.trod_int hi hy1
              obtain ⟨z2, c2, d2, _⟩ := DataW.trod_int hi hy2
              rw [d1, d2] at hbz
              simp only [DataW.lit.injEq, Lit.int.injEq, true_and] at hbz
              obtain ⟨rfl, rfl⟩ := hbz
              have t1 := congrArg (·[0]?) c1
              have t2 := congrArg (·[0]?) c2
              simp [List.getElem?_take, List.getElem?_drop] at t1 t2
              rw [Nat.mul_comm 2 j]
              exact ⟨by simpa using t1, by simpa using t2⟩
            · cases hfj
        apply List.ext_getElem?
        intro j
        by_cases hj : j < 2 * m
        · have hz := List.getElem?_eq_getElem (show j / 2 < zs.length by omega)
          have a := hat (j / 2) _ hz
          have b := pairCells_at hz
          rcases Nat.mod_two_eq_zero_or_one j with hr | hr
          · rw [show 2 * (j / 2) = j by omega] at a b
            rw [a.1, b.1]
          · rw [show 2 * (j / 2) + 1 = j by omega] at a b
            rw [a.2, b.2]
        · rw [List.getElem?_eq_none (by omega), List.getElem?_eq_none (by rw [pairCells_len]; omega)]
      · cases h4
  rw [← key]
  exact VarIs.of_var hg h3
/-- What a law's walk is to show where variables are laid. -/
def WalkedL (laid : List (String × DataW Unit)) (f : FuncId) (ts : List TypeId) : Prop := ∀ (vs : List Value) (W : World), vs.length = ts.length → (∀ (j : Nat) t v, ts[j]? = some t → vs[j]? = some v → Arg W t v) → laidMet Tryd.prog laid W →
  Calls Tryd.prog f ⟨vs⟩ W fun e w' => e = .returned (.bool true) ∧ Below W.heap.size W w'
end Go.Proofs.YtllgjjldnnmjkaaDoor
