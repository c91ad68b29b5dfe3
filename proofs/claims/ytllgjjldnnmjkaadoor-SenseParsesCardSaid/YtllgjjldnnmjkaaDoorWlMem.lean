/-
  Small laws for proofs over the reading: tests, blocks, what is kept. No condition.
-/
import Derived.Test.YtllgjjldnnmjkaaDoorWlFacts
set_option maxRecDepth 100000
namespace Go.Proofs.YtllgjjldnnmjkaaDoor
open Go.RowKit

section tests
variable {X Y : PT} {w : World}
theorem pif_true : pif true X Y = X := rfl
theorem pif_false : pif false X Y = Y := rfl
theorem pif_not {b : Bool} : pif (!b) X Y = pif b Y X := by cases b <;> rfl
theorem pif_dec {c : Prop} [Decidable c] : pif (decide c) X Y w = if c then X w else Y w := by
  by_cases h : c <;> simp [h, pif]
theorem pif_beq {a b : Int} : pif (a == b) X Y w = if a = b then X w else Y w := by
  by_cases h : a = b
  · simp [h, pif]
  · rw [if_neg h, beq_eq_false_iff_ne.2 h]; rfl
theorem pif_bne {a b : Int} : pif (a != b) X Y w = if a = b then Y w else X w := by
  by_cases h : a = b
  · simp [h, pif]
  · rw [if_neg h, bne_iff_ne.2 h]; rfl
theorem pif_bool {b : Bool} : pif b X Y w = if b = true then X w else Y w := by cases b <;> rfl
theorem nn_some {a : Addr} {K : Addr → PT} : nn (some a) K = K a := rfl
theorem isNone_some {a : Addr} : isNone (some a) = false := rfl
theorem isNone_none : isNone none = true := rfl
theorem cnd_iff {c : Prop} {K : PT} : cnd c K w = (c ∧ K w) := rfl
theorem add_mk (b o n : Nat) : (⟨b, o, none⟩ : Addr).add n = ⟨b, o + n, none⟩ := by
  unfold Addr.add; split <;> simp_all
end tests

theorem wrap_in {n : Int} (h1 : -9223372036854775808 ≤ n) (h2 : n ≤ 9223372036854775807) : IntKind.wrap .i64 n = n := IntWalk.i64_in n ⟨h1, h2⟩

/-- Of what was there nothing has turned, but in the blocks of S. -/
structure Keep (S : Nat → Prop) (w w' : World) : Prop where
  os : w'.os = w.os
  tape : w'.tape = w.tape
  output : w'.output = w.output
  size : w.heap.size ≤ w'.heap.size
  block : ∀ k, k < w.heap.size → ¬ S k → w'.heap[k]? = w.heap[k]?
theorem Keep.refl {S : Nat → Prop} {w : World} : Keep S w w := ⟨rfl, rfl, rfl, Nat.le_refl _, fun _ _ _ => rfl⟩
theorem Keep.trans {S : Nat → Prop} {a b c : World} (h : Keep S a b) (k : Keep S b c) : Keep S a c :=
  ⟨k.os.trans h.os, k.tape.trans h.tape, k.output.trans h.output, Nat.le_trans h.size k.size, fun i hi hs => (k.block i (Nat.lt_of_lt_of_le hi h.size) hs).trans (h.block i hi hs)⟩
theorem Keep.mono {S T : Nat → Prop} {a b : World} (h : Keep S a b) (hs : ∀ k, k < a.heap.size → S k → T k) : Keep T a b :=
  ⟨h.os, h.tape, h.output, h.size, fun i hi ht => h.block i hi fun g => ht (hs i hi g)⟩
theorem Keep.drew {S : Nat → Prop} {a b : World} (h : Keep S a b) : Keep S a b.drew := ⟨h.os, h.tape, h.output, h.size, h.block⟩
theorem Keep.alloc {S : Nat → Prop} {a b : World} (h : Keep S a b) (o : Obj) : Keep S a (b.alloc o) :=
  h.trans ⟨rfl, rfl, rfl, by simp, fun k hk _ => Below.heap_alloc _ _ _ hk⟩
theorem Keep.setCell {S : Nat → Prop} {a b : World} (h : Keep S a b) {p : Addr} (hp : S p.block ∨ a.heap.size ≤ p.block) (v : Value) : Keep S a (b.setCell p v) :=
  ⟨h.os, h.tape, h.output, by simpa using h.size, fun k hk hs => by
    rw [Below.heap_setCell _ _ _ _ (by rintro rfl; rcases hp with hp | hp; exact hs hp; omega)]
    exact h.block k hk hs⟩
/-- What comes behind new blocks were laid may write into them. -/
theorem Keep.trans_new {S T : Nat → Prop} {a b c : World} (h : Keep S a b) (k : Keep T b c) (hs : ∀ i, i < a.heap.size → T i → S i) : Keep S a c :=
  ⟨k.os.trans h.os, k.tape.trans h.tape, k.output.trans h.output, Nat.le_trans h.size k.size, fun i hi hn => (k.block i (Nat.lt_of_lt_of_le hi h.size) fun g => hn (hs i hi g)).trans (h.block i hi hn)⟩
theorem Keep.below {S : Nat → Prop} {w w' : World} (h : Keep S w w') {B : Nat} (hB : B ≤ w.heap.size) (hs : ∀ k, k < B → ¬ S k) : Below B w w' :=
  ⟨h.os, h.tape, h.output, h.size, fun k hk => h.block k (Nat.lt_of_lt_of_le hk hB) (hs k hk)⟩
/-- Nothing that was there has turned. -/
abbrev Ext (w w' : World) : Prop := Keep (fun _ => False) w w'
theorem Keep.ext {S : Nat → Prop} {w w' : World} (h : Ext w w') : Keep S w w' := h.mono fun _ _ g => g.elim
theorem Ext.below {w w' : World} (h : Ext w w') : Below w.heap.size w w' := Keep.below h (Nat.le_refl _) fun _ _ g => g

/-- A block's cells. -/
def IsB (w : World) (b : Nat) (cs : List Value) : Prop := ∃ e, w.heap[b]? = some (.cells ⟨cs⟩ e (0, 0))
section blocks
variable {w w' : World} {b : Nat} {cs : List Value}
theorem IsB.lt (h : IsB w b cs) : b < w.heap.size := by obtain ⟨e, h⟩ := h; exact (Array.getElem?_eq_some_iff.1 h).1
theorem IsB.cell (h : IsB w b cs) (i : Nat) : w.cell? ⟨b, i, none⟩ = cs[i]? := by
  obtain ⟨e, h⟩ := h
  simp [World.cell?, h]
theorem IsB.frozen (h : IsB w b cs) (i : Nat) : w.frozen? ⟨b, i, none⟩ = false := by
  obtain ⟨e, h⟩ := h
  simp [World.frozen?, h]
theorem IsB.keep {S : Nat → Prop} (h : IsB w b cs) (k : Keep S w w') (hs : ¬ S b) : IsB w' b cs := by
  have := h.lt
  obtain ⟨e, h⟩ := h
  exact ⟨e, (k.block b this hs).trans h⟩
theorem IsB.ext (h : IsB w b cs) (k : Ext w w') : IsB w' b cs := h.keep k fun g => g
theorem IsB.set (h : IsB w b cs) (i : Nat) (v : Value) : IsB (w.setCell ⟨b, i, none⟩ v) b (cs.set i v) := by
  obtain ⟨e, h⟩ := h
  refine ⟨e, ?_⟩
  simp [World.setCell, Array.getElem?_modify, h]
theorem IsB.other (h : IsB w b cs) {p : Addr} (hp : p.block ≠ b) (v : Value) : IsB (w.setCell p v) b cs := by
  obtain ⟨e, h⟩ := h
  exact ⟨e, (Below.heap_setCell _ _ _ _ (fun g => hp g.symm)).trans h⟩
theorem IsB.new (w : World) (e : TypeId) (cs : List Value) : IsB (w.alloc (.cells ⟨cs⟩ e)) w.heap.size cs := ⟨e, heap_alloc_new w _⟩
theorem IsB.alloc (h : IsB w b cs) (o : Obj) : IsB (w.alloc o) b cs := h.ext (Keep.refl.alloc o)
theorem IsB.drew (h : IsB w b cs) : IsB w.drew b cs := h

theorem ldI_B {k : IntKind} {i : Nat} {n : Int} {K : Int → PT} (h : IsB w b cs) (hc : cs[i]? = some (.int k n)) (hk : K n w) : ldI k ⟨b, i, none⟩ K w := ⟨n, (h.cell i).trans hc, hk⟩
theorem ldB_B {i : Nat} {n : Bool} {K : Bool → PT} (h : IsB w b cs) (hc : cs[i]? = some (.bool n)) (hk : K n w) : ldB ⟨b, i, none⟩ K w := ⟨n, (h.cell i).trans hc, hk⟩
theorem st1_B {i : Nat} {v : Value} {K : PT} (h : IsB w b cs) (hi : i < cs.length) (hv : v.oneCell' = true) (hk : ∀ w', IsB w' b (cs.set i v) → Keep (· = b) w w' → K w') : st1 ⟨b, i, none⟩ v K w :=
  ⟨hv, by rw [h.cell]; simp [hi], h.frozen i, hk _ (h.set i v) (Keep.setCell (S := (· = b)) Keep.refl (.inl rfl) v)⟩
theorem newC_B {e : TypeId} {K : Addr → PT} (hk : ∀ w', IsB w' w.heap.size cs → Ext w w' → w'.heap.size = w.heap.size + 1 → K ⟨w.heap.size, 0, none⟩ w') : newC e cs K w :=
  hk _ (IsB.new w e cs) (Keep.refl.alloc _) (by simp)
/-- Many cells. -/
def lay (cs : List Value) (o : Nat) (vs : List Value) : List Value := cs.take o ++ vs ++ cs.drop (o + vs.length)
theorem lay_nil (cs : List Value) (o : Nat) : lay cs o [] = cs := by simp [lay]
theorem lay_cons {cs : List Value} {o : Nat} {v : Value} {vs : List Value} (h : o < cs.length) : lay (cs.set o v) (o + 1) vs = lay cs o (v :: vs) := by
  have hs : cs.set o v = cs.take o ++ v :: cs.drop (o + 1) := by rw [List.set_eq_take_append_cons_drop, if_pos h]
  have hk : (cs.take o).length = o := by simp; omega
  unfold lay
  rw [hs, List.take_append, List.drop_append, hk, List.take_of_length_le (show (cs.take o).length ≤ o + 1 by omega), List.drop_eq_nil_of_le (show (cs.take o).length ≤ o + 1 + vs.length by omega)]
  rw [show o + 1 - o = 1 by omega, show o + 1 + vs.length - o = vs.length + 1 by omega]
  simp [show o + 1 + vs.length = o + (vs.length + 1) by omega]
theorem stores_B : ∀ {vs : List Value} {w : World} {cs : List Value} {o i : Nat}, IsB w b cs → o + i + vs.length ≤ cs.length → IsB (stores w ⟨b, o, none⟩ i vs) b (lay cs (o + i) vs) ∧ Keep (· = b) w (stores w ⟨b, o, none⟩ i vs)
  | [], w, cs, o, i, h, _ => by rw [lay_nil]; exact ⟨h, Keep.refl⟩
  | v :: r, w, cs, o, i, h, hl => by
    simp only [List.length_cons] at hl
    unfold stores
    rw [add_mk]
    obtain ⟨h1, h2⟩ := stores_B (vs := r) (o := o) (i := i + 1) (h.set (o + i) v) (by simp; omega)
    rw [show o + (i + 1) = o + i + 1 by omega, lay_cons (by omega)] at h1
    exact ⟨h1, (Keep.setCell (S := (· = b)) Keep.refl (.inl rfl) v).trans h2⟩
theorem stN_B {n i : Nat} {vs : List Value} {K : PT} (h : IsB w b cs) (hi : i + n ≤ cs.length) (hn : vs.length = n) (hv : ∀ v ∈ vs, v.oneCell' = true) (hk : ∀ w', IsB w' b (lay cs i vs) → Keep (· = b) w w' → K w') : stN n ⟨b, i, none⟩ vs K w := by
  obtain ⟨h1, h2⟩ := stores_B (vs := vs) (o := i) (i := 0) h (by omega)
  refine ⟨hn, fun j v hj => ?_, hk _ h1 h2⟩
  have hj' : j < vs.length := (List.getElem?_eq_some_iff.1 hj).1
  rw [add_mk]
  exact ⟨hv v (List.mem_of_getElem? hj), by rw [h.cell]; simp; omega, h.frozen _⟩
theorem cellsAt_B {i : Nat} {vs : List Value} (h : IsB w b cs) (hc : sub cs i vs.length = vs) : cellsAt w ⟨b, i, none⟩ vs := by
  intro j v hj
  rw [add_mk, h.cell, ← hj]
  have hj' : j < vs.length := (List.getElem?_eq_some_iff.1 hj).1
  rw [← hc]
  simp only [sub, List.getElem?_take, List.getElem?_drop]
  rw [if_pos (by omega)]
theorem ldN_B {n i : Nat} {vs : List Value} {K : List Value → PT} (h : IsB w b cs) (hc : sub cs i n = vs) (hn : vs.length = n) (hk : K vs w) : ldN n ⟨b, i, none⟩ K w :=
  ⟨vs, hn, cellsAt_B h (by rw [hn]; exact hc), hk⟩
end blocks

end Go.Proofs.YtllgjjldnnmjkaaDoor
