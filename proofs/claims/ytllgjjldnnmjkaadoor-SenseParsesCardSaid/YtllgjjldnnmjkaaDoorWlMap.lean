/-
  Maps from texts to ints. No condition.
-/
import Derived.Test.YtllgjjldnnmjkaaDoorWlFlat
import Derived.MapKept
import Derived.WideMake
import Derived.Laws.Strings
set_option linter.unusedVariables false
set_option maxRecDepth 100000
namespace Go.Proofs.YtllgjjldnnmjkaaDoor
open Go.RowKit

section
variable {w : World} {cs : List Value} {o : Nat}
theorem ptI_of {k : IntKind} {n : Int} {K : Int → PT} (h : cs[o]? = some (.int k n)) (hk : K n w) : ptI k cs o K w := ⟨n, h, hk⟩
theorem ptB_of {n : Bool} {K : Bool → PT} (h : cs[o]? = some (.bool n)) (hk : K n w) : ptB cs o K w := ⟨n, h, hk⟩
theorem ptS_of {n : ByteArray} {K : ByteArray → PT} (h : cs[o]? = some (.string n)) (hk : K n w) : ptS cs o K w := ⟨n, h, hk⟩
theorem ptP_of {n : Option Addr} {K : Option Addr → PT} (h : cs[o]? = some (.pointer n)) (hk : K n w) : ptP cs o K w := ⟨n, h, hk⟩
theorem ptL_of {b : Option Addr} {n c : Nat} {K : Option Addr → Nat → Nat → PT} (h : cs[o]? = some (.slice b n c)) (hk : K b n c w) : ptL cs o K w := ⟨b, n, c, h, hk⟩
end
theorem newC_E {w : World} {e : TypeId} {cs : List Value} {K : Addr → PT} (hk : ∀ w', w'.heap[w.heap.size]? = some (.cells ⟨cs⟩ e (0, 0)) → Ext w w' → w'.heap.size = w.heap.size + 1 → K ⟨w.heap.size, 0, none⟩ w') : newC e cs K w :=
  hk _ (heap_alloc_new w _) (Keep.refl.alloc _) (by simp)
theorem IsB.of {w : World} {b : Nat} {e : TypeId} {cs : List Value} (h : w.heap[b]? = some (.cells ⟨cs⟩ e (0, 0))) : IsB w b cs := ⟨e, h⟩
/-- A slice of one thing, at a block of its own. -/
theorem Lst.one {α : Type} {f : α → List Value} {w : World} {e : TypeId} {sz b : Nat} {x : α} (h : w.heap[b]? = some (.cells ⟨f x⟩ e (0, 0))) (hf : (f x).length = sz) : Lst w e sz f (some ⟨b, 0, none⟩) 1 1 [x] :=
  ⟨rfl, by simp [flat, hf], .inr ⟨b, ⟨f x⟩, rfl, h, Nat.le_refl _, by decide, by simp [hf], by simp [flat, ← hf]⟩⟩
theorem text_ext {a b : ByteArray} (h : a.toList = b.toList) : a = b := by
  rw [ByteArray.toList_eq, ByteArray.toList_eq] at h
  cases a; cases b
  congr 1
  exact Array.ext' h
theorem text_beq {a b : ByteArray} : (a == b) = (a.toList == b.toList) := by
  have h1 : (a == b) = true ↔ a = b := by
    cases a with | mk x => cases b with | mk y =>
    show (x == y) = true ↔ _
    constructor
    · intro h; rw [eq_of_beq h]
    · intro h; cases h; exact beq_self_eq_true x
  rw [Bool.eq_iff_iff, h1, beq_iff_eq]
  exact ⟨fun h => by rw [h], text_ext⟩
/-- A map's entries, in the order in which they came. -/
def MapB (w : World) (b : Nat) (m : List (ByteArray × Int)) : Prop := ∃ (es : Array MapEntry) (clock : Nat), w.heap[b]? = some (.map es clock) ∧ es.toList.map (fun e => (e.key, e.val)) = m.map (fun p => (Value.string p.1, Value.int .i64 p.2))
def mget (m : List (ByteArray × Int)) (k : ByteArray) : Int := match m with
  | [] => 0
  | p :: r => if (k == p.1) = true then p.2 else mget r k
def mhas (m : List (ByteArray × Int)) (k : ByteArray) : Bool := m.any fun p => k == p.1
section
variable {w w' : World} {b : Nat} {m : List (ByteArray × Int)}
theorem MapB.lt (h : MapB w b m) : b < w.heap.size := by obtain ⟨es, c, h, _⟩ := h; exact (Array.getElem?_eq_some_iff.1 h).1
theorem MapB.keep {S : Nat → Prop} (h : MapB w b m) (k : Keep S w w') (hs : ¬ S b) : MapB w' b m := by
  have := h.lt
  obtain ⟨es, c, h, h2⟩ := h
  exact ⟨es, c, (k.block b this hs).trans h, h2⟩
theorem MapB.ext (h : MapB w b m) (k : Ext w w') : MapB w' b m := h.keep k fun g => g
theorem find_no {k : ByteArray} : ∀ {es : List MapEntry} {m : List (ByteArray × Int)} (i : Nat), es.map (fun e => (e.key, e.val)) = m.map (fun p => (Value.string p.1, Value.int .i64 p.2)) → mhas m k = false → Instr.findNow .string (.string k) es i = some none
  | [], m, i, _, _ => rfl
  | e :: es, [], i, h, _ => by simp at h
  | e :: es, p :: m, i, h, hn => by
    simp only [List.map_cons, List.cons.injEq, Prod.mk.injEq] at h
    simp only [mhas, List.any_cons, Bool.or_eq_false_iff] at hn
    unfold Instr.findNow
    have : Instr.sameNow .string (.string k) e.key = some false := by rw [h.1.1]; simp only [Instr.sameNow]; rw [hn.1]
    rw [this]
    exact find_no (i + 1) h.2 hn.2
theorem find_yes {k : ByteArray} : ∀ {es : List MapEntry} {m : List (ByteArray × Int)} (i : Nat), es.map (fun e => (e.key, e.val)) = m.map (fun p => (Value.string p.1, Value.int .i64 p.2)) → mhas m k = true → ∃ j, Instr.findNow .string (.string k) es i = some (some (j, .int .i64 (mget m k)))
  | [], [], i, _, h => by simp [mhas] at h
  | [], p :: m, i, h, _ => by simp at h
  | e :: es, [], i, h, _ => by simp at h
  | e :: es, p :: m, i, h, hn => by
    simp only [List.map_cons, List.cons.injEq, Prod.mk.injEq] at h
    unfold Instr.findNow mget
    cases hk : (k == p.1) with
    | true =>
      have : Instr.sameNow .string (.string k) e.key = some true := by rw [h.1.1]; simp only [Instr.sameNow]; rw [hk]
      rw [this, if_pos rfl]
      exact ⟨i, by rw [h.1.2]⟩
    | false =>
      have : Instr.sameNow .string (.string k) e.key = some false := by rw [h.1.1]; simp only [Instr.sameNow]; rw [hk]
      rw [this, if_neg (by decide)]
      refine find_yes (i + 1) h.2 ?_
      simpa [mhas, hk] using hn
theorem mget_no {k : ByteArray} : ∀ {m : List (ByteArray × Int)}, mhas m k = false → mget m k = 0
  | [], _ => rfl
  | p :: m, h => by
    simp only [mhas, List.any_cons, Bool.or_eq_false_iff] at h
    unfold mget
    rw [h.1, if_neg (by decide)]
    exact mget_no h.2
theorem look_B {t kt et : TypeId} {k : ByteArray} {K : Int → PT} (hm : Tryd.prog.underlying t = some (.map kt et)) (hk : Tryd.prog.underlying kt = some .string) (hz : (Tryd.prog.info? et).bind (·.zero) = some (.int .i64 0)) (h : MapB w b m) (hq : K (mget m k) w) : runI .i64 Tryd.prog (Instr.lookup t (.map (some b)) (.string k) false) K w := by
  obtain ⟨es, c, h1, h2⟩ := h
  refine ⟨_, w, ?_, hq⟩
  obtain ⟨i, hi, hi2⟩ := Option.bind_eq_some_iff.1 hz
  have hzv : (zeroValue et).run Tryd.prog w = .ok (.int .i64 0) w := by simp [zeroValue, typeInfo, hi, hi2]
  have hc : (Instr.checkKey es.isEmpty 10000 kt (.string k)).run Tryd.prog w = .ok () w := MapKept.run_checkKey (k := .string k) hk (by simp [MapKept.IsKey]) _ 9999
  cases hb : mhas m k with
  | false =>
    have hf := find_no (k := k) 0 h2 hb
    rw [mget_no hb]
    simp [Instr.lookup, run_underlying hm, MapKept.run_getObj_map h1, hc, MapKept.run_findKey hk hf, hzv, Result.andThen]
  | true =>
    obtain ⟨j, hf⟩ := find_yes (k := k) 0 h2 hb
    simp [Instr.lookup, run_underlying hm, MapKept.run_getObj_map h1, hc, MapKept.run_findKey hk hf, Result.andThen]
theorem upd_B {t kt et : TypeId} {k : ByteArray} {v : Int} {K : PT} (hm : Tryd.prog.underlying t = some (.map kt et)) (hk : Tryd.prog.underlying kt = some .string) (h : MapB w b m) (hn : mhas m k = false) (hq : ∀ w', MapB w' b (m ++ [(k, v)]) → Keep (· = b) w w' → w'.heap.size = w.heap.size → K w') : runU Tryd.prog (Instr.mapUpdate t (.map (some b)) (.string k) (.int .i64 v)) K w := by
  obtain ⟨es, c, h1, h2⟩ := h
  have hc : (Instr.checkKey false 10000 kt (.string k)).run Tryd.prog w = .ok () w := MapKept.run_checkKey (k := .string k) hk (by simp [MapKept.IsKey]) false 9999
  have hf := find_no (k := k) 0 h2 hn
  obtain ⟨g1, g2⟩ := MapKept.heap_set (o' := .map (es.push { key := .string k, val := .int .i64 v, born := c }) (c + 1)) h1
  refine ⟨{ w with heap := w.heap.setIfInBounds b (.map (es.push { key := .string k, val := .int .i64 v, born := c }) (c + 1)) }, ?_, hq _ ⟨_, _, g1, ?_⟩ ⟨rfl, rfl, rfl, by simp, fun i _ hi => g2 i hi⟩ (by simp)⟩
  · simp [Instr.mapUpdate, run_underlying hm, MapKept.run_getObj_map h1, hc, MapKept.run_findKey hk hf, MapKept.run_setObj_map _ h1, Result.andThen]
  · simp [h2]
theorem mkmap_B {t : TypeId} {K : Option Nat → PT} (hq : ∀ w', MapB w' w.heap.size [] → Ext w w' → w'.heap.size = w.heap.size + 1 → K (some w.heap.size) w') : runM Tryd.prog (Instr.makeMap t none) K w :=
  ⟨_, _, run_makeMap_plain w t, hq _ ⟨#[], 0, heap_alloc_new w _, rfl⟩ (Keep.refl.alloc _) (by simp)⟩
end
end Go.Proofs.YtllgjjldnnmjkaaDoor
