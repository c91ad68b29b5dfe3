/-
  Rows of bytes that become texts; numerals put behind them; a range over a text. No condition.
-/
import Derived.Test.YtchhffabpgebmaaDoorWlLaid
import Derived.Test.YtchhffabpgebmaaDoorShelf
import Derived.Test.YtchhffabpgebmaaDoorCodeText
import Derived.Laws.IdiomStrings
import Derived.Stop.BytesEq
set_option linter.unusedVariables false
set_option linter.unusedSimpArgs false
namespace Go.Proofs.YtchhffabpgebmaaDoor
open Go.RowKit Extern.Stop
def b1 (b : UInt8) : List Value := [cell b]
theorem b1_len (b : UInt8) : (b1 b).length = 1 := rfl
theorem b1_one (b : UInt8) : ∀ v ∈ b1 b, v.oneCell' = true := by simp [b1, cell, Value.oneCell']
abbrev fU (a : Option Addr) (n c : Nat) (l : List UInt8) : Fct := fL 5 1 b1 a n c l
theorem flat_b1 : ∀ l : List UInt8, flat b1 l = Lib.byteCells l
  | [] => rfl
  | x :: l => by simp only [flat, flat_b1 l]; rfl
def strOf (l : List UInt8) : ByteArray := ⟨l.toArray⟩
theorem strOf_toList (l : List UInt8) : (strOf l).toList = l := by rw [ByteArray.toList_eq]; simp [strOf]
theorem strOf_size (l : List UInt8) : (strOf l).size = l.length := by simp [strOf, ByteArray.size]
theorem strOf_app (l m : List UInt8) : strOf l ++ strOf m = strOf (l ++ m) := by
  apply ByteArray.ext
  simp [strOf, ByteArray.data_append]
theorem byte_max : (IntKind.max .i64) = 9223372036854775807 := rfl
abbrev dec (n : Nat) : List UInt8 := Lib.decDigits n
theorem dec_len : ∀ {k n : Nat}, n < 10 ^ (k + 1) → (dec n).length ≤ k + 1
  | 0, n, h => by
    unfold dec Lib.decDigits
    rw [dif_pos (by simpa using h)]
    simp
  | k + 1, n, h => by
    unfold dec Lib.decDigits
    split
    · simp
    · have := dec_len (k := k) (n := n / 10) (by rw [Nat.pow_succ] at h; omega)
      simp only [List.length_append, List.length_cons, List.length_nil]
      simp only [dec] at this
      omega
section
variable {Z : List PanicEntry → PT} {S : Nat → Prop} {w0 w : World} {L : List Fct}
/-- A row of bytes as a text. -/
theorem conv_U {K : ByteArray → PT} {a : Option Addr} {n c : Nat} {l : List UInt8} (h : Lst w 5 1 b1 a n c l) (hk : K (strOf l) w) : runS Tryd.prog (convert 53 9 (.slice a n c)) K w := by
  refine ⟨strOf l, w, ?_, hk⟩
  obtain ⟨h1, h2⟩ := h
  subst h1
  cases a with
  | none =>
    have hl : l = [] := by
      rcases h2.2 with ⟨_, h3, _⟩ | ⟨g, cur, h3, _⟩
      · exact List.eq_nil_of_length_eq_zero h3
      · cases h3
    subst hl
    have := run_convert_bytes_string (P := Tryd.prog) w 53 9 5 none 0 c Tryd.underlying53 Tryd.underlying5 Tryd.underlying9
    rw [show ([] : List UInt8).length = 0 from rfl, this]
    simp [Conv.bytesToString]
    rfl
  | some ad =>
    obtain ⟨he, hc⟩ := h2.cells rfl
    refine run_convert_bytes_back (P := Tryd.prog) w 53 9 5 ad c l Tryd.underlying53 Tryd.underlying5 Tryd.underlying9 fun j hj => ?_
    have := flat_at b1_len (List.getElem?_eq_getElem hj) (show 0 < 1 by decide)
    rw [he, add_mk, Nat.zero_add]
    refine hc _ _ ?_
    rw [show j * 1 + 0 = j by omega] at this
    rw [this]; rfl
/-- One more byte. -/
theorem Sep.appB (n : Nat) {a : Option Addr} {m c c2 : Nat} {l : List UInt8} {x : UInt8} {v : Value} {K : Option Addr → Nat → Nat → PT} (h : Sep S w0 w L) (hn : L[n]? = some (fU a m c l)) (hv : v = cell x) (hm : l.length ≤ 100000000)
    (hk : ∀ a' c' w', Sep S w0 w' (L.set n (fU a' (m + 1) c' (l ++ [x]))) → (∀ k, inB a' k → inB a k ∨ w.heap.size ≤ k) → w.heap.size ≤ w'.heap.size → K a' (m + 1) c' w') :
    newC 5 [v] (fun ad => runL Tryd.prog (bi .append #[53, 53] 53 [false, false] [.slice a m c, .slice (some ad) 1 c2]) K) w := by
  subst hv
  refine newC_B fun w1 bb k1 s1 => ?_
  have h1 := h.ext k1
  have hl : Lst w1 5 1 b1 a m c l := h1.at hn
  refine app_Lst (bytes := 1) (z := .int .u8 0) (x := x) Tryd.underlying53 (by kernel_rfl) rfl (by decide) b1_len (b1_one x) hl (fun j u hu => by rw [add_mk, Nat.zero_add, bb.cell]; exact hu) (by decide) (by rw [hl.1]; exact hm) fun a' c' w' g1 g2 g3 => ?_
  have hlt : ∀ k, inB a k → k < w.heap.size := fun k hk => h.lt hn hk
  refine hk a' c' w' (h1.turn hn g2 (g := fU a' (m + 1) c' (l ++ [x])) g1 g3) (fun k hk => ?_) (by have := g2.size; omega)
  rcases g3 k hk with g | g
  · exact .inl g
  · exact .inr (by omega)
/-- A numeral is put behind a row's bytes: blocks from B on may turn. -/
theorem Sep.appU (n B : Nat) {a : Option Addr} {m c u : Nat} {l : List UInt8} {K : Option Addr → Nat → Nat → PT} (h : Sep S w0 w L) (hn : L[n]? = some (fU a m c l)) (hB : ∀ k, inB a k → B ≤ k) (ho : ∀ i f, i ≠ n → L[i]? = some f → ∀ k, f.fp k → k < B) (h0 : w0.heap.size ≤ B) (hBw : B ≤ w.heap.size) (hm : l.length ≤ 100000000) (hu : u < 18446744073709551616)
    (ht : Lib.TabIs Tryd.prog w "internal/strconv.uint64pow10" .u64 Lib.pow10Tab)
    (hk : ∀ a' c' w', Sep S w0 w' (L.set n (fU a' (l ++ dec u).length c' (l ++ dec u))) → (∀ k, inB a' k → B ≤ k) → w.heap.size ≤ w'.heap.size → K a' (l ++ dec u).length c' w') :
    cal Tryd.prog Z 30 [.slice a m c, .int .u64 (u : Int), .int .i64 10] (isL fun p pn pc => K p pn pc) w := by
  refine strconv_AppendUint.cal ?_
  unfold strconv_AppendUint.F
  have hl : Lst w 5 1 b1 a m c l := h.at hn
  have hlen : l.length = m := hl.1.symm
  have own : w.ownsRow B 5 1 (.slice a m c) m (Lib.byteCells l) := by
    rw [← flat_b1]
    refine ⟨hl.2.1, ?_⟩
    rcases hl.2.2 with ⟨rfl, rfl, rfl⟩ | ⟨g, cur, rfl, h2⟩
    · exact .inl ⟨rfl, rfl⟩
    · exact .inr ⟨g, c, cur, rfl, hB g ⟨_, rfl, rfl⟩, h2⟩
  refine (Tryd.internal_strconv_AppendUint_10 B m u hu (.slice a m c) (Lib.byteCells l) w own hBw (by omega) ht).mono fun e w' ⟨v', he, ho', bel, _⟩ => ?_
  subst he
  have key : ∃ a' c', v' = .slice a' (l ++ dec u).length c' ∧ Lst w' 5 1 b1 a' (l ++ dec u).length c' (l ++ dec u) ∧ ∀ k, inB a' k → B ≤ k := by
    obtain ⟨o1, o2⟩ := ho'
    have hll : m + (Lib.decDigits u).length = (l ++ dec u).length := by simp [hlen]
    have hcells : Lib.byteCells l ++ Lib.byteCells (Lib.decDigits u) = flat b1 (l ++ dec u) := by rw [flat_app, flat_b1, flat_b1]
    rw [hcells, hll] at o1
    rw [hcells] at o2
    rcases o2 with ⟨rfl, e0⟩ | ⟨g, cap, cur, rfl, g1, g2, g3, g4, g5, g6⟩
    · rw [hll] at e0
      rw [e0] at o1 ⊢
      exact ⟨none, 0, rfl, ⟨e0.symm, o1, .inl ⟨rfl, rfl, rfl⟩⟩, fun k ⟨p, hp, _⟩ => by cases hp⟩
    · rw [hll] at g3 g6 ⊢
      exact ⟨some ⟨g, 0, none⟩, cap, rfl, ⟨rfl, o1, .inr ⟨g, cur, rfl, g2, g3, g4, g5, g6⟩⟩, fun k ⟨p, hp, hk⟩ => by cases hp; subst hk; exact g1⟩
  obtain ⟨a', c', rfl, hl', hB'⟩ := key
  refine ⟨a', (l ++ dec u).length, c', rfl, ?_⟩
  have kB : Keep (fun k => B ≤ k) w w' := ⟨bel.os, bel.tape, bel.output, bel.size, fun k hk hn => bel.block k (by omega)⟩
  refine hk a' c' w' ⟨h.kept.trans_new kB fun i hi g => by omega, ?_, ?_, pw_set apart.symm h.dis fun i f hi hf k h1 h2 => ?_⟩ hB' bel.size
  · intro f hf
    rcases mem_set hf with rfl | ⟨i, hi, hf⟩
    · exact hl'
    · exact f.st w w' _ (h.all f (List.mem_of_getElem? hf)) kB fun k hk g => by have := ho i f hi hf k hk; omega
  · intro f hf k hk
    rcases mem_set hf with rfl | ⟨i, hi, hf⟩
    · exact .inl (Nat.le_trans h0 (hB' k hk))
    · exact h.own f (List.mem_of_getElem? hf) k hk
  · have := hB' k h1
    have := ho i f hi hf k h2
    omega
/-- A walk over a text. -/
def fI (b : Nat) (s : ByteArray) (i : Nat) : Fct := ⟨(· = b), fun w => w.heap[b]? = some (.stringIter s i), fun w h k e => by subst e; exact (Array.getElem?_eq_some_iff.1 h).1, fun w w' S h k hs => (k.block b (Array.getElem?_eq_some_iff.1 h).1 (hs b rfl)).trans h⟩
theorem Sep.range {s : ByteArray} {K : Option Addr → PT} (h : Sep S w0 w L) (hk : ∀ w' b, Sep S w0 w' (fI b s 0 :: L) → K (some ⟨b, 0, none⟩) w') : runP Tryd.prog (Instr.range 9 (.string s)) K w := by
  refine ⟨some ⟨w.heap.size, 0, none⟩, w.alloc (.stringIter s 0), ?_, hk _ _ (h.add (Keep.refl.alloc _) (f := fI w.heap.size s 0) ?_ fun k e => by subst e; exact Nat.le_refl _)⟩
  · simp [Instr.range, run_underlying Tryd.underlying9, Result.andThen]
  · exact heap_alloc_new w _
theorem getIt {b i : Nat} {s : ByteArray} {w : World} (h : w.heap[b]? = some (.stringIter s i)) : (getObj b).run Tryd.prog w = .ok (.stringIter s i) w := by simp [getObj, Sem.run, h]
theorem setIt {b i : Nat} {s : ByteArray} {w : World} (o : Obj) (h : w.heap[b]? = some (.stringIter s i)) : (setObj b o).run Tryd.prog w = .ok () { w with heap := w.heap.setIfInBounds b o } := by simp [setObj, Sem.run, h]
theorem Sep.nextI (n : Nat) {b i c wd : Nat} {s : ByteArray} {t : TypeId} {X : PT} {Y : Int → Int → PT} (h : Sep S w0 w L) (hn : L[n]? = some (fI b s i)) (hi : i < s.size) (hd : Utf8.decode s i = (c, wd)) (hk : ∀ w', Sep S w0 w' (L.set n (fI b s (i + wd))) → w'.heap.size = w.heap.size → Y i c w') :
    nextX Tryd.prog (Instr.next (.pointer (some ⟨b, 0, none⟩)) true t) X (fun x y => isI .i64 (fun a => isI .i32 (fun r => Y a r) y) x) w := by
  have hw : w.heap[b]? = some (.stringIter s i) := h.at hn
  obtain ⟨g1, g2⟩ := MapKept.heap_set (o' := .stringIter s (i + wd)) hw
  have kk : Keep (· = b) w { w with heap := w.heap.setIfInBounds b (.stringIter s (i + wd)) } := ⟨rfl, rfl, rfl, by simp, fun k _ hk => g2 k hk⟩
  refine ⟨.tuple #[.bool true, .int .i64 i, .int .i32 c], { w with heap := w.heap.setIfInBounds b (.stringIter s (i + wd)) }, ?_, .inr ⟨.int .i64 i, .int .i32 c, rfl, i, rfl, c, rfl, hk _ (h.turn hn kk (g := fI b s (i + wd)) g1 fun k e => .inl e) (by simp)⟩⟩
  have hb : b < w.heap.size := (Array.getElem?_eq_some_iff.1 hw).1
  simp only [Instr.next, Sem.run_bind, getIt hw, Result.andThen_ok]
  rw [if_pos hi, hd]
  simp only [Sem.run_bind, setIt _ hw, Result.andThen_ok, Sem.run_pure]
  rfl
theorem Sep.nextE (n : Nat) {b i : Nat} {s : ByteArray} {t : TypeId} {X : PT} {Y : Value → Value → PT} (h : Sep S w0 w L) (hn : L[n]? = some (fI b s i)) (hi : s.size ≤ i) (hk : X w) :
    nextX Tryd.prog (Instr.next (.pointer (some ⟨b, 0, none⟩)) true t) X Y w := by
  have hw : w.heap[b]? = some (.stringIter s i) := h.at hn
  refine ⟨.tuple #[.bool false], w, ?_, .inl ⟨rfl, hk⟩⟩
  simp only [Instr.next, Sem.run_bind, getIt hw, Result.andThen_ok]
  rw [if_neg (Nat.not_lt.2 hi)]
  rfl
end
end Go.Proofs.YtchhffabpgebmaaDoor
