/-
  Lst of things that are of so many cells each, and texts byte by byte. No condition.
-/
import Derived.Test.YtllgjjldnnmjkaaDoorWlRow
set_option linter.unusedVariables false
set_option maxRecDepth 100000
namespace Go.Proofs.YtllgjjldnnmjkaaDoor
open Go.RowKit

section
variable {α : Type} {f : α → List Value} {sz : Nat}
def flat (f : α → List Value) : List α → List Value
  | [] => []
  | x :: l => f x ++ flat f l
theorem flat_len (h : ∀ x, (f x).length = sz) : ∀ l : List α, (flat f l).length = l.length * sz
  | [] => by simp [flat]
  | x :: l => by simp only [flat, List.length_append, List.length_cons, h, flat_len h l, Nat.add_mul]; omega
theorem flat_app : ∀ l m : List α, flat f (l ++ m) = flat f l ++ flat f m
  | [], m => rfl
  | x :: l, m => by simp [flat, flat_app l m]
theorem flat_at (h : ∀ x, (f x).length = sz) : ∀ {l : List α} {i : Nat} {x : α}, l[i]? = some x → ∀ {j : Nat}, j < sz → (flat f l)[i * sz + j]? = (f x)[j]?
  | [], i, x, hx, j, hj => by simp at hx
  | y :: l, 0, x, hx, j, hj => by
    simp at hx; subst hx
    simp only [flat, Nat.zero_mul, Nat.zero_add]
    rw [List.getElem?_append_left (by rw [h]; exact hj)]
  | y :: l, i + 1, x, hx, j, hj => by
    have := flat_at h (l := l) (i := i) (x := x) (by simpa using hx) hj
    simp only [flat]
    rw [List.getElem?_append_right (by rw [h, Nat.add_mul]; omega), h, ← this]
    congr 1
    rw [Nat.add_mul]; omega
/-- A slice of things. -/
def Lst (w : World) (e : TypeId) (sz : Nat) (f : α → List Value) (a : Option Addr) (n c : Nat) (l : List α) : Prop := n = l.length ∧ Row w e sz a n c (flat f l)
variable {w w' : World} {e : TypeId} {a : Option Addr} {n c : Nat} {l : List α}
theorem Lst.keep {S : Nat → Prop} (h : Lst w e sz f a n c l) (k : Keep S w w') (hs : ∀ k, inB a k → ¬ S k) : Lst w' e sz f a n c l := ⟨h.1, h.2.keep k hs⟩
theorem Lst.ext (h : Lst w e sz f a n c l) (k : Ext w w') : Lst w' e sz f a n c l := ⟨h.1, h.2.ext k⟩
theorem Lst.lt (h : Lst w e sz f a n c l) {k : Nat} (hk : inB a k) : k < w.heap.size := h.2.lt hk
theorem Lst.nil : Lst w e sz f none 0 0 ([] : List α) := ⟨rfl, Row.nil⟩
theorem Lst.new (w : World) (e : TypeId) (sz : Nat) (f : α → List Value) : Lst (w.alloc (.cells ⟨[]⟩ e)) e sz f (some ⟨w.heap.size, 0, none⟩) 0 0 ([] : List α) := ⟨rfl, Row.new w e sz⟩
/-- The element of a place: its cells. -/
theorem ixS_Lst {i : Nat} {x : α} {K : Addr → PT} (hf : ∀ x, (f x).length = sz) (h : Lst w e sz f a n c l) (hx : l[i]? = some x) (hk : ∀ b, a = some ⟨b, 0, none⟩ → (∀ j v, (f x)[j]? = some v → w.cell? ⟨b, i * sz + j, none⟩ = some v) → K ⟨b, i * sz, none⟩ w) : ixS a n (i : Int) sz K w := by
  have hi : i < l.length := (List.getElem?_eq_some_iff.1 hx).1
  refine ixS_R h.2 (by omega) (by rw [h.1]; omega) fun b hb hc => ?_
  rw [Int.toNat_natCast]
  refine hk b hb fun j v hj => hc _ _ ?_
  rw [flat_at hf hx (by rw [← hf x]; exact (List.getElem?_eq_some_iff.1 hj).1)]
  exact hj
/-- One more. -/
theorem app_Lst {t ty : TypeId} {bytes : Nat} {z : Value} {x : α} {ad : Addr} {K : Option Addr → Nat → Nat → PT} {bs : List Bool} {c2 : Nat}
    (ht : Tryd.prog.underlying t = some (.slice e)) (hi : (Tryd.prog.info? e).map (fun i => (i.zero, i.size, i.bytes)) = some (some z, sz, bytes)) (hz : z.cells.size = sz) (h0 : 0 < sz) (hf : ∀ x, (f x).length = sz) (h1 : ∀ v ∈ f x, v.oneCell' = true)
    (h : Lst w e sz f a n c l) (hc : ∀ j u, (f x)[j]? = some u → w.cell? (ad.add j) = some u) (hb : bytes ≤ 1000) (hn : n ≤ 100000000)
    (hk : ∀ a' c' w', Lst w' e sz f a' (n + 1) c' (l ++ [x]) → Keep (inB a) w w' → (∀ k, inB a' k → inB a k ∨ w.heap.size ≤ k) → K a' (n + 1) c' w') :
    runL Tryd.prog (bi .append #[t, t] ty bs [.slice a n c, .slice (some ad) 1 c2]) K w := by
  refine app_R (m := 1) ht hi hz h0 h.2 (news := f x) (by rw [hf]; omega) hc h1 (by decide) (by simp only [maxLen]; omega) ?_ fun a' c' w' g1 g2 g3 => hk a' c' w' ⟨by simp [h.1], ?_⟩ g2 g3
  · calc (n + 1) * bytes ≤ (n + 1) * 1000 := Nat.mul_le_mul_left _ hb
      _ ≤ 140737488355328 := by omega
  · rw [flat_app]
    simpa [flat] using g1
end

/-! ### Texts -/
/-- A text's byte, as a number. -/
def by_ (s : ByteArray) (i : Nat) : Int := (((s[i]?).getD 0).toNat : Int)
theorem by_lt (s : ByteArray) (i : Nat) : 0 ≤ by_ s i ∧ by_ s i ≤ 255 := by
  unfold by_
  have := ((s[i]?).getD 0).toNat_lt
  omega
theorem ixT_by {s : ByteArray} {i : Nat} {K : Int → PT} {w : World} (h : i < s.size) (hk : K (by_ s i) w) : ixT s (i : Int) (fun v => K ((v.toNat : Nat) : Int)) w := by
  refine ⟨by omega, s[i], ?_, ?_⟩
  · rw [Int.toNat_natCast]; exact getElem?_pos s i h
  · have e : s[i]? = some s[i] := getElem?_pos s i h
    unfold by_ at hk
    rw [e] at hk
    exact hk
end Go.Proofs.YtllgjjldnnmjkaaDoor
