/-
  Rows: slices that lie at a block's head, what 'append' does to them, and values that came in with the call. No condition.
-/
import Derived.Test.YtllgjjldnnmjkaaDoorWlMem
import Derived.Test.YtllgjjldnnmjkaaDoorWlLaw
import Derived.Laws.AppendOwn
import Derived.OwnWalk
set_option linter.unusedVariables false
set_option maxRecDepth 100000
namespace Go.Proofs.YtllgjjldnnmjkaaDoor
open Go.RowKit

/-- The block of an address. -/
def inB (a : Option Addr) (k : Nat) : Prop := ∃ p, a = some p ∧ p.block = k
/-- A slice whose elements, of so many cells each, lie at a block's head. -/
def Row (w : World) (e : TypeId) (sz : Nat) (a : Option Addr) (n c : Nat) (xs : List Value) : Prop :=
  xs.length = n * sz ∧ ((a = none ∧ n = 0 ∧ c = 0) ∨
    ∃ g cur, a = some ⟨g, 0, none⟩ ∧ w.heap[g]? = some (.cells cur e (0, 0)) ∧ n ≤ c ∧ c ≤ maxLen ∧ cur.size = c * sz ∧ cur.toList.take (n * sz) = xs)
theorem Row.owns {w : World} {e : TypeId} {sz : Nat} {a : Option Addr} {n c : Nat} {xs : List Value} (h : Row w e sz a n c xs) : w.ownsRow 0 e sz (.slice a n c) n xs := by
  refine ⟨h.1, ?_⟩
  rcases h.2 with ⟨rfl, rfl, rfl⟩ | ⟨g, cur, rfl, h2⟩
  · exact .inl ⟨rfl, rfl⟩
  · exact .inr ⟨g, c, cur, rfl, Nat.zero_le _, h2⟩
section
variable {w w' : World} {e : TypeId} {sz : Nat} {a : Option Addr} {n c : Nat} {xs : List Value}
theorem Row.lt (h : Row w e sz a n c xs) {k : Nat} (hk : inB a k) : k < w.heap.size := by
  obtain ⟨p, rfl, rfl⟩ := hk
  rcases h.2 with ⟨h1, _⟩ | ⟨g, cur, h1, h2, _⟩
  · cases h1
  · cases h1; exact (Array.getElem?_eq_some_iff.1 h2).1
theorem Row.keep {S : Nat → Prop} (h : Row w e sz a n c xs) (k : Keep S w w') (hs : ∀ k, inB a k → ¬ S k) : Row w' e sz a n c xs := by
  refine ⟨h.1, ?_⟩
  rcases h.2 with h1 | ⟨g, cur, rfl, h2, h3⟩
  · exact .inl h1
  · exact .inr ⟨g, cur, rfl, (k.block g (Array.getElem?_eq_some_iff.1 h2).1 (hs g ⟨_, rfl, rfl⟩)).trans h2, h3⟩
theorem Row.ext (h : Row w e sz a n c xs) (k : Ext w w') : Row w' e sz a n c xs := h.keep k fun _ _ g => g
theorem Row.nil {w : World} {e : TypeId} {sz : Nat} : Row w e sz none 0 0 [] := ⟨by simp, .inl ⟨rfl, rfl, rfl⟩⟩
theorem Row.new (w : World) (e : TypeId) (sz : Nat) : Row (w.alloc (.cells ⟨[]⟩ e)) e sz (some ⟨w.heap.size, 0, none⟩) 0 0 [] :=
  ⟨by simp, .inr ⟨w.heap.size, _, rfl, heap_alloc_new w _, Nat.le_refl _, Nat.zero_le _, by simp, by simp⟩⟩
theorem Row.cells (h : Row w e sz a n c xs) {ad : Addr} (ha : a = some ad) : ad = ⟨ad.block, 0, Option.none⟩ ∧ ∀ j v, xs[j]? = some v → w.cell? ⟨ad.block, j, Option.none⟩ = some v := by
  subst ha
  rcases h.2 with ⟨h1, _⟩ | ⟨g, cur, h1, h2, _, _, _, h3⟩
  · cases h1
  · cases h1
    refine ⟨rfl, fun j v hj => ?_⟩
    rw [cell_of_row w g j cur e (0, 0) h2]
    rw [← h3, List.getElem?_take] at hj
    split at hj
    · simpa using hj
    · cases hj
/-- The element of a place. -/
theorem ixS_R {i : Int} {K : Addr → PT} (h : Row w e sz a n c xs) (h0 : 0 ≤ i) (h1 : i < n) (hk : ∀ b, a = some ⟨b, 0, Option.none⟩ → (∀ j v, xs[j]? = some v → w.cell? ⟨b, j, Option.none⟩ = some v) → K ⟨b, i.toNat * sz, Option.none⟩ w) : ixS a n i sz K w := by
  rcases h.2 with ⟨rfl, rfl, _⟩ | ⟨g, cur, rfl, _⟩
  · exact absurd h1 (by omega)
  · refine ⟨_, rfl, h0, h1, ?_⟩
    rw [add_mk, Nat.zero_add]
    exact hk g rfl (h.cells rfl).2
end

/-- Append. -/
theorem run_app {P : Program} {w : World} {t ty e : TypeId} {sz bytes : Nat} {z : Value} {a : Option Addr} {n c m c2 : Nat} {xs news : List Value} {ad : Addr}
    (ht : P.underlying t = some (.slice e)) (hi : (P.info? e).map (fun i => (i.zero, i.size, i.bytes)) = some (some z, sz, bytes)) (hz : z.cells.size = sz) (h0 : 0 < sz)
    (h : Row w e sz a n c xs) (hl : news.length = m * sz) (hc : ∀ j u, news[j]? = some u → w.cell? (ad.add j) = some u) (h1 : ∀ u ∈ news, u.oneCell' = true) (hm : 0 < m) (h63 : n + m ≤ maxLen) (hb : (n + m) * bytes ≤ 140737488355328) :
    ∃ a' c' w', (Builtin.append_ #[t, t] ty #[.slice a n c, .slice (some ad) m c2]).run P w = .ok (.slice a' (n + m) c') w' ∧ Row w' e sz a' (n + m) c' (xs ++ news) ∧ Keep (inB a) w w' ∧ (a' = a ∨ a' = some ⟨w.heap.size, 0, none⟩) := by
  obtain ⟨i, hi', hz0, hsz, hby⟩ := info_parts hi
  replace hi := hi'
  subst hsz
  subst hby
  have hsmall : n + m ≤ 9223372036854775807 := by simp only [maxLen] at h63; omega
  have hlen : (xs ++ news).length = (n + m) * i.size := by rw [List.length_append, h.1, hl, Nat.add_mul]
  have grown : ∀ (old : Nat), old < n + m →
      Row (w.drew.alloc (.cells (xs.toArray ++ news.toArray ++ Builtin.zeroCells z.cells (grownCap w (n + m) old e - (n + m))) e)) e i.size (some ⟨w.heap.size, 0, none⟩) (n + m) (grownCap w (n + m) old e) (xs ++ news) ∧
      Keep (inB a) w (w.drew.alloc (.cells (xs.toArray ++ news.toArray ++ Builtin.zeroCells z.cells (grownCap w (n + m) old e - (n + m))) e)) := by
    intro old ho
    have hge := grownCap_ge w (n + m) old e
    have hcm : grownCap w (n + m) old e ≤ maxLen := grownCap_le_maxLen w (n + m) old e h63
    refine ⟨⟨hlen, .inr ⟨w.heap.size, _, rfl, heap_alloc_new w.drew _, hge, hcm, ?_, ?_⟩⟩, Keep.refl.drew.alloc _⟩
    · simp only [Array.size_append, List.size_toArray, size_zeroCells, hz, h.1, hl, ← Nat.add_mul]
      congr 1
      omega
    · simp only [Array.toList_append, List.append_assoc]
      rw [← List.append_assoc, ← hlen]
      exact List.take_left
  rcases h.2 with ⟨rfl, rfl, rfl⟩ | ⟨g, cur, rfl, hg, hnc, hcm, hcs, htake⟩
  · have hx : xs = [] := List.eq_nil_of_length_eq_zero (by simpa using h.1)
    subst hx
    have hr := run_append_nil (P := P) w t ty e i z ht hi hz0 ad m c2 news hl hc (by omega) (by omega) (by have hb := hb; simp only [Nat.zero_add] at hb; omega)
    have hgr := grown 0 (by omega)
    simp only [Nat.zero_add, List.nil_append, Array.empty_append] at hgr ⊢
    exact ⟨_, _, _, hr, hgr.1, hgr.2, .inr rfl⟩
  · by_cases hroom : n + m ≤ c
    · have hfit : n * i.size + news.length ≤ cur.size := by rw [hl, hcs, ← Nat.add_mul]; exact Nat.mul_le_mul_right _ hroom
      have hr := run_append_room (P := P) w t ty e i ht hi g n c cur hg ad m c2 news hl hc h1 hroom hfit
      refine ⟨_, _, _, hr, ⟨hlen, .inr ⟨g, _, rfl, setRow_heap w g cur _ e _ hg, hroom, hcm, ?_, ?_⟩⟩, ⟨rfl, rfl, rfl, by simp, fun k _ hk => setRow_other w g k _ (fun e => hk ⟨_, rfl, e.symm⟩)⟩, .inl rfl⟩
      · simp only [List.size_toArray, List.length_append, List.length_take, List.length_drop, Array.length_toList]
        omega
      · rw [htake, ← hlen]
        exact List.take_left
    · have holds : ∀ j u, xs[j]? = some u → w.cell? ((⟨g, 0, none⟩ : Addr).add j) = some u := fun j u hj => by rw [add_mk, Nat.zero_add]; exact (h.cells rfl).2 j u hj
      have hr := run_append_grow (P := P) w t ty e i z ht hi hz0 ⟨g, 0, none⟩ n c xs h.1 holds ad m c2 news hl hc (by omega) (by omega) (growslice_fits (by omega) hb)
      have hgr := grown c (by omega)
      exact ⟨_, _, _, hr, hgr.1, hgr.2, .inr rfl⟩
theorem app_R {w : World} {t ty e : TypeId} {sz bytes : Nat} {z : Value} {a : Option Addr} {n c m c2 : Nat} {xs news : List Value} {ad : Addr} {K : Option Addr → Nat → Nat → PT} {bs : List Bool}
    (ht : Tryd.prog.underlying t = some (.slice e)) (hi : (Tryd.prog.info? e).map (fun i => (i.zero, i.size, i.bytes)) = some (some z, sz, bytes)) (hz : z.cells.size = sz) (h0 : 0 < sz)
    (h : Row w e sz a n c xs) (hl : news.length = m * sz) (hc : ∀ j u, news[j]? = some u → w.cell? (ad.add j) = some u) (h1 : ∀ u ∈ news, u.oneCell' = true) (hm : 0 < m) (h63 : n + m ≤ maxLen) (hb : (n + m) * bytes ≤ 140737488355328)
    (hk : ∀ a' c' w', Row w' e sz a' (n + m) c' (xs ++ news) → Keep (inB a) w w' → (∀ k, inB a' k → inB a k ∨ w.heap.size ≤ k) → K a' (n + m) c' w') :
    runL Tryd.prog (bi .append #[t, t] ty bs [.slice a n c, .slice (some ad) m c2]) K w := by
  obtain ⟨a', c', w', hr, h2, h3, h4⟩ := run_app (ty := ty) (c2 := c2) ht hi hz h0 h hl hc h1 hm h63 hb
  refine ⟨a', n + m, c', w', ?_, hk a' c' w' h2 h3 fun k hin => ?_⟩
  · unfold bi
    simp only [builtin, Sem.run_bind, Sem.run_pure, Result.andThen_ok, hr]
  · rcases h4 with rfl | rfl
    · exact .inl hin
    · obtain ⟨p, hp, rfl⟩ := hin; cases hp; exact .inr (Nat.le_refl _)

/-! ### What came in -/
theorem cell_ext {W w : World} (h : Ext W w) {a : Addr} {v : Value} (hc : W.cell? a = some v) : w.cell? a = some v :=
  (World.cell?_of_block (h.block a.block (World.block_lt_of_cell? W a hc) fun g => g)).trans hc
theorem cell_keep {S : Nat → Prop} {W w : World} (h : Keep S W w) {a : Addr} {v : Value} (hc : W.cell? a = some v) (hs : ¬ S a.block) : w.cell? a = some v :=
  (World.cell?_of_block (h.block a.block (World.block_lt_of_cell? W a hc) hs)).trans hc
/-- A slice that came in, its elements by a function. -/
def Sl (W : World) (a : Option Addr) (n sz : Nat) (f : Nat → List Value) : Prop := ∀ i, i < n → ∃ ad, a = some ad ∧ (f i).length = sz ∧ cellsAt W (ad.add (i * sz)) (f i)
theorem ixS_Sl {W w : World} {a : Option Addr} {n sz : Nat} {f : Nat → List Value} {i : Int} {K : Addr → PT} (h : Sl W a n sz f) (h0 : 0 ≤ i) (h1 : i < n) (hk : ∀ ad, (∀ w', Ext W w' → cellsAt w' ad (f i.toNat)) → (f i.toNat).length = sz → K ad w) : ixS a n i sz K w := by
  obtain ⟨ad, rfl, h2, h3⟩ := h i.toNat (by omega)
  exact ⟨ad, rfl, h0, h1, hk _ (fun w' k' j v hj => cell_ext k' (h3 j v hj)) h2⟩
theorem ldI_at {w : World} {ad : Addr} {cs : List Value} {j : Nat} {k : IntKind} {n : Int} {K : Int → PT} (h : cellsAt w ad cs) (hj : cs[j]? = some (.int k n)) (hk : K n w) : ldI k (ad.add j) K w := ⟨n, h j _ hj, hk⟩
theorem ldB_at {w : World} {ad : Addr} {cs : List Value} {j : Nat} {n : Bool} {K : Bool → PT} (h : cellsAt w ad cs) (hj : cs[j]? = some (.bool n)) (hk : K n w) : ldB (ad.add j) K w := ⟨n, h j _ hj, hk⟩
theorem ldN_at {w : World} {ad : Addr} {cs : List Value} {n : Nat} {K : List Value → PT} (h : cellsAt w ad cs) (hn : cs.length = n) (hk : K cs w) : ldN n ad K w := ⟨cs, hn, h, hk⟩

theorem Typ.int {P : Program} {w : World} {fuel : Nat} {t : TypeId} {cs : List Value} {k : IntKind} (hu : P.underlying t = some (.int k)) (h : Typ P w fuel t cs) : ∃ n, cs = [.int k n] ∧ k.min ≤ n ∧ n ≤ k.max := by
  cases fuel with
  | zero => exact h.elim
  | succ f =>
    unfold Typ at h; rw [hu] at h
    obtain ⟨n, h1, h2⟩ := h
    simp [Lit.wf] at h2
    exact ⟨n, h1, h2⟩
theorem Typ.bool {P : Program} {w : World} {fuel : Nat} {t : TypeId} {cs : List Value} (hu : P.underlying t = some .bool) (h : Typ P w fuel t cs) : ∃ n, cs = [.bool n] := by
  cases fuel with
  | zero => exact h.elim
  | succ f => unfold Typ at h; rw [hu] at h; exact h
theorem Typ.str {P : Program} {w : World} {fuel : Nat} {t : TypeId} {cs : List Value} (hu : P.underlying t = some .string) (h : Typ P w fuel t cs) : ∃ s, cs = [.string s] ∧ s.size ≤ maxLen := by
  cases fuel with
  | zero => exact h.elim
  | succ f => unfold Typ at h; rw [hu] at h; exact h
theorem Typ.struct {P : Program} {w : World} {fuel : Nat} {t : TypeId} {cs : List Value} {fs : Array Field} {n : Nat} (hu : P.underlying t = some (.struct fs)) (hn : P.cellsOf t = n) (h : Typ P w fuel t cs) :
    cs.length = n ∧ ∃ g, ∀ f ∈ fs.toList, Typ P w g f.type ((cs.drop f.offset).take (P.cellsOf f.type)) := by
  cases fuel with
  | zero => exact h.elim
  | succ f => unfold Typ at h; rw [hu] at h; subst hn; exact ⟨h.1, f, h.2⟩

/-! ### Regions that draw their order -/
section
variable {w : World} {S : PT} {a : Addr}
theorem drawn_of {B : PT → PT} (S : PT) (h1 : S w.drew) (h2 : B S w.drew) : drawn B w := ⟨S, h1, h2⟩
theorem sAnd_of {K : PT} (h1 : S w) (h2 : K w) : sAnd S K w := ⟨h1, h2⟩
theorem hI_of {k : IntKind} {K : Int → PT} {n : Int} (h : ∀ w', S w' → w'.cell? a = some (.int k n)) (hk : K n w) : hI S k a K w := ⟨n, h, hk⟩
theorem hB_of {K : Bool → PT} {n : Bool} (h : ∀ w', S w' → w'.cell? a = some (.bool n)) (hk : K n w) : hB S a K w := ⟨n, h, hk⟩
theorem hS_of {K : ByteArray → PT} {n : ByteArray} (h : ∀ w', S w' → w'.cell? a = some (.string n)) (hk : K n w) : hS S a K w := ⟨n, h, hk⟩
theorem hP_of {K : Option Addr → PT} {n : Option Addr} (h : ∀ w', S w' → w'.cell? a = some (.pointer n)) (hk : K n w) : hP S a K w := ⟨n, h, hk⟩
theorem hM_of {K : Option Nat → PT} {n : Option Nat} (h : ∀ w', S w' → w'.cell? a = some (.map n)) (hk : K n w) : hM S a K w := ⟨n, h, hk⟩
theorem hL_of {K : Option Addr → Nat → Nat → PT} {b : Option Addr} {n c : Nat} (h : ∀ w', S w' → w'.cell? a = some (.slice b n c)) (hk : K b n c w) : hL S a K w := ⟨b, n, c, h, hk⟩
theorem hN_of {K : List Value → PT} {n : Nat} {cs : List Value} (hn : cs.length = n) (h : ∀ w', S w' → cellsAt w' a cs) (hk : K cs w) : hN S n a K w := ⟨cs, hn, h, hk⟩
theorem ldI_of {k : IntKind} {K : Int → PT} {n : Int} (h : w.cell? a = some (.int k n)) (hk : K n w) : ldI k a K w := ⟨n, h, hk⟩
theorem ldB_of {K : Bool → PT} {n : Bool} (h : w.cell? a = some (.bool n)) (hk : K n w) : ldB a K w := ⟨n, h, hk⟩
theorem ldS_of {K : ByteArray → PT} {n : ByteArray} (h : w.cell? a = some (.string n)) (hk : K n w) : ldS a K w := ⟨n, h, hk⟩
theorem ldP_of {K : Option Addr → PT} {n : Option Addr} (h : w.cell? a = some (.pointer n)) (hk : K n w) : ldP a K w := ⟨n, h, hk⟩
theorem ldM_of {K : Option Nat → PT} {n : Option Nat} (h : w.cell? a = some (.map n)) (hk : K n w) : ldM a K w := ⟨n, h, hk⟩
theorem ldL_of {K : Option Addr → Nat → Nat → PT} {b : Option Addr} {n c : Nat} (h : w.cell? a = some (.slice b n c)) (hk : K b n c w) : ldL a K w := ⟨b, n, c, h, hk⟩
theorem ldV_of {K : Value → PT} {n : Value} (h : w.cell? a = some n) (hk : K n w) : ldV a K w := ⟨n, h, hk⟩
theorem cnd_of {c : Prop} {K : PT} (h : c) (hk : K w) : cnd c K w := ⟨h, hk⟩
theorem ixS_of {a : Option Addr} {b : Addr} {n : Nat} {i : Int} {sz : Nat} {K : Addr → PT} (h : a = some b) (h0 : 0 ≤ i) (h1 : i < n) (hk : K (b.add (i.toNat * sz)) w) : ixS a n i sz K w := ⟨b, h, h0, h1, hk⟩
end

/-- A loop that goes on for so many rounds. -/
theorem exK_of {f : Nat → PT} {w : World} (k : Nat) (h : f k w) : exK f w := ⟨k, h⟩
theorem wrap_nat {n : Nat} (h : n ≤ 9223372036854775807) : IntKind.wrap .i64 ((n : Int)) = n := wrap_in (by omega) (by omega)
/-- A mask of low bits. -/
theorem and_mask (x m : Int) (h0 : 0 ≤ m) (h1 : m ≤ 9223372036854775807) : 0 ≤ IntKind.wrap .i64 ((BitVec.ofInt (IntKind.bits .i64) x &&& BitVec.ofInt (IntKind.bits .i64) m).toNat : Nat) ∧ IntKind.wrap .i64 ((BitVec.ofInt (IntKind.bits .i64) x &&& BitVec.ofInt (IntKind.bits .i64) m).toNat : Nat) ≤ m := by
  have hm : (BitVec.ofInt (IntKind.bits .i64) m).toNat = m.toNat := by
    show (BitVec.ofInt 64 m).toNat = m.toNat
    rw [BitVec.toNat_ofInt]
    omega
  have hle : (BitVec.ofInt (IntKind.bits .i64) x &&& BitVec.ofInt (IntKind.bits .i64) m).toNat ≤ m.toNat := by
    rw [BitVec.toNat_and, hm]; exact Nat.and_le_right
  rw [wrap_in (by omega) (by omega)]
  omega

/-- What a law's call is to end in. -/
def Good (W : World) : Bool → PT := fun r w => r = true ∧ Ext W w
theorem Keep.own {W w w' : World} {b : Nat} (k : Ext W w) (hb : W.heap.size ≤ b) (h : Keep (· = b) w w') : Ext W w' := k.trans_new h fun i hi e => by subst e; omega
theorem wrap_nat1 {i : Nat} (h : i < 9223372036854775807) : IntKind.wrap .i64 ((i : Int) + 1) = ((i + 1 : Nat) : Int) := by rw [wrap_in (by omega) (by omega)]; omega

end Go.Proofs.YtllgjjldnnmjkaaDoor
