/-
  What lies in memory as a row of facts, each with its own blocks: one hypothesis that is carried through a walk. No condition.
-/
import Derived.Test.YtllgjjldnnmjkaaDoorWlMap
set_option linter.unusedVariables false
set_option maxRecDepth 100000
namespace Go.Proofs.YtllgjjldnnmjkaaDoor
open Go.RowKit

/-- A fact on memory: the blocks that it speaks of. -/
structure Fct where
  fp : Nat → Prop
  P : World → Prop
  lt : ∀ w, P w → ∀ k, fp k → k < w.heap.size
  st : ∀ w w' (S : Nat → Prop), P w → Keep S w w' → (∀ k, fp k → ¬ S k) → P w'
/-- A block. -/
def fB (b : Nat) (cs : List Value) : Fct := ⟨(· = b), fun w => IsB w b cs, fun w h k e => by subst e; exact h.lt, fun w w' S h k hs => h.keep k (hs b rfl)⟩
/-- A slice of things. -/
def fL {α : Type} (e : TypeId) (sz : Nat) (f : α → List Value) (a : Option Addr) (n c : Nat) (l : List α) : Fct := ⟨inB a, fun w => Lst w e sz f a n c l, fun w h k e => h.lt e, fun w w' S h k hs => h.keep k hs⟩
/-- A map from texts to ints. -/
def fM (b : Nat) (m : List (ByteArray × Int)) : Fct := ⟨(· = b), fun w => MapB w b m, fun w h k e => by subst e; exact h.lt, fun w w' S h k hs => h.keep k (hs b rfl)⟩
def apart (f g : Fct) : Prop := ∀ k, f.fp k → ¬ g.fp k
theorem apart.symm {f g : Fct} (h : apart f g) : apart g f := fun k h1 h2 => h k h2 h1
/-- A slice of things, of which those of ls have blocks of their own. -/
def fNp {α : Type} (e : TypeId) (sz : Nat) (f : α → List Value) (sub : α → Fct) (a : Option Addr) (n c : Nat) (l ls : List α) : Fct where
  fp k := inB a k ∨ ∃ x ∈ ls, (sub x).fp k
  P w := Lst w e sz f a n c l ∧ (∀ x ∈ ls, (sub x).P w ∧ ∀ k, inB a k → ¬ (sub x).fp k) ∧ ls.Pairwise fun x y => apart (sub x) (sub y)
  lt w h k hk := by
    rcases hk with hk | ⟨x, hx, hk⟩
    · exact h.1.lt hk
    · exact (sub x).lt w (h.2.1 x hx).1 k hk
  st w w' S h k hs := ⟨h.1.keep k fun q hq => hs q (.inl hq), fun x hx => ⟨(sub x).st w w' S (h.2.1 x hx).1 k fun q hq => hs q (.inr ⟨x, hx, hq⟩), (h.2.1 x hx).2⟩, h.2.2⟩
/-- A slice of things that have blocks of their own. -/
def fN {α : Type} (e : TypeId) (sz : Nat) (f : α → List Value) (sub : α → Fct) (a : Option Addr) (n c : Nat) (l : List α) : Fct := fNp e sz f sub a n c l l

/-- All facts hold, each with blocks of its own; of what was there ahead of w0 nothing has turned but in S. -/
structure Sep (S : Nat → Prop) (w0 w : World) (L : List Fct) : Prop where
  kept : Keep S w0 w
  all : ∀ f ∈ L, f.P w
  own : ∀ f ∈ L, ∀ k, f.fp k → w0.heap.size ≤ k ∨ S k
  dis : L.Pairwise apart
section
variable {S T : Nat → Prop} {w0 w w' : World} {L : List Fct}
theorem Sep.start (S : Nat → Prop) (w : World) : Sep S w w [] := ⟨Keep.refl, by simp, by simp, List.Pairwise.nil⟩
theorem Sep.start1 {f : Fct} (h : f.P w) (hs : ∀ k, f.fp k → S k) : Sep S w w [f] := ⟨Keep.refl, by simp [h], by simp; exact fun k hk => .inr (hs k hk), by simp⟩
theorem Sep.at {n : Nat} {f : Fct} (h : Sep S w0 w L) (hn : L[n]? = some f) : f.P w := h.all f (List.mem_of_getElem? hn)
theorem Sep.lt {n : Nat} {f : Fct} (h : Sep S w0 w L) (hn : L[n]? = some f) {k : Nat} (hk : f.fp k) : k < w.heap.size := f.lt w (h.at hn) k hk
theorem Sep.drew (h : Sep S w0 w L) : Sep S w0 w.drew L := ⟨h.kept.drew, fun f hf => f.st w _ (fun _ => False) (h.all f hf) (Keep.refl.drew) (fun _ _ g => g), h.own, h.dis⟩
theorem Sep.ext (h : Sep S w0 w L) (k : Ext w w') : Sep S w0 w' L := ⟨h.kept.trans (k.mono fun _ _ g => g.elim), fun f hf => f.st w w' _ (h.all f hf) k fun _ _ g => g, h.own, h.dis⟩
theorem Sep.sub {M : List Fct} (h : Sep S w0 w L) (hm : M.Sublist L) : Sep S w0 w M := ⟨h.kept, fun f hf => h.all f (hm.subset hf), fun f hf => h.own f (hm.subset hf), h.dis.sublist hm⟩
theorem Sep.drop (h : Sep S w0 w L) (n : Nat) : Sep S w0 w (L.eraseIdx n) := h.sub (List.eraseIdx_sublist ..)
/-- A new fact about new blocks. -/
theorem Sep.add {f : Fct} (h : Sep S w0 w L) (k : Ext w w') (hf : f.P w') (hn : ∀ k, f.fp k → w.heap.size ≤ k) : Sep S w0 w' (f :: L) := by
  have h' := h.ext k
  refine ⟨h'.kept, ?_, ?_, List.pairwise_cons.2 ⟨fun g hg q hq hq' => ?_, h.dis⟩⟩
  · intro g hg
    rcases List.mem_cons.1 hg with rfl | hg
    · exact hf
    · exact h'.all g hg
  · intro g hg q hq
    rcases List.mem_cons.1 hg with rfl | hg
    · exact .inl (Nat.le_trans h.kept.size (hn q hq))
    · exact h.own g hg q hq
  · have := hn q hq
    have := g.lt w (h.all g hg) q hq'
    omega
theorem mem_set {L : List Fct} {n : Nat} {f g : Fct} (h : g ∈ L.set n f) : g = f ∨ ∃ i, i ≠ n ∧ L[i]? = some g := by
  obtain ⟨i, hi⟩ := List.mem_iff_getElem?.1 h
  rw [List.getElem?_set] at hi
  split at hi
  · split at hi
    · cases hi; exact .inl rfl
    · cases hi
  · rename_i hne
    exact .inr ⟨i, fun e => hne e.symm, hi⟩
theorem pw_at {R : Fct → Fct → Prop} (hs : ∀ {f g}, R f g → R g f) (h : L.Pairwise R) {i j : Nat} {f g : Fct} (hi : L[i]? = some f) (hj : L[j]? = some g) (hne : i ≠ j) : R f g := by
  obtain ⟨li, ei⟩ := List.getElem?_eq_some_iff.1 hi
  obtain ⟨lj, ej⟩ := List.getElem?_eq_some_iff.1 hj
  subst ei ej
  rcases Nat.lt_or_ge i j with g | g
  · exact List.pairwise_iff_getElem.1 h i j li lj g
  · exact hs (List.pairwise_iff_getElem.1 h j i lj li (by omega))
theorem pw_set {R : Fct → Fct → Prop} (hs : ∀ {f g}, R f g → R g f) (h : L.Pairwise R) {n : Nat} {f : Fct} (hf : ∀ i g, i ≠ n → L[i]? = some g → R f g) : (L.set n f).Pairwise R := by
  rw [List.pairwise_iff_getElem] at h ⊢
  intro i j hi hj hij
  simp only [List.length_set] at hi hj
  rw [List.getElem_set, List.getElem_set]
  split
  · rename_i e
    rw [if_neg (by omega)]
    exact hf j _ (by omega) (List.getElem?_eq_getElem hj)
  · split
    · rename_i e
      exact hs (hf i _ (by omega) (List.getElem?_eq_getElem hi))
    · exact h i j hi hj hij
/-- One fact turns into another one. -/
theorem Sep.turn {n : Nat} {f g : Fct} (h : Sep S w0 w L) (hn : L[n]? = some f) (k : Keep f.fp w w') (hg : g.P w') (hs : ∀ k, g.fp k → f.fp k ∨ w.heap.size ≤ k) : Sep S w0 w' (L.set n g) := by
  have sz := h.kept.size
  refine ⟨h.kept.trans_new k fun i hi hf => (h.own f (List.mem_of_getElem? hn) i hf).elim (fun g => by omega) id, ?_, ?_, pw_set apart.symm h.dis fun i q hi hq => ?_⟩
  · intro q hq
    rcases mem_set hq with rfl | ⟨i, hi, hq⟩
    · exact hg
    · exact q.st w w' _ (h.all q (List.mem_of_getElem? hq)) k fun j h1 h2 => pw_at apart.symm h.dis hq hn hi j h1 h2
  · intro q hq j hj
    rcases mem_set hq with rfl | ⟨i, hi, hq⟩
    · rcases hs j hj with g | g
      · exact h.own f (List.mem_of_getElem? hn) j g
      · exact .inl (by omega)
    · exact h.own q (List.mem_of_getElem? hq) j hj
  · intro j h1 h2
    rcases hs j h1 with g | g
    · exact pw_at apart.symm h.dis hn hq (fun e => hi e.symm) j g h2
    · have := q.lt w (h.all q (List.mem_of_getElem? hq)) j h2
      omega
/-- One fact turns, and there is a new one besides. -/
theorem Sep.turnAdd {n : Nat} {f g q : Fct} (h : Sep S w0 w L) (hn : L[n]? = some f) (k : Keep f.fp w w') (hg : g.P w') (hs : ∀ k, g.fp k → f.fp k) (hq : q.P w') (hs' : ∀ k, q.fp k → w.heap.size ≤ k) : Sep S w0 w' (q :: L.set n g) := by
  have h' := h.turn hn k hg fun k hk => .inl (hs k hk)
  refine ⟨h'.kept, ?_, ?_, List.pairwise_cons.2 ⟨fun r hr j h1 h2 => ?_, h'.dis⟩⟩
  · intro r hr
    rcases List.mem_cons.1 hr with rfl | hr
    · exact hq
    · exact h'.all r hr
  · intro r hr j hj
    rcases List.mem_cons.1 hr with rfl | hr
    · exact .inl (Nat.le_trans h.kept.size (hs' j hj))
    · exact h'.own r hr j hj
  · have g1 := hs' j h1
    rcases mem_set hr with rfl | ⟨i, hi, hr⟩
    · have := f.lt w (h.at hn) j (hs j h2); omega
    · have := r.lt w (h.all r (List.mem_of_getElem? hr)) j h2; omega
theorem Sep.new {e : TypeId} {cs : List Value} {K : Addr → PT} (h : Sep S w0 w L) (hk : ∀ w' b, Sep S w0 w' (fB b cs :: L) → Ext w w' → K ⟨b, 0, none⟩ w') : newC e cs K w :=
  newC_B fun w1 b1 k1 s1 => hk w1 _ (h.add k1 (f := fB w.heap.size cs) b1 fun k e => by subst e; exact Nat.le_refl _) k1
/-- A slice of one thing. -/
theorem Sep.newL {α : Type} {f : α → List Value} {x : α} {sz : Nat} {e : TypeId} {K : Addr → PT} (h : Sep S w0 w L) (hf : (f x).length = sz) (hk : ∀ w' b, Sep S w0 w' (fL e sz f (some ⟨b, 0, none⟩) 1 1 [x] :: L) → Ext w w' → K ⟨b, 0, none⟩ w') : newC e (f x) K w :=
  newC_E fun w1 b1 k1 s1 => hk w1 _ (h.add k1 (f := fL e sz f (some ⟨w.heap.size, 0, none⟩) 1 1 [x]) (Lst.one b1 hf) (by rintro k ⟨p, hp, rfl⟩; cases hp; exact Nat.le_refl _)) k1
theorem Sep.newR {α : Type} (f : α → List Value) {sz : Nat} {e : TypeId} {K : Addr → PT} (h : Sep S w0 w L) (hk : ∀ w' b, Sep S w0 w' (fL e sz f (some ⟨b, 0, none⟩) 0 0 [] :: L) → Ext w w' → K ⟨b, 0, none⟩ w') : newC e [] K w := by
  refine hk (w.alloc (.cells ⟨[]⟩ e)) w.heap.size (h.add (Keep.refl.alloc _) (f := fL e sz f (some ⟨w.heap.size, 0, none⟩) 0 0 []) (Lst.new w e sz f) ?_) (Keep.refl.alloc _)
  rintro k ⟨p, hp, rfl⟩; cases hp; exact Nat.le_refl _
theorem Sep.st1 (n : Nat) {b i : Nat} {cs : List Value} {v : Value} {K : PT} (h : Sep S w0 w L) (hn : L[n]? = some (fB b cs)) (hi : i < cs.length) (hv : v.oneCell' = true) (hk : ∀ w', Sep S w0 w' (L.set n (fB b (cs.set i v))) → Keep (· = b) w w' → K w') : st1 ⟨b, i, none⟩ v K w :=
  st1_B (h.at hn : IsB w b cs) hi hv fun w' b' k' => hk w' (h.turn hn k' (g := fB b (cs.set i v)) b' fun k e => .inl e) k'
theorem Sep.stN (n : Nat) {b i m : Nat} {cs vs cs' : List Value} {K : PT} (h : Sep S w0 w L) (hn : L[n]? = some (fB b cs)) (hi : i + m ≤ cs.length) (hm : vs.length = m) (hv : ∀ v ∈ vs, v.oneCell' = true) (hc : lay cs i vs = cs') (hk : ∀ w', Sep S w0 w' (L.set n (fB b cs')) → Keep (· = b) w w' → K w') : stN m ⟨b, i, none⟩ vs K w :=
  stN_B (h.at hn : IsB w b cs) hi hm hv fun w' b' k' => hk w' (h.turn hn k' (g := fB b cs') (hc ▸ b') fun k e => .inl e) k'
section
variable {n b i : Nat} {cs : List Value}
theorem Sep.ldI (h : Sep S w0 w L) (n : Nat) {k : IntKind} {x : Int} {K : Int → PT} (hn : L[n]? = some (fB b cs)) (hc : cs[i]? = some (.int k x)) (hk : K x w) : ldI k ⟨b, i, none⟩ K w := ldI_B (h.at hn : IsB w b cs) hc hk
theorem Sep.ldB (h : Sep S w0 w L) (n : Nat) {x : Bool} {K : Bool → PT} (hn : L[n]? = some (fB b cs)) (hc : cs[i]? = some (.bool x)) (hk : K x w) : ldB ⟨b, i, none⟩ K w := ldB_B (h.at hn : IsB w b cs) hc hk
theorem Sep.ldS (h : Sep S w0 w L) (n : Nat) {x : ByteArray} {K : ByteArray → PT} (hn : L[n]? = some (fB b cs)) (hc : cs[i]? = some (.string x)) (hk : K x w) : ldS ⟨b, i, none⟩ K w := ldS_of (((h.at hn : IsB w b cs).cell i).trans hc) hk
theorem Sep.ldP (h : Sep S w0 w L) (n : Nat) {x : Option Addr} {K : Option Addr → PT} (hn : L[n]? = some (fB b cs)) (hc : cs[i]? = some (.pointer x)) (hk : K x w) : ldP ⟨b, i, none⟩ K w := ldP_of (((h.at hn : IsB w b cs).cell i).trans hc) hk
theorem Sep.ldM (h : Sep S w0 w L) (n : Nat) {x : Option Nat} {K : Option Nat → PT} (hn : L[n]? = some (fB b cs)) (hc : cs[i]? = some (.map x)) (hk : K x w) : ldM ⟨b, i, none⟩ K w := ldM_of (((h.at hn : IsB w b cs).cell i).trans hc) hk
theorem Sep.ldL (h : Sep S w0 w L) (n : Nat) {x : Option Addr} {y z : Nat} {K : Option Addr → Nat → Nat → PT} (hn : L[n]? = some (fB b cs)) (hc : cs[i]? = some (.slice x y z)) (hk : K x y z w) : ldL ⟨b, i, none⟩ K w := ldL_of (((h.at hn : IsB w b cs).cell i).trans hc) hk
theorem Sep.ldV (h : Sep S w0 w L) (n : Nat) {x : Value} {K : Value → PT} (hn : L[n]? = some (fB b cs)) (hc : cs[i]? = some x) (hk : K x w) : ldV ⟨b, i, none⟩ K w := ldV_of (((h.at hn : IsB w b cs).cell i).trans hc) hk
theorem Sep.ldN (h : Sep S w0 w L) (n : Nat) {m : Nat} {vs : List Value} {K : List Value → PT} (hn : L[n]? = some (fB b cs)) (hc : Go.Proofs.YtllgjjldnnmjkaaDoor.sub cs i m = vs) (hm : vs.length = m) (hk : K vs w) : ldN m ⟨b, i, none⟩ K w := ldN_B (h.at hn : IsB w b cs) hc hm hk
end
/-- A loop draws: what was read stands fast. -/
theorem Sep.drawn {B : PT → PT} (h : Sep S w0 w L) (P : PT) (h1 : P w.drew) (h2 : Sep S w0 w.drew L → B P w.drew) : drawn B w := drawn_of P h1 (h2 h.drew)
/-- One more at a slice's end. -/
theorem Sep.app (n : Nat) {α : Type} {f : α → List Value} {sz : Nat} {e : TypeId} {a : Option Addr} {m c : Nat} {l : List α} {t ty : TypeId} {bytes : Nat} {z : Value} {x : α} {ad : Addr} {K : Option Addr → Nat → Nat → PT} {bs : List Bool} {c2 : Nat}
    (h : Sep S w0 w L) (hn : L[n]? = some (fL e sz f a m c l)) (ht : Tryd.prog.underlying t = some (.slice e)) (hi : (Tryd.prog.info? e).map (fun i => (i.zero, i.size, i.bytes)) = some (some z, sz, bytes)) (hz : z.cells.size = sz) (h0 : 0 < sz) (hf : ∀ x, (f x).length = sz) (h1 : ∀ v ∈ f x, v.oneCell' = true)
    (hc : ∀ j u, (f x)[j]? = some u → w.cell? (ad.add j) = some u) (hb : bytes ≤ 1000) (hm : l.length ≤ 100000000)
    (hk : ∀ a' c' w', Sep S w0 w' (L.set n (fL e sz f a' (m + 1) c' (l ++ [x]))) → Keep (inB a) w w' → K a' (m + 1) c' w') :
    runL Tryd.prog (bi .append #[t, t] ty bs [.slice a m c, .slice (some ad) 1 c2]) K w := by
  have hl : Lst w e sz f a m c l := h.at hn
  exact app_Lst ht hi hz h0 hf h1 hl hc hb (by rw [hl.1]; exact hm) fun a' c' w' g1 g2 g3 => hk a' c' w' (h.turn hn g2 (g := fL e sz f a' (m + 1) c' (l ++ [x])) g1 g3) g2
end
/-- Nothing at all. -/
def fT : Fct := ⟨fun _ => False, fun _ => True, fun _ _ _ h => h.elim, fun _ _ _ _ _ _ => trivial⟩
section
variable {S T : Nat → Prop} {w0 w w' : World} {L : List Fct}
/-- Two facts become one. -/
theorem Sep.join {n m : Nat} {f q g : Fct} (h : Sep S w0 w L) (hn : L[n]? = some f) (hm : L[m]? = some q) (hne : n ≠ m) (hg : g.P w) (hs : ∀ k, g.fp k → f.fp k ∨ q.fp k) : Sep S w0 w ((L.set n g).set m fT) := by
  have hset : (L.set n g).set m fT = (L.set m fT).set n g := List.set_comm g fT hne
  have h1 : Sep S w0 w (L.set m fT) := by
    refine ⟨h.kept, ?_, ?_, pw_set apart.symm h.dis fun i r hi hr k h1 => h1.elim⟩
    · intro r hr
      rcases mem_set hr with rfl | ⟨i, hi, hr⟩
      · trivial
      · exact h.all r (List.mem_of_getElem? hr)
    · intro r hr k hk
      rcases mem_set hr with rfl | ⟨i, hi, hr⟩
      · exact hk.elim
      · exact h.own r (List.mem_of_getElem? hr) k hk
  rw [hset]
  refine ⟨h1.kept, ?_, ?_, pw_set apart.symm h1.dis fun i r hi hr k hk hk' => ?_⟩
  · intro r hr
    rcases mem_set hr with rfl | ⟨i, hi, hr⟩
    · exact hg
    · exact h1.all r (List.mem_of_getElem? hr)
  · intro r hr k hk
    rcases mem_set hr with rfl | ⟨i, hi, hr⟩
    · rcases hs k hk with g | g
      · exact h.own f (List.mem_of_getElem? hn) k g
      · exact h.own q (List.mem_of_getElem? hm) k g
    · exact h1.own r (List.mem_of_getElem? hr) k hk
  · rw [List.getElem?_set] at hr
    split at hr
    · split at hr
      · cases hr; exact hk'.elim
      · cases hr
    · rename_i hmi
      rcases hs k hk with g | g
      · exact pw_at apart.symm h.dis hn hr (fun e => hi e.symm) k g hk'
      · exact pw_at apart.symm h.dis hm hr hmi k g hk'
theorem mem_fp {α : Type} {sub : α → Fct} {l : List α} {x : α} {k : Nat} : (∃ y ∈ l ++ [x], (sub y).fp k) ↔ (∃ y ∈ l, (sub y).fp k) ∨ (sub x).fp k := by
  constructor
  · rintro ⟨y, hy, hk⟩
    rcases List.mem_append.1 hy with hy | hy
    · exact .inl ⟨y, hy, hk⟩
    · rw [List.mem_singleton.1 hy] at hk; exact .inr hk
  · rintro (⟨y, hy, hk⟩ | hk)
    · exact ⟨y, List.mem_append_left _ hy, hk⟩
    · exact ⟨x, by simp, hk⟩
/-- One more thing with blocks of its own. -/
theorem Sep.appN (n m : Nat) {α : Type} {f : α → List Value} {sub : α → Fct} {sz : Nat} {e : TypeId} {a : Option Addr} {j c : Nat} {l : List α} {t ty : TypeId} {bytes : Nat} {z : Value} {x : α} {ad : Addr} {K : Option Addr → Nat → Nat → PT} {bs : List Bool} {c2 : Nat}
    (h : Sep S w0 w L) (hn : L[n]? = some (fN e sz f sub a j c l)) (hm : L[m]? = some (sub x)) (hne : n ≠ m) (ht : Tryd.prog.underlying t = some (.slice e)) (hi : (Tryd.prog.info? e).map (fun i => (i.zero, i.size, i.bytes)) = some (some z, sz, bytes)) (hz : z.cells.size = sz) (h0 : 0 < sz) (hf : ∀ x, (f x).length = sz) (h1 : ∀ v ∈ f x, v.oneCell' = true)
    (hc : ∀ j u, (f x)[j]? = some u → w.cell? (ad.add j) = some u) (hb : bytes ≤ 1000) (hl : l.length ≤ 100000000)
    (hk : ∀ a' c' w', Sep S w0 w' ((L.set n (fN e sz f sub a' (j + 1) c' (l ++ [x]))).set m fT) → Keep (inB a) w w' → K a' (j + 1) c' w') :
    runL Tryd.prog (bi .append #[t, t] ty bs [.slice a j c, .slice (some ad) 1 c2]) K w := by
  obtain ⟨p1, p2, p3⟩ : (fN e sz f sub a j c l).P w := h.at hn
  refine app_Lst ht hi hz h0 hf h1 p1 hc hb (by rw [p1.1]; exact hl) fun a' c' w' g1 g2 g3 => hk a' c' w' ?_ g2
  have hlt : ∀ k, (fN e sz f sub a j c l).fp k → k < w.heap.size := fun k hk => h.lt hn hk
  generalize hg : fNp e sz f sub a' (j + 1) c' (l ++ [x]) l = g
  have h2 : Sep S w0 w' (L.set n g) := by
    subst hg
    refine h.turn hn (g2.mono fun k _ hk => .inl hk) (g := fNp e sz f sub a' (j + 1) c' (l ++ [x]) l) ⟨g1, fun y hy => ⟨(sub y).st w w' _ (p2 y hy).1 g2 fun k hk hk' => (p2 y hy).2 k hk' hk, fun k hk hk' => ?_⟩, p3⟩ fun k hk => ?_
    · rcases g3 k hk with g | g
      · exact (p2 y hy).2 k g hk'
      · have := hlt k (.inr ⟨y, hy, hk'⟩); omega
    · rcases hk with hk | hk
      · rcases g3 k hk with g | g
        · exact .inl (.inl g)
        · exact .inr g
      · exact .inl (.inr hk)
  have hn2 : (L.set n g)[n]? = some g := by rw [List.getElem?_set_self (List.getElem?_eq_some_iff.1 hn).1]
  have hm2 : (L.set n g)[m]? = some (sub x) := by rw [List.getElem?_set_ne hne]; exact hm
  have hap : apart g (sub x) := pw_at apart.symm h2.dis hn2 hm2 hne
  have hx : (sub x).P w' := h2.at hm2
  subst hg
  have h3 := h2.join hn2 hm2 hne (g := fN e sz f sub a' (j + 1) c' (l ++ [x])) ⟨g1, fun y hy => ?_, List.pairwise_append.2 ⟨p3, by simp, fun y hy q hq k h1 h2 => ?_⟩⟩ fun k hk => ?_
  · rwa [List.set_set] at h3
  · rcases List.mem_append.1 hy with hy | hy
    · exact (h2.at hn2 : (fNp e sz f sub a' (j + 1) c' (l ++ [x]) l).P w').2.1 y hy
    · rw [List.mem_singleton.1 hy]
      exact ⟨hx, fun k hk hk' => hap k (.inl hk) hk'⟩
  · rw [List.mem_singleton.1 hq] at h2
    exact hap k (.inr ⟨y, hy, h1⟩) h2
  · rcases hk with hk | hk
    · exact .inl (.inl hk)
    · rcases mem_fp.1 hk with hk | hk
      · exact .inl (.inr hk)
      · exact .inr hk
end
end Go.Proofs.YtllgjjldnnmjkaaDoor
