/-
  What the document's answer for a hold does, on five numbers and a list, and that its code does just this. No condition but that the list is short.
-/
import Derived.Test.YthheldpjcndelaaHoldLaws
namespace Go.Proofs.Ythheldpjcndelaa
open Go.RowKit
set_option linter.unusedVariables false
set_option linter.unusedSimpArgs false

structure Rf where
  life : Int
  floor : Int
  top : Int
  use : Int
  said : Int
  items : List (Int × Int)
namespace Rf
/-- Those of an epoch, and of how many the last of them is. -/
def count (e : Int) : List (Int × Int) → Int → Int → Int × Int
  | [], n, o => (n, o)
  | x :: l, n, o => if x.1 = e then count e l (n + 1) x.2 else count e l n o
def forget (r : Rf) : Rf :=
  { r with items := r.items.filter (fun x => decide (x.1 = r.floor) || decide (x.1 = r.top)), use := if r.use ≠ r.floor ∧ r.use ≠ r.top then 0 else r.use, said := if r.use ≠ r.floor ∧ r.use ≠ r.top then 0 else r.said }
def lift (r : Rf) (f : Int) : Rf := if f > r.floor then forget { r with floor := f, top := if f > r.top then f else r.top } else r
def reach (r : Rf) (e : Int) : Rf := if e > r.top then forget { r with top := e } else r
def itemIn (r : Rf) (e i o : Int) : Rf × Int :=
  if (e ≠ r.floor ∧ e ≠ r.top) ∨ ((count e r.items 0 0).1 > 0 ∧ (count e r.items 0 0).2 ≠ o) ∨ i > (count e r.items 0 0).1 then (r, 0)
  else if i < (count e r.items 0 0).1 then (r, 2) else ({ r with items := r.items ++ [(e, o)] }, 1)
def item (r : Rf) (f e i o : Int) : Rf × Int :=
  if f < 0 then (r, 0) else if e < 1 then (r, 0) else if i < 0 then (r, 0) else if o ≤ i then (r, 0) else ((r.lift f).reach e).itemIn e i o
def full (r : Rf) (e : Int) : Bool := if (count e r.items 0 0).1 > 0 then (count e r.items 0 0).1 == (count e r.items 0 0).2 else false
def turn1 (r : Rf) (sent use : Int) : Rf := if r.full use = true ∧ use = r.use ∧ sent > r.said then { r with said := sent } else r
def turn2 (r : Rf) (sent use : Int) : Rf := if r.full use = true ∧ use > r.use then { r with use := use, said := sent } else r
def lead (r : Rf) (sent use f : Int) : Rf × Bool :=
  if sent < 0 then (r, false) else if use < 0 then (r, false) else if f < 0 then (r, false)
  else ((((r.lift f).turn1 sent use).turn2 sent use), if use > 0 then (((r.lift f).turn1 sent use).turn2 sent use).use == use else false)
def live (r : Rf) (now lease : Int) : Bool :=
  if r.use > 0 then decide (IntKind.wrap .i64 ((if 1099511627776 < (if 0 > now then 0 else now) then 1099511627776 else (if 0 > now then 0 else now)) - r.said) < lease) else false
end Rf
def itemCells : List (Int × Int) → List Value
  | [] => []
  | x :: l => .int .i64 x.1 :: .int .i64 x.2 :: itemCells l
theorem itemCells_len : ∀ l, (itemCells l).length = l.length * 2
  | [] => rfl
  | x :: l => by simp only [itemCells, List.length_cons, itemCells_len l]; omega
theorem itemCells_app : ∀ l m, itemCells (l ++ m) = itemCells l ++ itemCells m
  | [], m => rfl
  | x :: l, m => by simp [itemCells, itemCells_app l m]
theorem itemCells_at : ∀ (l : List (Int × Int)) (i : Nat) x, l[i]? = some x → (itemCells l)[i * 2]? = some (.int .i64 x.1) ∧ (itemCells l)[i * 2 + 1]? = some (.int .i64 x.2)
  | [], i, x, h => by simp at h
  | y :: l, 0, x, h => by simp at h; subst h; simp [itemCells]
  | y :: l, i + 1, x, h => by
    have := itemCells_at l i x (by simpa using h)
    rw [show (i + 1) * 2 = i * 2 + 1 + 1 by omega]
    simpa [itemCells] using this

def Rf.enc (r : Rf) (a : Option Addr) (n c : Nat) : List Value := [.int .i64 r.life, .int .i64 r.floor, .int .i64 r.top, .int .i64 r.use, .int .i64 r.said, .slice a n c]
/-- The document's hold lies at a block, its items at another; none of them is of E. -/
structure IsR (w : World) (E : Nat → Prop) (b : Nat) (r : Rf) : Prop where
  there : ∃ a c, IsB w b (r.enc a r.items.length c) ∧ Row w 54 2 a r.items.length c (itemCells r.items) ∧ ∀ k, inB a k → ¬ E k ∧ k ≠ b
  out : ¬ E b
theorem IsR.keep {w w' : World} {E S : Nat → Prop} {b : Nat} {r : Rf} (h : IsR w E b r) (k : Keep S w w') (hs : ∀ k, S k → E k) : IsR w' E b r := by
  obtain ⟨⟨a, c, h1, h2, h3⟩, h4⟩ := h
  exact ⟨⟨a, c, h1.keep k fun g => h4 (hs _ g), h2.keep k fun i hi g => (h3 i hi).1 (hs _ g), h3⟩, h4⟩
theorem IsR.ext {w w' : World} {E : Nat → Prop} {b : Nat} {r : Rf} (h : IsR w E b r) (k : Ext w w') : IsR w' E b r := h.keep k fun _ g => g.elim
theorem IsR.lt {w : World} {E : Nat → Prop} {b : Nat} {r : Rf} (h : IsR w E b r) : b < w.heap.size := by
  obtain ⟨⟨a, c, h1, h2, h3⟩, h4⟩ := h
  exact h1.lt
theorem IsR.mono {w : World} {E F : Nat → Prop} {b : Nat} {r : Rf} (h : IsR w E b r) (hf : ∀ k, k < w.heap.size → F k → E k) : IsR w F b r := by
  obtain ⟨⟨a, c, h1, h2, h3⟩, h4⟩ := h
  exact ⟨⟨a, c, h1, h2, fun k hk => ⟨fun g => (h3 k hk).1 (hf k (h2.lt hk) g), (h3 k hk).2⟩⟩, fun g => h4 (hf b h1.lt g)⟩

section
variable {Z : List PanicEntry → PT} {w : World} {E : Nat → Prop} {b : Nat} {r : Rf}

theorem countR_loop {Q : Int → Int → PT} {e : Int} {a : Option Addr} {c : Nat} (hb : IsB w b (r.enc a r.items.length c)) (hr : Row w 54 2 a r.items.length c (itemCells r.items)) (hl : r.items.length ≤ 1000) :
    ∀ (m i : Nat) (n o : Int), i + m = r.items.length → 0 ≤ n → n ≤ i → Q (Rf.count e (r.items.drop i) n o).1 (Rf.count e (r.items.drop i) n o).2 w → ref18_Hold_Count.l19 Z Q (m + 1) (some ⟨b, 0, none⟩) e n o i w
  | 0, i, n, o, hm, h0, h1, hq => by
    unfold ref18_Hold_Count.l19 ref18_Hold_Count.s22
    simp only [nn_some, add_mk]
    refine ldL_of (hb.cell 5) ?_
    rw [pif_dec, if_neg (by omega)]
    rw [List.drop_eq_nil_of_le (by omega)] at hq
    exact hq
  | m + 1, i, n, o, hm, h0, h1, hq => by
    unfold ref18_Hold_Count.l19 ref18_Hold_Count.s22
    simp only [nn_some, add_mk]
    refine ldL_of (hb.cell 5) ?_
    rw [pif_dec, if_pos (by omega)]
    have hx := List.getElem?_eq_getElem (show i < r.items.length by omega)
    obtain ⟨c1, c2⟩ := itemCells_at _ _ _ hx
    rw [List.drop_eq_getElem_cons (show i < r.items.length by omega)] at hq
    refine ldL_of (hb.cell 5) ?_
    refine ixS_R hr (by omega) (by omega) fun g ha hc => ?_
    rw [add_mk, Int.toNat_natCast]
    refine ldI_of (hc _ _ c1) ?_
    rw [pif_beq]
    unfold Rf.count at hq
    split
    · rename_i he
      rw [if_pos he] at hq
      refine ldL_of (hb.cell 5) ?_
      refine ixS_R hr (by omega) (by omega) fun g ha hc => ?_
      rw [add_mk, Int.toNat_natCast]
      refine ldI_of (hc _ _ c2) ?_
      rw [wrap_in (by omega) (by omega), wrap_nat1 (by omega)]
      exact countR_loop hb hr hl m (i + 1) (n + 1) _ (by omega) (by omega) (by omega) hq
    · rename_i he
      rw [if_neg he] at hq
      rw [wrap_nat1 (by omega)]
      exact countR_loop hb hr hl m (i + 1) n o (by omega) (by omega) (by omega) hq
theorem countR_F {Q : Int → Int → PT} {e : Int} (hb : IsR w E b r) (hl : r.items.length ≤ 1000) (hq : Q (Rf.count e r.items 0 0).1 (Rf.count e r.items 0 0).2 w) : ref18_Hold_Count.F Z Q (some ⟨b, 0, none⟩) e w := by
  obtain ⟨⟨a, c, h1, h2, h3⟩, h4⟩ := hb
  unfold ref18_Hold_Count.F ref18_Hold_Count.s33 ref18_Hold_Count.s30
  exact exK_of (r.items.length + 1) (countR_loop h1 h2 hl r.items.length 0 0 0 (by omega) (by omega) (by omega) hq)
theorem fullR_F {Q : Bool → PT} {e : Int} (hb : IsR w E b r) (hl : r.items.length ≤ 1000) (hq : Q (r.full e) w) : ref18_Hold_Full.F Z Q (some ⟨b, 0, none⟩) e w := by
  unfold ref18_Hold_Full.F
  refine ref18_Hold_Count.cal (countR_F hb hl ?_)
  unfold Rf.full at hq
  rw [pif_dec]
  split
  · rwa [if_pos ‹_›] at hq
  · rwa [if_neg ‹_›] at hq
theorem liveR_F {Q : Bool → PT} {now lease : Int} (hb : IsR w E b r) (hq : Q (r.live now lease) w) : ref18_Hold_Live.F Z Q (some ⟨b, 0, none⟩) now lease w := by
  obtain ⟨⟨a, c, h1, h2, h3⟩, h4⟩ := hb
  unfold ref18_Hold_Live.F
  simp only [nn_some, add_mk]
  refine ldI_of (h1.cell 3) ?_
  rw [pif_dec]
  unfold Rf.live at hq
  split
  · rw [if_pos ‹_›] at hq
    exact ldI_of (h1.cell 4) hq
  · rwa [if_neg ‹_›] at hq

/-- One item is put behind others. -/
theorem appR {w : World} {a : Option Addr} {n c : Nat} {l : List (Int × Int)} {x : Int × Int} {ad : Addr} {K : Option Addr → Nat → Nat → PT} (hr : Row w 54 2 a n c (itemCells l)) (hn : n ≤ 1000) (hc : ∀ j u, (itemCells [x])[j]? = some u → w.cell? (ad.add j) = some u)
    (hk : ∀ a' c' w', Row w' 54 2 a' (n + 1) c' (itemCells (l ++ [x])) → Keep (inB a) w w' → (∀ k, inB a' k → inB a k ∨ w.heap.size ≤ k) → K a' (n + 1) c' w') :
    runL Try.prog (bi .append #[41, 41] 41 [false, false] [.slice a n c, .slice (some ad) 1 1]) K w := by
  refine app_R (e := 54) (sz := 2) (bytes := 16) (z := .agg #[.int .i64 0, .int .i64 0]) (m := 1) Try.underlying41 (by kernel_rfl) rfl (by decide) hr (news := itemCells [x]) rfl hc (by simp [itemCells, Value.oneCell']) (by decide) ?_ (by omega) fun a' c' w' h1 h2 h3 => hk a' c' w' ?_ h2 h3
  · simp only [maxLen]; omega
  · rw [itemCells_app]; exact h1

def Rf.kept (r : Rf) (x : Int × Int) : Bool := decide (x.1 = r.floor) || decide (x.1 = r.top)
theorem forget_loop {Q : PT} {a : Option Addr} {c : Nat} {w0 : World} (hb : IsB w0 b (r.enc a r.items.length c)) (hr : Row w0 54 2 a r.items.length c (itemCells r.items)) (hl : r.items.length ≤ 1000)
    (hq : ∀ a2 c2 w', Row w' 54 2 a2 (r.items.filter r.kept).length c2 (itemCells (r.items.filter r.kept)) → Ext w0 w' → (∀ k, inB a2 k → w0.heap.size ≤ k) → ref18_Hold_Forget.s7 Z Q (some ⟨b, 0, none⟩) a2 (r.items.filter r.kept).length c2 w') :
    ∀ (m i : Nat) (a2 : Option Addr) (n2 c2 : Nat) (w : World), i + m = r.items.length → n2 = ((r.items.take i).filter r.kept).length → Row w 54 2 a2 n2 c2 (itemCells ((r.items.take i).filter r.kept)) → Ext w0 w → (∀ k, inB a2 k → w0.heap.size ≤ k) →
      ref18_Hold_Forget.l17 Z Q (m + 1) (some ⟨b, 0, none⟩) a2 n2 c2 i w
  | 0, i, a2, n2, c2, w, hm, hn, h2, ke, ha => by
    unfold ref18_Hold_Forget.l17 ref18_Hold_Forget.s43
    simp only [nn_some, add_mk]
    have hb := hb.ext ke
    refine ldL_of (hb.cell 5) ?_
    rw [pif_dec, if_neg (by omega)]
    rw [List.take_of_length_le (by omega)] at hn h2
    subst hn
    exact hq a2 c2 w h2 ke ha
  | m + 1, i, a2, n2, c2, w, hm, hn, h2, ke, ha => by
    unfold ref18_Hold_Forget.l17 ref18_Hold_Forget.s43
    simp only [nn_some, add_mk]
    have hbw := hb.ext ke
    have hrw := hr.ext ke
    refine ldL_of (hbw.cell 5) ?_
    rw [pif_dec, if_pos (by omega)]
    unfold ref18_Hold_Forget.s39
    have hx := List.getElem?_eq_getElem (show i < r.items.length by omega)
    generalize hxe : r.items[i] = x at hx
    obtain ⟨c1, c2'⟩ := itemCells_at _ _ _ hx
    have htake : r.items.take (i + 1) = r.items.take i ++ [x] := by rw [List.take_succ_eq_append_getElem (by omega), hxe]
    have hnn : n2 ≤ 1000 := by
      rw [hn]
      exact Nat.le_trans (List.length_filter_le _ _) (by simp; omega)
    -- one round's end
    have last : ∀ (t : Bool) (w1 : World), t = r.kept x → Row w1 54 2 a2 n2 c2 (itemCells ((r.items.take i).filter r.kept)) → Ext w0 w1 → ref18_Hold_Forget.s35 Z Q (ref18_Hold_Forget.l17 Z Q (m + 1)) (some ⟨b, 0, none⟩) a2 n2 c2 i t w1 := fun t w1 ht h2 ke => by
      have hbw := hb.ext ke
      have hrw := hr.ext ke
      unfold ref18_Hold_Forget.s35 ref18_Hold_Forget.s26
      rw [wrap_nat1 (by omega), pif_bool]
      split
      · rename_i htt
        have hk : r.kept x = true := by rw [← ht]; exact htt
        simp only [nn_some, add_mk]
        refine ldL_of (hbw.cell 5) ?_
        refine ixS_R hrw (by omega) (by omega) fun g hg hc => ?_
        rw [Int.toNat_natCast]
        refine ⟨itemCells [x], rfl, ?_, rfl, ?_⟩
        · intro j v hj
          rw [add_mk]
          match j, hj with
          | 0, hj => simp [itemCells] at hj; subst hj; exact hc _ _ c1
          | 1, hj => simp [itemCells] at hj; subst hj; exact hc _ _ c2'
          | j + 2, hj => simp [itemCells] at hj
        · refine newC_B fun w2 h2' k2 s2 => ?_
          refine appR (h2.ext k2) (x := x) hnn ?_ fun a3 c3 w3 h3 k3 i3 => ?_
          · intro j u hu
            rw [add_mk, h2'.cell]
            simpa [itemCells] using hu
          · have ke3 : Ext w0 w3 := (ke.trans k2).trans_new k3 fun k hk hin => by have := ha k hin; omega
            refine forget_loop hb hr hl hq m (i + 1) a3 (n2 + 1) c3 w3 (by omega) ?_ ?_ ke3 ?_
            · rw [htake, List.filter_append, List.length_append, hn, List.filter_cons_of_pos hk]; rfl
            · rw [htake, List.filter_append, List.filter_cons_of_pos hk, List.filter_nil]; exact h3
            · intro k hk
              rcases i3 k hk with h | h
              · exact ha k h
              · have := ke.size; have := k2.size; omega
      · rename_i htt
        have hk : ¬ r.kept x = true := by rw [← ht]; exact htt
        refine forget_loop hb hr hl hq m (i + 1) a2 n2 c2 w1 (by omega) ?_ ?_ ke ha
        · rw [htake, List.filter_append, List.filter_cons_of_neg hk]; simpa using hn
        · rw [htake, List.filter_append, List.filter_cons_of_neg hk]; simpa using h2
    show ref18_Hold_Forget.s39 Z Q _ _ _ _ _ _ w
    unfold ref18_Hold_Forget.s39
    simp only [nn_some, add_mk]
    show ldL _ _ w.drew
    have hbd := hbw.drew
    have hrd : Row w.drew 54 2 a r.items.length c (itemCells r.items) := hrw.ext Keep.refl.drew
    have h2d : Row w.drew 54 2 a2 n2 c2 (itemCells ((r.items.take i).filter r.kept)) := h2.ext Keep.refl.drew
    refine ldL_of (hbd.cell 5) ?_
    refine ixS_R hrd (by omega) (by omega) fun g hg hc => ?_
    rw [add_mk, Int.toNat_natCast]
    refine ldI_of (hc _ _ c1) ?_
    refine ldI_of (hbd.cell 1) ?_
    rw [pif_beq]
    split
    · rename_i he
      exact last true _ (by simp [Rf.kept, he]) h2d ke.drew
    · rename_i he
      refine ldL_of (hbd.cell 5) ?_
      refine ixS_R hrd (by omega) (by omega) fun g hg hc => ?_
      rw [add_mk, Int.toNat_natCast]
      refine ldI_of (hc _ _ c1) ?_
      refine ldI_of (hbd.cell 2) ?_
      refine last _ _ ?_ h2d ke.drew
      by_cases h : x.1 = r.top <;> simp [Rf.kept, he, h]
theorem forget_F {Q : PT} (hb : IsR w E b r) (hE : ∀ k, E k → k < w.heap.size) (hl : r.items.length ≤ 1000) (hq : ∀ w', IsR w' E b r.forget → Keep (fun k => ¬ E k) w w' → Q w') : ref18_Hold_Forget.F Z Q (some ⟨b, 0, none⟩) w := by
  obtain ⟨⟨a, c, h1, h2, h3⟩, h4⟩ := hb
  unfold ref18_Hold_Forget.F ref18_Hold_Forget.s52 ref18_Hold_Forget.s49
  show (exK _) _
  refine exK_of (r.items.length + 1) (forget_loop h1 h2 hl (fun a2 c2 w1 g2 ke ha => ?_) r.items.length 0 _ 0 0 _ (by omega) (by simp) (by simpa [itemCells] using Row.new w 54 2) (Keep.refl.alloc _) fun k ⟨p, hp, hk⟩ => by cases hp; exact Nat.le_of_eq hk)
  have hbw := h1.ext ke
  have hlt := h1.lt
  unfold ref18_Hold_Forget.s7
  simp only [nn_some, add_mk]
  refine st1_B hbw (by simp [Rf.enc]) rfl fun w2 b2 k2 => ?_
  have hrow : ∀ {w' : World}, Keep (· = b) w1 w' → Row w' 54 2 a2 (r.items.filter r.kept).length c2 (itemCells (r.items.filter r.kept)) := fun k => g2.keep k fun i hi e => by have := ha i hi; omega
  have hin : ∀ k, inB a2 k → ¬ E k ∧ k ≠ b := fun k hk => ⟨fun g => by have := hE k g; have := ha k hk; omega, by have := ha k hk; omega⟩
  have hkp : ∀ {w' : World}, Keep (· = b) w1 w' → Keep (fun k => ¬ E k) w w' := fun k => (ke.ext).trans (k.mono fun i _ e => by subst e; exact h4)
  show ldI _ _ _ w2.drew
  refine ldI_of (b2.drew.cell 3) ?_
  refine ldI_of (b2.drew.cell 1) ?_
  have k2d : Keep (· = b) w1 w2.drew := k2.drew
  -- what is left where what is in use stays
  have stays : ¬ (r.use ≠ r.floor ∧ r.use ≠ r.top) → Q w2.drew := fun hn => by
    refine hq _ ⟨⟨a2, c2, ?_, ?_, hin⟩, h4⟩ (hkp k2d)
    · unfold Rf.forget
      rw [if_neg hn, if_neg hn]
      exact b2.drew
    · exact hrow k2d
  rw [pif_bne]
  split
  · exact stays (fun h => h.1 (by assumption))
  · refine ldI_of (b2.drew.cell 3) ?_
    refine ldI_of (b2.drew.cell 2) ?_
    rw [pif_bne]
    split
    · exact stays (fun h => h.2 (by assumption))
    · rename_i hne1 hne2
      refine st1_B b2.drew (by simp [Rf.enc]) rfl fun w3 b3 k3 => ?_
      refine st1_B b3 (by simp [Rf.enc]) rfl fun w4 b4 k4 => ?_
      have k4d := k2d.trans (k3.trans k4)
      refine hq _ ⟨⟨a2, c2, ?_, ?_, hin⟩, h4⟩ (hkp k4d)
      · unfold Rf.forget
        rw [if_pos ⟨hne1, hne2⟩, if_pos ⟨hne1, hne2⟩]
        exact b4
      · exact hrow k4d
end
end Go.Proofs.Ythheldpjcndelaa
