/-
  What an act does to a hold, what the chapter's examples come to, and the acts of a slice that came in. No condition.
-/
import Derived.Test.YthheldpjcndelaaHold
import Derived.Test.YthheldpjcndelaaCode2
import Derived.Test.YthheldpjcndelaaWlRow
namespace Go.Proofs.Ythheldpjcndelaa
open Go.RowKit
set_option linter.unusedVariables false
set_option linter.unusedSimpArgs false

structure HAct where
  lead : Bool
  floor : Int
  epoch : Int
  pos : Int
  all : Int
  sent : Int
def HAct.enc (x : HAct) : List Value := [.bool x.lead, .int .i64 x.floor, .int .i64 x.epoch, .int .i64 x.pos, .int .i64 x.all, .int .i64 x.sent]
/-- An int. -/
def I64 (n : Int) : Prop := -9223372036854775808 ≤ n ∧ n ≤ 9223372036854775807
structure HAct.Ok (x : HAct) : Prop where
  floor : I64 x.floor
  epoch : I64 x.epoch
  pos : I64 x.pos
  all : I64 x.all
  sent : I64 x.sent
theorem act_of {W : World} {fuel : Nat} {cs : List Value} (h : Typ Try.prog W fuel 28 cs) : ∃ x : HAct, cs = x.enc ∧ x.Ok := by
  obtain ⟨hl, g, h⟩ := h.struct Try.underlying28 (n := 6) (by kernel_rfl)
  match cs, hl with
  | [a, b, c, d, e, f], _ =>
    simp only [List.mem_cons, List.not_mem_nil, or_false, forall_eq_or_imp, forall_eq] at h
    obtain ⟨h0, h1, h2, h3, h4, h5⟩ := h
    obtain ⟨x0, e0⟩ := Typ.bool Try.underlying4 h0
    obtain ⟨x1, e1, r1⟩ := Typ.int Try.underlying3 h1
    obtain ⟨x2, e2, r2⟩ := Typ.int Try.underlying3 h2
    obtain ⟨x3, e3, r3⟩ := Typ.int Try.underlying3 h3
    obtain ⟨x4, e4, r4⟩ := Typ.int Try.underlying3 h4
    obtain ⟨x5, e5, r5⟩ := Typ.int Try.underlying3 h5
    have c1 : Try.prog.cellsOf 3 = 1 := by kernel_rfl
    have c4 : Try.prog.cellsOf 4 = 1 := by kernel_rfl
    simp only [c1, c4, List.drop_succ_cons, List.drop_zero, List.take_succ_cons, List.take_zero, List.cons.injEq, and_true] at e0 e1 e2 e3 e4 e5
    subst e0 e1 e2 e3 e4 e5
    exact ⟨⟨x0, x1, x2, x3, x4, x5⟩, rfl, ⟨r1, r2, r3, r4, r5⟩⟩
theorem acts_of {W : World} {t : TypeId} {v : Value} (hu : Try.prog.underlying t = some (.slice 28)) (h : Arg W t v) : ∃ (a : Option Addr) (n c : Nat) (f : Nat → HAct), v = .slice a n c ∧ n ≤ maxLen ∧ Sl W a n 6 (fun i => (f i).enc) ∧ ∀ i, i < n → (f i).Ok := by
  obtain ⟨a, n, c, rfl, h1, h2, fuel, h3⟩ := h.slice hu (n := 6) (by kernel_rfl)
  have : ∀ i, ∃ x : HAct, i < n → (∃ ad, a = some ad ∧ cellsAt W (ad.add (i * 6)) x.enc) ∧ x.Ok := fun i => by
    by_cases hi : i < n
    · obtain ⟨ad, es, g1, g2, g3, g4⟩ := h3 i hi
      obtain ⟨x, rfl, hx⟩ := act_of g4
      exact ⟨x, fun _ => ⟨⟨ad, g1, g3⟩, hx⟩⟩
    · exact ⟨⟨false, 0, 0, 0, 0, 0⟩, fun h => absurd h hi⟩
  obtain ⟨f, hf⟩ := Classical.axiomOfChoice this
  exact ⟨a, n, c, f, rfl, Nat.le_trans h1 h2, fun i hi => by obtain ⟨⟨ad, g1, g2⟩, _⟩ := hf i hi; exact ⟨ad, g1, rfl, g2⟩, fun i hi => (hf i hi).2⟩

namespace Hd
def act (h : Hd) (x : HAct) : Hd × Int := if x.lead = true then ((h.lead x.sent x.epoch x.floor).1, if (h.lead x.sent x.epoch x.floor).2 = true then 1 else 0) else h.item x.floor x.epoch x.pos x.all
end Hd

section
variable {Z : List PanicEntry → PT} {w : World} {b : Nat} {h : Hd}
theorem does_F {Q : Int → PT} {x : HAct} (ho : x.Ok) (hb : IsB w b h.enc) (hq : ∀ w', IsB w' b (h.act x).1.enc → Keep (· = b) w w' → Q (h.act x).2 w') : law18_does.F Z Q (some ⟨b, 0, none⟩) x.enc w := by
  unfold law18_does.F
  refine newC_B fun w1 h1 k1 s1 => ?_
  have hb1 := hb.ext k1
  simp only [add_mk, Nat.zero_add]
  refine ldB_B h1 rfl ?_
  unfold Hd.act at hq
  rw [pif_not, pif_bool]
  by_cases hl : x.lead = true
  · rw [if_pos hl]
    simp only [if_pos hl] at hq
    refine ldI_B h1 rfl (ldI_B h1 rfl (ldI_B h1 rfl ?_))
    refine hold_Hold_Lead.cal (lead_F hb1 fun w2 h2 k2 => ?_)
    have := hq w2 h2 (k1.ext.trans k2)
    rw [pif_bool]
    split
    · rwa [if_pos ‹_›] at this
    · rwa [if_neg ‹_›] at this
  · rw [if_neg hl]
    simp only [if_neg hl] at hq
    refine ldI_B h1 rfl (ldI_B h1 rfl (ldI_B h1 rfl (ldI_B h1 rfl ?_)))
    refine hold_Hold_Item.cal (item_F ho.all.2 hb1 fun w2 h2 k2 => ?_)
    exact hq w2 h2 (k1.ext.trans k2)

/-- The chapter's examples. -/
theorem awake_F {Q : Bool → PT} (hq : ∀ w', Ext w w' → Q true w') : law18_awake.F Z Q w := by
  unfold law18_awake.F
  refine hold_New.cal (new_F fun w0 b0 k0 => ?_)
  have new : ∀ {w'}, Keep (· = w.heap.size) w0 w' → Ext w w' := fun k => k0.trans_new k fun i hi e => by subst e; omega
  refine hold_Hold_Item.cal (item_F (by decide) b0 fun w1 b1 k1 => ?_)
  refine hold_Hold_Item.cal (item_F (by decide) b1 fun w2 b2 k2 => ?_)
  refine hold_Hold_Lead.cal (lead_F b2 fun w3 b3 k3 => ?_)
  refine hold_Hold_Item.cal (item_F (by decide) b3 fun w4 b4 k4 => ?_)
  refine hold_Hold_Lead.cal (lead_F b4 fun w5 b5 k5 => ?_)
  have k := k1.trans (k2.trans (k3.trans (k4.trans k5)))
  show (pif true (pif true (pif true (pif true (pif true _ _) _) _) _) _) w5
  simp only [pif_true]
  refine hold_Hold_Live.cal (live_F b5 ?_)
  show (pif true _ _) w5
  refine hold_Hold_Live.cal (live_F b5 ?_)
  show (pif true _ _) w5
  refine hold_Hold_Use.cal (use_F b5 ?_)
  exact hq w5 (new k)
end
end Go.Proofs.Ythheldpjcndelaa
