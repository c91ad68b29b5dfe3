/-
  The chapter's examples; what is read has numbers in range. No condition.
-/
import Derived.Test.YtllgjjldnnmjkaaDoorSay1
import Derived.Test.YtllgjjldnnmjkaaDoorCodeLaw1
set_option linter.unusedVariables false
set_option linter.unusedSimpArgs false
set_option maxRecDepth 100000
namespace Go.Proofs.YtllgjjldnnmjkaaDoor
open Go.RowKit
def txA : ByteArray := ⟨#[57, 32, 100, 112, 111, 114, 116, 32, 56, 48, 32, 45, 62, 32, 112, 111, 114, 116, 32, 49, 10, 57, 32, 115, 114, 99, 32, 49, 48, 46, 48, 46, 48, 46, 48, 47, 56, 32, 45, 62, 32, 112, 111, 114, 116, 32, 50, 10, 100, 101, 102, 97, 117, 108, 116, 32, 45, 62, 32, 100, 114, 111, 112]⟩
def txB : ByteArray := ⟨#[49, 32, 115, 114, 99, 32, 49, 46, 50, 46, 51, 46, 50, 53, 54, 32, 45, 62, 32, 100, 114, 111, 112]⟩
def hdA : List UInt8 := [10, 0, 0, 1, 0, 0, 0, 0, 0, 0, 0, 80, 0]
def hdB : List UInt8 := [10, 0, 0, 1, 0, 0, 0, 0, 0, 0, 0, 81, 0]
theorem aw1 : (snRead txA).2 = (0, 0) := by kernel_rfl
theorem aw2 : (snRead txB).2 = (10, 12) := by kernel_rfl
theorem aw3 : snSays (snRead txA).1 hdA = (1, true) := by kernel_rfl
theorem aw4 : snSays (snRead txA).1 hdB = (2, true) := by kernel_rfl
/-! ### In range -/
theorem z32 : (0 : Int) < 4294967296 := by decide
theorem mixS_in (v n : Int) : 0 ≤ mixS v n ∧ mixS v n < 4294967296 := by
  unfold mixS
  rw [wrapU32]
  have := Nat.mod_lt ((BitVec.ofInt (IntKind.bits .u32) (IntKind.wrap .u32 (v * 2 ^ (min (8 : Int).toNat (IntKind.bits .u32)))) ||| BitVec.ofInt (IntKind.bits .u32) (IntKind.wrap .u32 (IntKind.wrap .i64 (BitVec.ofInt (IntKind.bits .i64) n &&& BitVec.ofInt (IntKind.bits .i64) 255).toNat))).toNat) (show 0 < 4294967296 by decide)
  omega
theorem snAddr_in : ∀ (l : List Fg) (i : Nat) (v b : Int), 0 ≤ v ∧ v < 4294967296 → 0 ≤ (snAddr l i v b).1 ∧ (snAddr l i v b).1 < 4294967296
  | [], _, v, b, h => h
  | n :: l, i, v, b, h => by
    unfold snAddr
    split
    · split
      · exact ⟨Int.le_refl _, z32⟩
      · exact snAddr_in l (i + 1) v _ h
    · split
      · exact ⟨Int.le_refl _, z32⟩
      · exact snAddr_in l (i + 1) _ b (mixS_in v n.n)
theorem snClause_ok {x : En} {c : Cl} (h : x.Ok) : (snClause x c).1.Ok := by
  have := snAddr_in c.nums 0 0 32 ⟨Int.le_refl _, by decide⟩
  unfold snClause
  split
  · exact ⟨this.1, this.2, h.d0, h.d1⟩
  split
  · exact ⟨h.s0, h.s1, this.1, this.2⟩
  split
  · exact ⟨h.s0, h.s1, h.d0, h.d1⟩
  split
  · exact ⟨h.s0, h.s1, h.d0, h.d1⟩
  · exact ⟨h.s0, h.s1, h.d0, h.d1⟩
theorem snClauses_ok {cs : List Cl} : ∀ (l : List Cl) (i : Nat) (x : En), x.Ok → (snClauses cs l i x).1.Ok
  | [], _, _, h => h
  | c :: l, i, x, h => by
    unfold snClauses
    split
    · exact h
    split
    · exact h
    split
    · exact h
    split
    · exact snClause_ok h
    · exact snClauses_ok l (i + 1) _ (snClause_ok h)
theorem snLine_ok (r : Rw) : (snLine r).1.Ok := by
  have h0 : ∀ p : Int, (⟨false, p, 0, 0, 0, 0, 0, 65535, 0, 65535, -1, 0⟩ : En).Ok := fun p => ⟨Int.le_refl _, z32, Int.le_refl _, z32⟩
  unfold snLine
  simp only
  split
  · exact h0 _
  · exact snClauses_ok _ _ _ (h0 _)
theorem snRow_ok (i : Nat) (had : Bool) (r : Rw) : (snRow i had r).1.Ok := by
  have h0 : en0.Ok := ⟨Int.le_refl _, by decide, Int.le_refl _, by decide⟩
  unfold snRow
  split
  · exact h0
  split
  · exact h0
  split
  · exact ⟨Int.le_refl _, by decide, Int.le_refl _, by decide⟩
  · exact snLine_ok r
theorem snAct_ok {r : Rw} {x : En} {f : Ft} (h : x.Ok) : (snAct r x f).1.Ok := by
  unfold snAct
  split
  · exact ⟨h.s0, h.s1, h.d0, h.d1⟩
  · exact h
theorem snRows_ok : ∀ (l : List Rw) (i : Nat) (had : Bool) (out : List En) (size : Int), (∀ x ∈ out, x.Ok) → ∀ x ∈ (snRows l i had out size).1, x.Ok
  | [], i, had, out, size, h => by
    unfold snRows
    split
    · exact h
    · simp
  | r :: l, i, had, out, size, h => by
    unfold snRows
    simp only
    split
    · simp
    · refine snRows_ok l _ _ _ _ fun x hx => ?_
      rcases List.mem_append.1 hx with hx | hx
      · exact h x hx
      · rw [List.mem_singleton.1 hx]
        exact snAct_ok (snRow_ok i had r)
theorem snCheck_ok (l : List Rw) (size : Int) : ∀ x ∈ (snCheck l size).1, x.Ok := snRows_ok l 0 false [] size (by simp)
theorem snRead_ok (s : ByteArray) : ∀ x ∈ (snRead s).1, x.Ok := by
  unfold snRead
  split
  · simp
  · exact snCheck_ok _ _
section
variable {Z : List PanicEntry → PT} {W w : World}
theorem Sep.en {o : Sl3} {l : List En} (h : Sep (fun _ => False) W w [fE o l]) : EnO w o l := (h.at (n := 0) rfl : Lst w 35 12 En.enc o.a o.n o.c l).ro En.enc_len
theorem awake_cal {K : Bool → PT} (hv : Places w) (hk : ∀ w', Ext w w' → K true w') : cal Tryd.prog Z 11 [] (isB fun v => K v) w := by
  refine law07_awake.cal ?_
  unfold law07_awake.F
  refine read_cal fun w1 o h1 => ?_
  have e1 := aw1
  unfold txA at e1
  rw [e1]
  have a3 := aw3
  have a4 := aw4
  unfold txA at a3 a4
  generalize hl : (snRead (⟨#[57, 32, 100, 112, 111, 114, 116, 32, 56, 48, 32, 45, 62, 32, 112, 111, 114, 116, 32, 49, 10, 57, 32, 115, 114, 99, 32, 49, 48, 46, 48, 46, 48, 46, 48, 47, 56, 32, 45, 62, 32, 112, 111, 114, 116, 32, 50, 10, 100, 101, 102, 97, 117, 108, 116, 32, 45, 62, 32, 100, 114, 111, 112]⟩ : ByteArray)).1 = l at h1 a3 a4
  have hok : ∀ x ∈ l, x.Ok := by rw [← hl]; exact snRead_ok _
  refine says_cal (h := hdA) (hv.ext h1.kept) rfl h1.en hok fun w2 k2 => ?_
  rw [a3]
  refine says_cal (h := hdB) ((hv.ext h1.kept).ext k2) rfl (h1.en.ext k2) hok fun w3 k3 => ?_
  rw [a4]
  refine read_cal fun w4 o4 h4 => ?_
  have e2 := aw2
  unfold txB at e2
  rw [e2]
  exact hk w4 ((h1.kept.trans k2).trans (k3.trans h4.kept))
end
end Go.Proofs.YtllgjjldnnmjkaaDoor
