/-
  The chapter's examples come out true. No condition.
-/
import Derived.Test.YtimdpeolfhaajaaParse9
import Derived.Test.YtimdpeolfhaajaaCodeLaw
set_option linter.unusedVariables false
set_option linter.unusedSimpArgs false
namespace Go.Proofs.Ytimdpeolfhaajaa
open Go.RowKit

def txtA : ByteArray := ⟨#[53, 32, 115, 114, 99, 32, 49, 48, 46, 48, 46, 48, 46, 48, 47, 56, 32, 100, 112, 111, 114, 116, 32, 56, 48, 45, 57, 48, 32, 45, 62, 32, 112, 111, 114, 116, 32, 51]⟩
def txtB : ByteArray := ⟨#[53, 32, 115, 114, 99, 32, 49, 46, 50, 32, 45, 62, 32, 100, 114, 111, 112]⟩
theorem awakeB : (parseS txtB).2 = (8, 10) := by kernel_rfl
theorem awakeA : (parseS txtA).2 = (0, 0) := by kernel_rfl
theorem awakeA1 : (parseS txtA).1.map (fun x => (x.clauses.map Cl.dash, x.port.n)) = [([false, true], 3)] := by kernel_rfl
theorem two_of {α : Type} {l : List α} (h : l.length = 2) : ∃ x y, l = [x, y] := by
  cases l with
  | nil => cases h
  | cons x l => obtain ⟨y, rfl⟩ := List.length_eq_one_iff.1 (by simpa using h : l.length = 1); exact ⟨x, y, rfl⟩
section
variable {Z : List PanicEntry → PT} {w : World}
theorem parse_call {Q : Option Addr → Nat → Nat → Int → Int → PT} {s : ByteArray} (hq : ∀ (s3 : Sl3) w', RwsAt w' (fun k => w.heap.size ≤ k) s3 (parseS s).1 → Ext w w' → Q s3.a s3.n s3.c (parseS s).2.1 (parseS s).2.2 w') :
    cal Try.prog Z 7 [.string s] (isT3 fun x y z => (isL fun r0 r0n r0c => (isI .i64 fun r1 => (isI .i64 fun r2 => Q r0 r0n r0c r1 r2) z) y) x) w := parse_cal hq
theorem awake_F {Q : Bool → PT} (hq : ∀ w', Ext w w' → Q true w') : law06_awake.F Z Q w := by
  unfold law06_awake.F
  refine parse_call (s := txtA) fun s3 w1 r1 k1 => ?_
  refine parse_call (s := txtB) fun s4 w2 r2 k2 => ?_
  rw [awakeA, awakeB]
  replace r1 := r1.keep k2 fun _ _ g => g
  have h := awakeA1
  generalize (parseS txtA).1 = rows at r1 h
  obtain ⟨ps, rfl, l1, f1, c1⟩ := r1
  obtain ⟨⟨x, sx⟩, rfl⟩ := List.length_eq_one_iff.1 (by have := congrArg List.length h; simpa using this : ps.length = 1)
  simp only [List.map_cons, List.map_nil, List.cons.injEq, Prod.mk.injEq, and_true] at h
  obtain ⟨hd, hn⟩ := h
  obtain ⟨qs, h1, h2, h3, h4⟩ := c1 (x, sx) (by simp)
  simp only at h1
  rw [h1] at hd
  obtain ⟨⟨c0, s0⟩, ⟨c2, s2⟩, rfl⟩ := two_of (by have := congrArg List.length hd; simpa using this : qs.length = 2)
  simp only [List.map_cons, List.map_nil, List.cons.injEq, and_true] at hd
  have e1 : s3.n = 1 := l1.1
  have e2 : sx.n = 2 := h2.1
  simp only
  rw [pif_beq, if_pos rfl, pif_beq, if_pos (by rw [e1]; rfl)]
  refine ixS_Lst rwEnc_len l1 (i := 0) rfl fun b hb hc => ?_
  refine ldL_of (by rw [add_mk]; exact hc 4 _ rfl) ?_
  rw [pif_beq, if_pos (by rw [e2]; rfl)]
  refine ixS_Lst rwEnc_len l1 (i := 0) rfl fun b hb hc => ?_
  refine ldL_of (by rw [add_mk]; exact hc 4 _ rfl) ?_
  refine ixS_Lst clEnc_len h2 (i := 1) rfl fun b' hb' hc' => ?_
  refine ldB_of (by rw [add_mk]; exact hc' 4 _ rfl) ?_
  simp only [hd.2, pif_true]
  refine ixS_Lst rwEnc_len l1 (i := 0) rfl fun b hb hc => ?_
  refine ldI_of (by rw [add_mk, add_mk]; exact hc 6 _ rfl) ?_
  rw [pif_beq, if_pos hn, pif_beq, if_pos rfl]
  exact hq w2 (k1.trans k2)
end
end Go.Proofs.Ytimdpeolfhaajaa
