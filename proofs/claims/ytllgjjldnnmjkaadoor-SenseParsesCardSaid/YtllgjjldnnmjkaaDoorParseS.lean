/-
  What a policy's lines are, as plain functions on its tokens; and how lines lie in memory. No condition.
-/
import Derived.Test.YtllgjjldnnmjkaaDoorLexS
set_option linter.unusedVariables false
set_option linter.unusedSimpArgs false
set_option maxRecDepth 100000
namespace Go.Proofs.YtllgjjldnnmjkaaDoor
open Go.RowKit

structure Fg where
  n : Int
  pos : Int
structure Cl where
  word : ByteArray
  pos : Int
  nums : List Fg
  slash : Bool
  dash : Bool
structure Rw where
  pos : Int
  default : Bool
  prio : Fg
  clauses : List Cl
  drop : Bool
  port : Fg
/-- What comes of a part: it, and the place behind it; or what is wrong, and where. -/
inductive Res (α : Type) where
  | ok (a : α) (i : Nat)
  | no (e p : Int)
def wSrc : ByteArray := ⟨#[115, 114, 99]⟩
def wDst : ByteArray := ⟨#[100, 115, 116]⟩
def wSport : ByteArray := ⟨#[115, 112, 111, 114, 116]⟩
def wDport : ByteArray := ⟨#[100, 112, 111, 114, 116]⟩
def wProto : ByteArray := ⟨#[112, 114, 111, 116, 111]⟩
def wDefault : ByteArray := ⟨#[100, 101, 102, 97, 117, 108, 116]⟩
def wDrop : ByteArray := ⟨#[100, 114, 111, 112]⟩
def wPort : ByteArray := ⟨#[112, 111, 114, 116]⟩
def same (a b : ByteArray) : Bool := a.toList == b.toList
section
variable (l : List Tk) (en : Int)
def peekS (i : Nat) : Tk := if i < l.length then (l[i]?).getD ⟨0, en, noText, 0⟩ else ⟨0, en, noText, 0⟩
def wantS (k : Int) (i : Nat) : Res Tk := if (peekS l en i).kind ≠ k then .no 8 (peekS l en i).pos else .ok (peekS l en i) (i + 1)
def figS (i : Nat) : Res Fg := match wantS l en 2 i with
  | .ok t j => .ok ⟨t.n, t.pos⟩ j
  | .no e p => .no e p
def moreS (k : Int) (i : Nat) (ns : List Fg) : Res (List Fg × Bool) := if (peekS l en i).kind ≠ k then .ok (ns, false) i else match figS l en (i + 1) with
  | .ok f j => .ok (ns ++ [f], true) j
  | .no e p => .no e p
/-- So many times a point and a number. -/
def dotsS : Nat → Nat → List Fg → Res (List Fg)
  | 0, i, ns => .ok ns i
  | m + 1, i, ns => match wantS l en 3 i with
    | .no e p => .no e p
    | .ok _ j => match figS l en j with
      | .no e p => .no e p
      | .ok f j => dotsS m j (ns ++ [f])
def clauseS (had : List ByteArray) (i : Nat) : Res Cl :=
  let t := peekS l en i
  if (same t.text wSrc || same t.text wDst || same t.text wSport || same t.text wDport || same t.text wProto) = false then .no 8 t.pos
  else if had.any (same t.text) = true then .no 9 t.pos
  else match figS l en (i + 1) with
    | .no e p => .no e p
    | .ok f j =>
      if (same t.text wSrc || same t.text wDst) = true then match dotsS l en 3 j [f] with
        | .no e p => .no e p
        | .ok ns j => match moreS l en 4 j ns with
          | .no e p => .no e p
          | .ok r j => .ok ⟨t.text, t.pos, r.1, r.2, false⟩ j
      else if (same t.text wSport || same t.text wDport) = true then match moreS l en 5 j [f] with
        | .no e p => .no e p
        | .ok r j => .ok ⟨t.text, t.pos, r.1, false, r.2⟩ j
      else .ok ⟨t.text, t.pos, [f], false, false⟩ j
/-- Clauses as long as a word is at hand. -/
def clausesS : Nat → Nat → List Cl → Res (List Cl)
  | 0, i, cs => .ok cs i
  | m + 1, i, cs => if (peekS l en i).kind = 1 then match clauseS l en (cs.map Cl.word) i with
      | .no e p => .no e p
      | .ok c j => clausesS m j (cs ++ [c])
    else .ok cs i
/-- A line's end. -/
def tailS (x : Rw) (i : Nat) : Res Rw := if (peekS l en i).kind ≠ 7 ∧ (peekS l en i).kind ≠ 0 then .no 8 (peekS l en i).pos else .ok x i
def actS (x : Rw) (i : Nat) : Res Rw := match wantS l en 6 i with
  | .no e p => .no e p
  | .ok _ j =>
    if (peekS l en j).kind = 1 ∧ same (peekS l en j).text wDrop = true then tailS l en { x with drop := true } (j + 1)
    else if (peekS l en j).kind = 1 ∧ same (peekS l en j).text wPort = true then match figS l en (j + 1) with
      | .no e p => .no e p
      | .ok f k => tailS l en { x with port := f } k
    else .no 8 (peekS l en j).pos
def rw0 (p : Int) : Rw := ⟨p, false, ⟨0, 0⟩, [], false, ⟨0, 0⟩⟩
def lineS (i : Nat) : Res Rw :=
  let t := peekS l en i
  if t.kind = 1 ∧ same t.text wDefault = true then actS l en { rw0 t.pos with default := true } (i + 1)
  else match figS l en i with
    | .no e p => .no e p
    | .ok f j => match clausesS l en (l.length - j) j [] with
      | .no e p => .no e p
      | .ok cs j => actS l en { rw0 t.pos with prio := f, clauses := cs } j
/-- Lines, the blank ones left out. -/
def linesS : Nat → Nat → List Rw → Res (List Rw)
  | 0, i, out => .ok out i
  | m + 1, i, out => if i < l.length then
      (if (peekS l en i).kind = 7 then linesS m (i + 1) out
       else if out.length = 64 then .no 4 (peekS l en i).pos
       else match lineS l en i with
         | .no e p => .no e p
         | .ok x j => linesS m j (out ++ [x]))
    else .ok out i
end
def parseS (s : ByteArray) : List Rw × Int × Int :=
  if (lexS s).2.1 ≠ 0 then ([], (lexS s).2.1, (lexS s).2.2)
  else match linesS (lexS s).1 s.size ((lexS s).1.length) 0 [] with
    | .ok out _ => (out, 0, 0)
    | .no e p => ([], e, p)

/-! ### Places -/
section
variable {l : List Tk} {en : Int}
theorem wantS_at {k : Int} {i j : Nat} {t : Tk} (h : wantS l en k i = .ok t j) : j = i + 1 ∧ t = peekS l en i ∧ (peekS l en i).kind = k := by
  unfold wantS at h
  split at h
  · cases h
  · rename_i hk; cases h; exact ⟨rfl, rfl, by simpa using hk⟩
theorem peekS_in {i : Nat} (h : (peekS l en i).kind ≠ 0) : i < l.length := by
  unfold peekS at h
  split at h
  · assumption
  · exact absurd rfl h
theorem figS_at {i j : Nat} {f : Fg} (h : figS l en i = .ok f j) : j = i + 1 ∧ i < l.length := by
  unfold figS at h
  cases hw : wantS l en 2 i with
  | ok t j' => rw [hw] at h; cases h; obtain ⟨h1, _, h3⟩ := wantS_at hw; exact ⟨h1, peekS_in (en := en) (by omega)⟩
  | no e p => rw [hw] at h; cases h
theorem moreS_at {k : Int} {i j : Nat} {ns : List Fg} {r : List Fg × Bool} (h : moreS l en k i ns = .ok r j) : i ≤ j ∧ r.1.length ≤ ns.length + 1 ∧ (i ≤ l.length → j ≤ l.length) := by
  unfold moreS at h
  split at h
  · cases h; exact ⟨Nat.le_refl _, by simp, id⟩
  · cases hf : figS l en (i + 1) with
    | ok f j' => rw [hf] at h; cases h; obtain ⟨h1, h2⟩ := figS_at hf; exact ⟨by omega, by simp, by omega⟩
    | no e p => rw [hf] at h; cases h
theorem dotsS_at : ∀ {m i j : Nat} {ns r : List Fg}, dotsS l en m i ns = .ok r j → i ≤ j ∧ r.length = ns.length + m ∧ (i ≤ l.length → j ≤ l.length)
  | 0, i, j, ns, r, h => by unfold dotsS at h; cases h; exact ⟨Nat.le_refl _, rfl, id⟩
  | m + 1, i, j, ns, r, h => by
    unfold dotsS at h
    cases hw : wantS l en 3 i with
    | no e p => rw [hw] at h; cases h
    | ok t a =>
      rw [hw] at h
      simp only at h
      cases hf : figS l en a with
      | no e p => rw [hf] at h; cases h
      | ok f b =>
        rw [hf] at h
        simp only at h
        obtain ⟨h1, h2, h3⟩ := dotsS_at h
        obtain ⟨h4, _, _⟩ := wantS_at hw
        obtain ⟨h5, h6⟩ := figS_at hf
        simp at h2
        exact ⟨by omega, by omega, fun _ => h3 (by omega)⟩
theorem clauseS_at {had : List ByteArray} {i j : Nat} {c : Cl} (h : clauseS l en had i = .ok c j) : i + 2 ≤ j ∧ j ≤ l.length ∧ c.nums.length ≤ 5 := by
  unfold clauseS at h
  simp only at h
  split at h
  · cases h
  split at h
  · cases h
  cases hf : figS l en (i + 1) with
  | no e p => rw [hf] at h; cases h
  | ok f a =>
    rw [hf] at h
    simp only at h
    obtain ⟨h1, h2⟩ := figS_at hf
    split at h
    · cases hd : dotsS l en 3 a [f] with
      | no e p => rw [hd] at h; cases h
      | ok ns b =>
        rw [hd] at h
        simp only at h
        obtain ⟨h3, h4, h5⟩ := dotsS_at hd
        cases hm : moreS l en 4 b ns with
        | no e p => rw [hm] at h; cases h
        | ok r d =>
          rw [hm] at h
          cases h
          obtain ⟨h6, h7, h8⟩ := moreS_at hm
          simp at h4
          exact ⟨by omega, h8 (h5 (by omega)), by simp only; omega⟩
    · split at h
      · cases hm : moreS l en 5 a [f] with
        | no e p => rw [hm] at h; cases h
        | ok r d =>
          rw [hm] at h
          cases h
          obtain ⟨h6, h7, h8⟩ := moreS_at hm
          simp at h7
          exact ⟨by omega, h8 (by omega), by simp only; omega⟩
      · cases h
        exact ⟨by omega, by omega, by simp⟩
end

/-! ### Memory -/
structure Sl3 where
  a : Option Addr
  n : Nat
  c : Nat
def Fg.enc (f : Fg) : List Value := [.int .i64 f.n, .int .i64 f.pos]
theorem Fg.enc_len (f : Fg) : f.enc.length = 2 := rfl
theorem Fg.enc_one (f : Fg) : ∀ v ∈ f.enc, v.oneCell' = true := by simp [Fg.enc, Value.oneCell']
def clEnc (p : Cl × Sl3) : List Value := [.string p.1.word, .int .i64 p.1.pos, .slice p.2.a p.2.n p.2.c, .bool p.1.slash, .bool p.1.dash]
theorem clEnc_len (p : Cl × Sl3) : (clEnc p).length = 5 := rfl
theorem clEnc_one (p : Cl × Sl3) : ∀ v ∈ clEnc p, v.oneCell' = true := by simp [clEnc, Value.oneCell']
def rwEnc (p : Rw × Sl3) : List Value := [.int .i64 p.1.pos, .bool p.1.default, .int .i64 p.1.prio.n, .int .i64 p.1.prio.pos, .slice p.2.a p.2.n p.2.c, .bool p.1.drop, .int .i64 p.1.port.n, .int .i64 p.1.port.pos]
theorem rwEnc_len (p : Rw × Sl3) : (rwEnc p).length = 8 := rfl
theorem rwEnc_one (p : Rw × Sl3) : ∀ v ∈ rwEnc p, v.oneCell' = true := by simp [rwEnc, Value.oneCell']
/-- Numbers in blocks of F. -/
def NumsAt (w : World) (F : Nat → Prop) (s : Sl3) (l : List Fg) : Prop := Lst w 49 2 Fg.enc s.a s.n s.c l ∧ ∀ k, inB s.a k → F k
def ClsAt (w : World) (F : Nat → Prop) (s : Sl3) (l : List Cl) : Prop := ∃ ps : List (Cl × Sl3), l = ps.map Prod.fst ∧ Lst w 55 5 clEnc s.a s.n s.c ps ∧ (∀ k, inB s.a k → F k) ∧ ∀ p ∈ ps, NumsAt w (fun k => F k ∧ ¬ inB s.a k) p.2 p.1.nums
def RwsAt (w : World) (F : Nat → Prop) (s : Sl3) (l : List Rw) : Prop := ∃ ps : List (Rw × Sl3), l = ps.map Prod.fst ∧ Lst w 52 8 rwEnc s.a s.n s.c ps ∧ (∀ k, inB s.a k → F k) ∧ ∀ p ∈ ps, ClsAt w (fun k => F k ∧ ¬ inB s.a k) p.2 p.1.clauses
section
variable {w w' : World} {F G S : Nat → Prop} {s : Sl3}
theorem NumsAt.keep {l : List Fg} (h : NumsAt w F s l) (k : Keep S w w') (hs : ∀ k, F k → ¬ S k) : NumsAt w' F s l := ⟨h.1.keep k fun i hi => hs i (h.2 i hi), h.2⟩
theorem NumsAt.mono {l : List Fg} (h : NumsAt w F s l) (hg : ∀ k, k < w.heap.size → F k → G k) : NumsAt w G s l := ⟨h.1, fun k hk => hg k (h.1.lt hk) (h.2 k hk)⟩
theorem ClsAt.keep {l : List Cl} (h : ClsAt w F s l) (k : Keep S w w') (hs : ∀ k, F k → ¬ S k) : ClsAt w' F s l := by
  obtain ⟨ps, h1, h2, h3, h4⟩ := h
  exact ⟨ps, h1, h2.keep k fun i hi => hs i (h3 i hi), h3, fun p hp => (h4 p hp).keep k fun q hq => hs q hq.1⟩
theorem ClsAt.mono {l : List Cl} (h : ClsAt w F s l) (hg : ∀ k, k < w.heap.size → F k → G k) : ClsAt w G s l := by
  obtain ⟨ps, h1, h2, h3, h4⟩ := h
  exact ⟨ps, h1, h2, fun k hk => hg k (h2.lt hk) (h3 k hk), fun p hp => (h4 p hp).mono fun k hk hf => ⟨hg k hk hf.1, hf.2⟩⟩
theorem RwsAt.keep {l : List Rw} (h : RwsAt w F s l) (k : Keep S w w') (hs : ∀ k, F k → ¬ S k) : RwsAt w' F s l := by
  obtain ⟨ps, h1, h2, h3, h4⟩ := h
  exact ⟨ps, h1, h2.keep k fun i hi => hs i (h3 i hi), h3, fun p hp => (h4 p hp).keep k fun q hq => hs q hq.1⟩
theorem RwsAt.mono {l : List Rw} (h : RwsAt w F s l) (hg : ∀ k, k < w.heap.size → F k → G k) : RwsAt w G s l := by
  obtain ⟨ps, h1, h2, h3, h4⟩ := h
  exact ⟨ps, h1, h2, fun k hk => hg k (h2.lt hk) (h3 k hk), fun p hp => (h4 p hp).mono fun k hk hf => ⟨hg k hk hf.1, hf.2⟩⟩
theorem ClsAt.nil {w : World} {F : Nat → Prop} : ClsAt w F ⟨none, 0, 0⟩ [] := ⟨[], rfl, Lst.nil, fun k ⟨p, hp, _⟩ => (by cases hp), by simp⟩
theorem RwsAt.nil {w : World} {F : Nat → Prop} : RwsAt w F ⟨none, 0, 0⟩ [] := ⟨[], rfl, Lst.nil, fun k ⟨p, hp, _⟩ => (by cases hp), by simp⟩
theorem NumsAt.len {l : List Fg} (h : NumsAt w F s l) : s.n = l.length := h.1.1
theorem ClsAt.len {l : List Cl} (h : ClsAt w F s l) : s.n = l.length := by obtain ⟨ps, h1, h2, _⟩ := h; rw [h2.1, h1]; simp
theorem RwsAt.len {l : List Rw} (h : RwsAt w F s l) : s.n = l.length := by obtain ⟨ps, h1, h2, _⟩ := h; rw [h2.1, h1]; simp
/-- One clause more. -/
theorem app_cls {l : List Cl} {c : Cl} {sc : Sl3} {ad : Addr} {K : Option Addr → Nat → Nat → PT} (h : ClsAt w F s l) (hn : NumsAt w (fun k => F k ∧ ¬ inB s.a k) sc c.nums) (hF : ∀ k, w.heap.size ≤ k → F k) (hl : l.length ≤ 100000)
    (hc : ∀ j u, (clEnc (c, sc))[j]? = some u → w.cell? (ad.add j) = some u)
    (hk : ∀ (s' : Sl3) w', ClsAt w' F s' (l ++ [c]) → Keep (inB s.a) w w' → (∀ k, inB s'.a k → inB s.a k ∨ w.heap.size ≤ k) → K s'.a s'.n s'.c w') :
    runL Tryd.prog (bi .append #[50, 50] 50 [false, false] [.slice s.a s.n s.c, .slice (some ad) 1 1]) K w := by
  obtain ⟨ps, h1, h2, h3, h4⟩ := h
  refine app_Lst (bytes := 56) (z := .agg #[.string noText, .int .i64 0, .slice none 0 0, .bool false, .bool false]) Tryd.underlying50 (by kernel_rfl) rfl (by decide) clEnc_len (clEnc_one _) h2 hc (by decide) (by rw [h2.1]; rw [h1] at hl; simp at hl; omega) fun a' c' w' g1 g2 g3 => ?_
  refine hk ⟨a', s.n + 1, c'⟩ w' ⟨ps ++ [(c, sc)], by simp [h1], g1, fun k hk => ?_, fun p hp => ?_⟩ g2 g3
  · rcases g3 k hk with g | g
    · exact h3 k g
    · exact hF k g
  · have key : ∀ {q : Sl3} {ns : List Fg}, NumsAt w (fun k => F k ∧ ¬ inB s.a k) q ns → NumsAt w' (fun k => F k ∧ ¬ inB a' k) q ns := fun {q ns} hq => by
      refine ⟨hq.1.keep g2 fun k hk => (hq.2 k hk).2, fun k hk => ⟨(hq.2 k hk).1, fun g => ?_⟩⟩
      rcases g3 k g with g | g
      · exact (hq.2 k hk).2 g
      · have := hq.1.lt hk; omega
    rcases List.mem_append.1 hp with hp | hp
    · exact key (h4 p hp)
    · simp at hp; subst hp; exact key hn
/-- One line more. -/
theorem app_rws {l : List Rw} {x : Rw} {sc : Sl3} {ad : Addr} {K : Option Addr → Nat → Nat → PT} (h : RwsAt w F s l) (hn : ClsAt w (fun k => F k ∧ ¬ inB s.a k) sc x.clauses) (hF : ∀ k, w.heap.size ≤ k → F k) (hl : l.length ≤ 100000)
    (hc : ∀ j u, (rwEnc (x, sc))[j]? = some u → w.cell? (ad.add j) = some u)
    (hk : ∀ (s' : Sl3) w', RwsAt w' F s' (l ++ [x]) → Keep (inB s.a) w w' → (∀ k, inB s'.a k → inB s.a k ∨ w.heap.size ≤ k) → K s'.a s'.n s'.c w') :
    runL Tryd.prog (bi .append #[29, 29] 29 [false, false] [.slice s.a s.n s.c, .slice (some ad) 1 1]) K w := by
  obtain ⟨ps, h1, h2, h3, h4⟩ := h
  refine app_Lst (bytes := 80) (z := .agg #[.int .i64 0, .bool false, .int .i64 0, .int .i64 0, .slice none 0 0, .bool false, .int .i64 0, .int .i64 0]) Tryd.underlying29 (by kernel_rfl) rfl (by decide) rwEnc_len (rwEnc_one _) h2 hc (by decide) (by rw [h2.1]; rw [h1] at hl; simp at hl; omega) fun a' c' w' g1 g2 g3 => ?_
  refine hk ⟨a', s.n + 1, c'⟩ w' ⟨ps ++ [(x, sc)], by simp [h1], g1, fun k hk => ?_, fun p hp => ?_⟩ g2 g3
  · rcases g3 k hk with g | g
    · exact h3 k g
    · exact hF k g
  · have key : ∀ {q : Sl3} {ns : List Cl}, ClsAt w (fun k => F k ∧ ¬ inB s.a k) q ns → ClsAt w' (fun k => F k ∧ ¬ inB a' k) q ns := fun {q ns} hq => by
      have h' : ClsAt w (fun k => F k ∧ ¬ inB a' k) q ns := hq.mono fun k hk hf => ⟨hf.1, fun g => by
        rcases g3 k g with g | g
        · exact hf.2 g
        · omega⟩
      obtain ⟨qs, q1, q2, q3, q4⟩ := hq
      obtain ⟨rs, r1, r2, r3, r4⟩ := h'
      refine ⟨qs, q1, q2.keep g2 fun k hk => (q3 k hk).2, fun k hk => ⟨(q3 k hk).1, fun g => ?_⟩, fun p hp => ?_⟩
      · rcases g3 k g with g | g
        · exact (q3 k hk).2 g
        · have := q2.lt hk; omega
      · have hp4 := q4 p hp
        refine ⟨hp4.1.keep g2 fun k hk => (hp4.2 k hk).1.2, fun k hk => ⟨⟨(hp4.2 k hk).1.1, fun g => ?_⟩, (hp4.2 k hk).2⟩⟩
        rcases g3 k g with g | g
        · exact (hp4.2 k hk).1.2 g
        · have := hp4.1.lt hk; omega
    rcases List.mem_append.1 hp with hp | hp
    · exact key (h4 p hp)
    · simp at hp; subst hp; exact key hn
end
end Go.Proofs.YtllgjjldnnmjkaaDoor
