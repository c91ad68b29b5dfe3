/-
  Entries and lines that come in with a call. No condition.
-/
import Derived.Test.YtllgjjldnnmjkaaDoorAwake
set_option linter.unusedVariables false
set_option linter.unusedSimpArgs false
set_option maxRecDepth 100000
namespace Go.Proofs.YtllgjjldnnmjkaaDoor
open Go.RowKit
/-- A slice's things. -/
theorem ro_of_typ {α : Type} {W : World} {fuel : Nat} {t e : TypeId} {sz : Nat} {f : α → List Value} {P : α → Prop} {cs : List Value} (hu : Tryd.prog.underlying t = some (.slice e)) (hn : Tryd.prog.cellsOf e = sz) (h : Typ Tryd.prog W fuel t cs)
    (hx : ∀ fuel es, Typ Tryd.prog W fuel e es → ∃ x : α, es = f x ∧ P x) : ∃ (a : Option Addr) (n c : Nat) (l : List α), cs = [.slice a n c] ∧ Ro W sz f a n c l ∧ ∀ x ∈ l, P x := by
  subst hn
  cases fuel with
  | zero => exact h.elim
  | succ g =>
    unfold Typ at h
    rw [hu] at h
    rcases h with h | ⟨ad, n, c, rfl, h1, h2, h3⟩
    · exact ⟨none, 0, 0, [], h, ⟨rfl, Nat.le_refl _, Nat.zero_le _, fun i x hx => by simp at hx⟩, by simp⟩
    · have key : ∀ m, m ≤ n → ∃ l : List α, l.length = m ∧ (∀ i x, l[i]? = some x → cellsAt W (ad.add (i * Tryd.prog.cellsOf e)) (f x)) ∧ ∀ x ∈ l, P x := by
        intro m
        induction m with
        | zero => exact fun _ => ⟨[], rfl, fun i x hx => by simp at hx, by simp⟩
        | succ m ih =>
          intro hm
          obtain ⟨l, l1, l2, l3⟩ := ih (by omega)
          obtain ⟨es, e1, e2, e3⟩ := h3 m (by omega)
          obtain ⟨x, rfl, px⟩ := hx _ _ e3
          refine ⟨l ++ [x], by simp [l1], fun i y hy => ?_, fun y hy => ?_⟩
          · rw [List.getElem?_append] at hy
            split at hy
            · exact l2 i y hy
            · have hi := (List.getElem?_eq_some_iff.1 hy).1
              have : i = m := by simp at hi; omega
              subst this
              rw [l1, Nat.sub_self] at hy
              cases hy
              exact e2
          · rcases List.mem_append.1 hy with hy | hy
            · exact l3 y hy
            · rw [List.mem_singleton.1 hy]; exact px
      obtain ⟨l, l1, l2, l3⟩ := key n (Nat.le_refl _)
      exact ⟨some ad, n, c, l, rfl, ⟨l1.symm, h1, Nat.le_trans h1 h2, fun i x hx => ⟨ad, rfl, l2 i x hx⟩⟩, l3⟩
theorem ro_of_arg {α : Type} {W : World} {t e : TypeId} {sz : Nat} {f : α → List Value} {P : α → Prop} {v : Value} (hu : Tryd.prog.underlying t = some (.slice e)) (hn : Tryd.prog.cellsOf e = sz) (h : Arg W t v)
    (hx : ∀ fuel es, Typ Tryd.prog W fuel e es → ∃ x : α, es = f x ∧ P x) : ∃ (a : Option Addr) (n c : Nat) (l : List α), v = .slice a n c ∧ Ro W sz f a n c l ∧ ∀ x ∈ l, P x := by
  obtain ⟨fuel, ht⟩ := h.2
  obtain ⟨a, n, c, rfl, _⟩ := h.slice hu hn
  obtain ⟨a', n', c', l, e1, e2, e3⟩ := ro_of_typ hu hn ht hx
  simp [Value.cells] at e1
  obtain ⟨rfl, rfl, rfl⟩ := e1
  exact ⟨a, n, c, l, rfl, e2, e3⟩
section
variable {W : World} {fuel : Nat}
theorem c1I : Tryd.prog.cellsOf 3 = 1 := by kernel_rfl
theorem c1U : Tryd.prog.cellsOf 33 = 1 := by kernel_rfl
theorem c1B : Tryd.prog.cellsOf 4 = 1 := by kernel_rfl
theorem c1S : Tryd.prog.cellsOf 9 = 1 := by kernel_rfl
theorem en_of {cs : List Value} (h : Typ Tryd.prog W fuel 35 cs) : ∃ x : En, cs = x.enc ∧ x.Ok := by
  obtain ⟨hl, g, h⟩ := h.struct Tryd.underlying35 (n := 12) (by kernel_rfl)
  match cs, hl with
  | [a0, a1, a2, a3, a4, a5, a6, a7, a8, a9, aa, ab], _ =>
    simp only [List.mem_cons, List.not_mem_nil, or_false, forall_eq_or_imp, forall_eq] at h
    obtain ⟨h0, h1, h2, h3, h4, h5, h6, h7, h8, h9, ha, hb⟩ := h
    obtain ⟨x0, e0⟩ := Typ.bool Tryd.underlying4 h0
    obtain ⟨x1, e1, r1⟩ := Typ.int Tryd.underlying3 h1
    obtain ⟨x2, e2, r2⟩ := Typ.int Tryd.underlying33 h2
    obtain ⟨x3, e3, r3⟩ := Typ.int Tryd.underlying3 h3
    obtain ⟨x4, e4, r4⟩ := Typ.int Tryd.underlying33 h4
    obtain ⟨x5, e5, r5⟩ := Typ.int Tryd.underlying3 h5
    obtain ⟨x6, e6, r6⟩ := Typ.int Tryd.underlying3 h6
    obtain ⟨x7, e7, r7⟩ := Typ.int Tryd.underlying3 h7
    obtain ⟨x8, e8, r8⟩ := Typ.int Tryd.underlying3 h8
    obtain ⟨x9, e9, r9⟩ := Typ.int Tryd.underlying3 h9
    obtain ⟨xa, ea, ra⟩ := Typ.int Tryd.underlying3 ha
    obtain ⟨xb, eb, rb⟩ := Typ.int Tryd.underlying3 hb
    simp only [c1I, c1U, c1B, List.drop_succ_cons, List.drop_zero, List.take_succ_cons, List.take_zero, List.cons.injEq, and_true] at e0 e1 e2 e3 e4 e5 e6 e7 e8 e9 ea eb
    subst e0 e1 e2 e3 e4 e5 e6 e7 e8 e9 ea eb
    have q2 : 0 ≤ x2 ∧ x2 ≤ 4294967295 := r2
    have q4 : 0 ≤ x4 ∧ x4 ≤ 4294967295 := r4
    exact ⟨⟨x0, x1, x2, x3, x4, x5, x6, x7, x8, x9, xa, xb⟩, rfl, ⟨q2.1, by simp only; omega, q4.1, by simp only; omega⟩⟩
theorem en_arg {v : Value} (h : Arg W 35 v) : ∃ x : En, v = .agg ⟨x.enc⟩ ∧ x.Ok := by
  obtain ⟨cs, rfl, fuel, ht⟩ := h.agg Tryd.underlying35
  obtain ⟨x, rfl, hx⟩ := en_of ht
  exact ⟨x, rfl, hx⟩
theorem ens_arg {v : Value} (h : Arg W 23 v) : ∃ (o : Sl3) (l : List En), v = .slice o.a o.n o.c ∧ EnO W o l ∧ ∀ x ∈ l, x.Ok := by
  obtain ⟨a, n, c, l, rfl, h1, h2⟩ := ro_of_arg (f := En.enc) (P := En.Ok) (sz := 12) Tryd.underlying23 (by kernel_rfl) h fun fuel es ht => en_of ht
  exact ⟨⟨a, n, c⟩, l, rfl, h1, h2⟩
theorem fg_of {cs : List Value} (h : Typ Tryd.prog W fuel 49 cs) : ∃ x : Fg, cs = x.enc ∧ True := by
  obtain ⟨hl, g, h⟩ := h.struct Tryd.underlying49 (n := 2) (by kernel_rfl)
  match cs, hl with
  | [a0, a1], _ =>
    simp only [List.mem_cons, List.not_mem_nil, or_false, forall_eq_or_imp, forall_eq] at h
    obtain ⟨h0, h1⟩ := h
    obtain ⟨x0, e0, _⟩ := Typ.int Tryd.underlying3 h0
    obtain ⟨x1, e1, _⟩ := Typ.int Tryd.underlying3 h1
    simp only [c1I, List.drop_succ_cons, List.drop_zero, List.take_succ_cons, List.take_zero, List.cons.injEq, and_true] at e0 e1
    subst e0 e1
    exact ⟨⟨x0, x1⟩, rfl, trivial⟩
theorem c1F : Tryd.prog.cellsOf 53 = 1 := by kernel_rfl
theorem c2F : Tryd.prog.cellsOf 49 = 2 := by kernel_rfl
theorem c1C : Tryd.prog.cellsOf 50 = 1 := by kernel_rfl
theorem cl_of {cs : List Value} (h : Typ Tryd.prog W fuel 55 cs) : ∃ p : Cl × Sl3, cs = clEnc p ∧ NumsO W p.2 p.1.nums := by
  obtain ⟨hl, g, h⟩ := h.struct Tryd.underlying55 (n := 5) (by kernel_rfl)
  match cs, hl with
  | [a0, a1, a2, a3, a4], _ =>
    simp only [List.mem_cons, List.not_mem_nil, or_false, forall_eq_or_imp, forall_eq] at h
    obtain ⟨h0, h1, h2, h3, h4⟩ := h
    obtain ⟨x0, e0, _⟩ := Typ.str Tryd.underlying9 h0
    obtain ⟨x1, e1, _⟩ := Typ.int Tryd.underlying3 h1
    obtain ⟨sa, sn, sc, l, e2, r2, _⟩ := ro_of_typ (f := Fg.enc) (sz := 2) Tryd.underlying53 c2F h2 fun fuel es ht => fg_of ht
    obtain ⟨x3, e3⟩ := Typ.bool Tryd.underlying4 h3
    obtain ⟨x4, e4⟩ := Typ.bool Tryd.underlying4 h4
    simp only [c1I, c1S, c1B, c1F, List.drop_succ_cons, List.drop_zero, List.take_succ_cons, List.take_zero, List.cons.injEq, and_true] at e0 e1 e2 e3 e4
    subst e0 e1 e2 e3 e4
    exact ⟨(⟨x0, x1, l, x3, x4⟩, ⟨sa, sn, sc⟩), rfl, r2⟩
theorem rw_of {cs : List Value} (h : Typ Tryd.prog W fuel 52 cs) : ∃ p : Rw × Sl3, cs = rwEnc p ∧ ClsO W p.2 p.1.clauses := by
  obtain ⟨hl, g, h⟩ := h.struct Tryd.underlying52 (n := 8) (by kernel_rfl)
  match cs, hl with
  | [a0, a1, a2, a3, a4, a5, a6, a7], _ =>
    simp only [List.mem_cons, List.not_mem_nil, or_false, forall_eq_or_imp, forall_eq] at h
    obtain ⟨h0, h1, h2, h3, h4, h5⟩ := h
    obtain ⟨x0, e0, _⟩ := Typ.int Tryd.underlying3 h0
    obtain ⟨x1, e1⟩ := Typ.bool Tryd.underlying4 h1
    obtain ⟨x2, e2, _⟩ := fg_of h2
    obtain ⟨sa, sn, sc, l, e3, r3, p3⟩ := ro_of_typ (f := clEnc) (P := fun p => NumsO W p.2 p.1.nums) (sz := 5) Tryd.underlying50 (by kernel_rfl) h3 fun fuel es ht => cl_of ht
    obtain ⟨x4, e4⟩ := Typ.bool Tryd.underlying4 h4
    obtain ⟨x5, e5, _⟩ := fg_of h5
    simp only [c1I, c1B, c1C, c2F, Fg.enc, List.drop_succ_cons, List.drop_zero, List.take_succ_cons, List.take_zero, List.cons.injEq, and_true] at e0 e1 e2 e3 e4 e5
    obtain ⟨e2, e2'⟩ := e2
    obtain ⟨e5, e5'⟩ := e5
    subst e0 e1 e2 e2' e3 e4 e5 e5'
    exact ⟨(⟨x0, x1, ⟨x2.n, x2.pos⟩, l.map Prod.fst, x4, ⟨x5.n, x5.pos⟩⟩, ⟨sa, sn, sc⟩), rfl, l, rfl, r3, p3⟩
theorem raws_arg {v : Value} (h : Arg W 29 v) : ∃ (s : Sl3) (l : List Rw), v = .slice s.a s.n s.c ∧ RwsO W s l := by
  obtain ⟨a, n, c, l, rfl, h1, h2⟩ := ro_of_arg (f := rwEnc) (P := fun p => ClsO W p.2 p.1.clauses) (sz := 8) Tryd.underlying29 (by kernel_rfl) h fun fuel es ht => rw_of ht
  exact ⟨⟨a, n, c⟩, l.map Prod.fst, rfl, l, rfl, h1, h2⟩
/-- A header that came in. -/
theorem head_of {v : Value} (h : Arg W 37 v) : ∃ g : List UInt8, v = .agg ⟨encH g⟩ ∧ g.length = 13 := by
  obtain ⟨cs, rfl, fuel, ht⟩ := h.arr Tryd.underlying37
  cases fuel with
  | zero => exact ht.elim
  | succ f =>
    unfold Typ at ht
    rw [Tryd.underlying37] at ht
    obtain ⟨hl, ha⟩ := ht
    have c1 : Tryd.prog.cellsOf 37 = 13 := by kernel_rfl
    have c2 : Tryd.prog.cellsOf 5 = 1 := by kernel_rfl
    rw [c1] at hl
    rw [c2] at ha
    have key : ∀ n (l : List Value), l.length = n → (∀ i, i < n → Typ Tryd.prog W f 5 ((l.drop (i * 1)).take 1)) → ∃ g : List UInt8, l = encH g ∧ g.length = n := by
      intro n
      induction n with
      | zero => intro l hl _; exact ⟨[], by rw [List.eq_nil_of_length_eq_zero hl]; rfl, rfl⟩
      | succ n ih =>
        intro l hl ha
        cases l with
        | nil => simp at hl
        | cons x l =>
          obtain ⟨g, e1, e2⟩ := ih l (by simpa using hl) fun i hi => by
            have := ha (i + 1) (by omega)
            simpa [Nat.add_mul] using this
          obtain ⟨m, e3, e4, e5⟩ := Typ.int Tryd.underlying5 (ha 0 (by omega))
          simp at e3
          subst e3
          have e4 : 0 ≤ m := e4
          have e5 : m ≤ 255 := e5
          refine ⟨UInt8.ofNat m.toNat :: g, ?_, by simp [e2]⟩
          rw [e1]
          simp only [encH, List.map_cons, Extern.Stop.cell, UInt8.toNat_ofNat']
          congr 2
          show m = ((m.toNat % 256 : Nat) : Int)
          omega
    obtain ⟨g, e1, e2⟩ := key 13 _ hl ha
    exact ⟨g, by rw [← e1], e2⟩
theorem places_of {l : List (String × DataW Unit)} (h : laidMet Tryd.prog l W) (h1 : ("milepost/head.places", pairData placesL) ∈ l) : Places W :=
  varIs_pairs h h1 (by kernel_rfl) (t := 127) (e := 126) (i := 3) (m := 5) (by kernel_rfl) (by kernel_rfl) Tryd.underlying126 Tryd.underlying3 ⟨rfl, rfl, rfl, rfl⟩ (by kernel_rfl) (by kernel_rfl) (by kernel_rfl)
end
end Go.Proofs.YtllgjjldnnmjkaaDoor
