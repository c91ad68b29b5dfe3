/-
  Pieces of code whose frames are told by their slots: how a frame's slots are read, and a frame written out. No condition.
-/
import Derived.Test.YtllgjjldnnmjkaaDoorWlOk
set_option maxRecDepth 100000
namespace Go.Proofs.YtllgjjldnnmjkaaDoor
open Go.RowKit

def atI (k : IntKind) (v : Value) (K : Int → PT) : PT := match v with | .int k' n => bif keq k k' then K n else bad | _ => bad
def atB (v : Value) (K : Bool → PT) : PT := match v with | .bool n => K n | _ => bad
def atS (v : Value) (K : ByteArray → PT) : PT := match v with | .string n => K n | _ => bad
def atP (v : Value) (K : Option Addr → PT) : PT := match v with | .pointer n => K n | _ => bad
def atA (v : Value) (K : Addr → PT) : PT := match v with | .pointer (some n) => K n | _ => bad
/-- What a walk over a text has come to: a place, a rune. -/
def atNX (v : Value) (K : Int → Int → PT) : PT := match v with | .tuple ⟨[.bool true, .int .i64 a, .int .i32 b]⟩ => K a b | _ => bad
def atL (v : Value) (K : Option Addr → Nat → Nat → PT) : PT := match v with | .slice a n c => K a n c | _ => bad
def atM (v : Value) (K : Option Nat → PT) : PT := match v with | .map n => K n | _ => bad
def atN (v : Value) (K : List Value → PT) : PT := match v with | .agg ⟨cs⟩ => K cs | _ => bad
def atU (v : Value) (K : PT) : PT := match v with | .tuple ⟨[]⟩ => K | _ => bad
def at2 (v : Value) (K : Value → Value → PT) : PT := match v with | .tuple ⟨[x, y]⟩ => K x y | _ => bad
def at3 (v : Value) (K : Value → Value → Value → PT) : PT := match v with | .tuple ⟨[x, y, z]⟩ => K x y z | _ => bad

section
variable {v : Value} {w : World}
theorem atI_e {k : IntKind} {K : Int → PT} (h : atI k v K w) : ∃ n, v = .int k n ∧ K n w := by
  cases v with
  | int k' n =>
    replace h : (bif keq k k' then K n else bad) w := h
    cases hk : keq k k' with
    | true => rw [hk] at h; obtain rfl := keq_eq hk; exact ⟨n, rfl, h⟩
    | false => rw [hk] at h; exact h.elim
  | _ => exact h.elim
theorem atB_e {K : Bool → PT} (h : atB v K w) : ∃ n, v = .bool n ∧ K n w := by cases v with | bool n => exact ⟨n, rfl, h⟩ | _ => exact h.elim
theorem atS_e {K : ByteArray → PT} (h : atS v K w) : ∃ n, v = .string n ∧ K n w := by cases v with | string n => exact ⟨n, rfl, h⟩ | _ => exact h.elim
theorem atP_e {K : Option Addr → PT} (h : atP v K w) : ∃ n, v = .pointer n ∧ K n w := by cases v with | pointer n => exact ⟨n, rfl, h⟩ | _ => exact h.elim
theorem atA_e {K : Addr → PT} (h : atA v K w) : ∃ n, v = .pointer (some n) ∧ K n w := by
  cases v with
  | pointer n => cases n with | some a => exact ⟨a, rfl, h⟩ | none => exact h.elim
  | _ => exact h.elim
theorem atNX_e {K : Int → Int → PT} (h : atNX v K w) : ∃ a b, v = .tuple #[.bool true, .int .i64 a, .int .i32 b] ∧ K a b w := by
  unfold atNX at h
  split at h
  · exact ⟨_, _, rfl, h⟩
  · exact h.elim
theorem atL_e {K : Option Addr → Nat → Nat → PT} (h : atL v K w) : ∃ a n c, v = .slice a n c ∧ K a n c w := by cases v with | slice a n c => exact ⟨a, n, c, rfl, h⟩ | _ => exact h.elim
theorem atM_e {K : Option Nat → PT} (h : atM v K w) : ∃ n, v = .map n ∧ K n w := by cases v with | map n => exact ⟨n, rfl, h⟩ | _ => exact h.elim
theorem atN_e {K : List Value → PT} (h : atN v K w) : ∃ cs, v = .agg ⟨cs⟩ ∧ K cs w := by cases v with | agg n => cases n; exact ⟨_, rfl, h⟩ | _ => exact h.elim
theorem atU_e {K : PT} (h : atU v K w) : v = .tuple #[] ∧ K w := by
  cases v with
  | tuple n => obtain ⟨l⟩ := n; cases l with | nil => exact ⟨rfl, h⟩ | cons _ _ => exact h.elim
  | _ => exact h.elim
theorem at2_e {K : Value → Value → PT} (h : at2 v K w) : ∃ x y, v = .tuple #[x, y] ∧ K x y w := by
  cases v with
  | tuple n =>
    obtain ⟨l⟩ := n
    match l, h with
    | [x, y], h => exact ⟨x, y, rfl, h⟩
  | _ => exact h.elim
theorem at3_e {K : Value → Value → Value → PT} (h : at3 v K w) : ∃ x y z, v = .tuple #[x, y, z] ∧ K x y z w := by
  cases v with
  | tuple n =>
    obtain ⟨l⟩ := n
    match l, h with
    | [x, y, z], h => exact ⟨x, y, z, rfl, h⟩
  | _ => exact h.elim
end

/-- Pieces of code. -/
def sq1 (c : Code) : Code := match c with | .seq a _ => a | _ => .skip
def sq2 (c : Code) : Code := match c with | .seq _ b => b | _ => .skip
def blk (c : Code) : Code := match c with | .block _ a => a | _ => .skip
def cn1 (c : Code) : Code := match c with | .cond _ a _ => a | _ => .skip
def cn2 (c : Code) : Code := match c with | .cond _ _ b => b | _ => .skip
def lop (c : Code) : Code := match c with | .loop a => a | _ => .skip
def scp (c : Code) : Code := match c with | .scope a => a | _ => .skip
def bodyC (f : Func) : Code := match f.body with | some c => c | none => .skip
/-- After so many rounds. -/
def exK (f : Nat → PT) : PT := fun w => ∃ k, f k w

/-- A frame with slots written out. -/
def puts (ρ : Fr) : List (Nat × Value) → Fr
  | [] => ρ
  | p :: r => put (puts ρ r) p.1 p.2
theorem puts_same {ρ : Fr} : ∀ {l : List (Nat × Value)}, (∀ p ∈ l, ρ p.1 = p.2) → puts ρ l = ρ
  | [], _ => rfl
  | p :: r, h => by
    have h1 : puts ρ r = ρ := puts_same fun q hq => h q (by simp [hq])
    have : puts ρ (p :: r) = put (puts ρ r) p.1 p.2 := rfl
    rw [this, h1]
    exact put_same (h p (by simp))
theorem puts_nil {ρ : Fr} {p : Nat × Value} (h : p ∈ ([] : List (Nat × Value))) : ρ p.1 = p.2 := by cases h
theorem puts_cons {ρ : Fr} {s : Nat} {v : Value} {l : List (Nat × Value)} (h : ρ s = v) (hl : ∀ p ∈ l, ρ p.1 = p.2) : ∀ p ∈ (s, v) :: l, ρ p.1 = p.2 := by
  intro p hp
  rcases List.mem_cons.1 hp with rfl | hp
  · exact h
  · exact hl p hp
/-- A piece whose reading, at a frame written out, is F. -/
theorem ok_at {P : Program} {E : Env} {n : Nat} {Z : List PanicEntry → PT} {c : Code} {Q : QF} {ρ : Fr} {F : PT} {w : World} {a : Act} {J : Fr → PT} (l : List (Nat × Value)) (hok : Ok P n Z c Q J) (hl : ∀ p ∈ l, ρ p.1 = p.2) (heq : J (puts ρ l) = F) (he : codeAb E.k c = true) (hr : Rel E n a ρ) (h : F w) : c.wp P (conv E n Z Q) a w := by
  rw [puts_same hl] at heq
  subst heq
  exact hok E he ρ w a hr h

/-- What a call hands back, from what is known of it. -/
theorem cal_of {P : Program} {Z : List PanicEntry → PT} {f : FuncId} {args : List Value} {R : Value → PT} {w : World} {Q : Ending → World → Prop} (h : Calls P f ⟨args⟩ w Q) (hq : ∀ e w', Q e w' → ∃ v, e = .returned v ∧ R v w') : cal P Z f args R w :=
  h.mono fun e w' he => by obtain ⟨v, rfl, hv⟩ := hq e w' he; exact hv

theorem namesOk_of {P : Program} (h : (P.funcs.toList.all fun fn => !(fn.name == "runtime.NumGoroutine")) = true) : NamesOk P := fun f fn hf => by
  have := List.all_eq_true.1 h fn (List.mem_of_getElem? (by simpa using hf))
  simpa using this
end Go.Proofs.YtllgjjldnnmjkaaDoor
