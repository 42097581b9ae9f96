/- The typed machine, part 14: for the plain laws: loops that end, numbers that do not wrap. -/
import Derived.Test.YtfjikgkcleefiaaDoorTm12
set_option linter.unusedSimpArgs false
set_option linter.unusedVariables false
namespace Go.Tm
open Go.Ab

theorem loop_run {S X : Type} (F : S → Option (S ⊕ X)) (st : Nat → S) (res : Nat → X) (n : Nat) (last : F (st n) = some (.inr (res n)))
    (step : ∀ i, i < n → (F (st i) = some (.inl (st (i + 1))) ∧ res i = res (i + 1)) ∨ F (st i) = some (.inr (res i))) : loopC F (st 0) = some (res 0) := by
  have key : ∀ k i, i + k = n → loopC F (st i) = some (res i) := by
    intro k
    induction k with
    | zero => intro i h; rw [show i = n by omega, loopC_eq, last]; rfl
    | succ k ih =>
      intro i h
      rw [loopC_eq]
      rcases step i (by omega) with ⟨h1, h2⟩ | h1
      · rw [h1, h2]; exact ih (i + 1) (by omega)
      · rw [h1]; rfl
  exact key n 0 (by omega)

theorem loop_ind {S X : Type} (F : S → Option (S ⊕ X)) (n : Nat) (R : Nat → S → X → Prop) (step : ∀ i s x, i ≤ n → R i s x → F s = some (.inr x) ∨ (i < n ∧ ∃ s', F s = some (.inl s') ∧ R (i + 1) s' x)) {s : S} {x : X} (h : R 0 s x) :
    loopC F s = some x := by
  have key : ∀ k i s x, i + k = n → R i s x → loopC F s = some x := by
    intro k
    induction k with
    | zero =>
      intro i s x hi h
      rw [loopC_eq]
      rcases step i s x (by omega) h with h1 | ⟨h1, _⟩
      · rw [h1]; rfl
      · omega
    | succ k ih =>
      intro i s x hi h
      rw [loopC_eq]
      rcases step i s x (by omega) h with h1 | ⟨_, s', h1, h2⟩
      · rw [h1]; rfl
      · rw [h1]; exact ih (i + 1) s' x (by omega) h2
  exact key n 0 s x (by omega) h

theorem cond_bind {α β : Type} (c : Bool) (x y : Option α) (f : α → Option β) : (bif c then x else y).bind f = bif c then x.bind f else y.bind f := by cases c <;> rfl

theorem wrap_in (k : IntKind) {n : Int} (h : k.min ≤ n ∧ n ≤ k.max) : k.wrap n = n := by
  revert h
  cases k <;> simp only [IntKind.min, IntKind.max, IntKind.wrap, IntKind.bits, IntKind.signed] <;> simp <;> intro h1 h2 <;> (try split) <;> omega

theorem W64_in {n : Int} (h : -9223372036854775808 ≤ n ∧ n ≤ 9223372036854775807) : W64 n = n := wrap_in .i64 h
theorem WU64_in {n : Int} (h : 0 ≤ n ∧ n ≤ 18446744073709551615) : WU64 n = n := wrap_in .u64 h
theorem W32_in {n : Int} (h : -2147483648 ≤ n ∧ n ≤ 2147483647) : W32 n = n := wrap_in .i32 h
theorem WU32_in {n : Int} (h : 0 ≤ n ∧ n ≤ 4294967295) : WU32 n = n := wrap_in .u32 h
theorem WU16_in {n : Int} (h : 0 ≤ n ∧ n ≤ 65535) : WU16 n = n := wrap_in .u16 h
theorem WU8_in {n : Int} (h : 0 ≤ n ∧ n ≤ 255) : WU8 n = n := wrap_in .u8 h

theorem ltI_t {a b : Int} (h : a < b) : ltI a b = true := by simpa [ltI] using h
theorem ltI_f {a b : Int} (h : ¬ a < b) : ltI a b = false := by simpa [ltI] using h
theorem leI_t {a b : Int} (h : a ≤ b) : leI a b = true := by simpa [leI] using h
theorem leI_f {a b : Int} (h : ¬ a ≤ b) : leI a b = false := by simpa [leI] using h
theorem eqI_t {a b : Int} (h : a = b) : eqI a b = true := by simpa [eqI] using h
theorem eqI_f {a b : Int} (h : ¬ a = b) : eqI a b = false := by simpa [eqI] using h
theorem neI_t {a b : Int} (h : ¬ a = b) : neI a b = true := by simpa [neI] using h
theorem neI_f {a b : Int} (h : a = b) : neI a b = false := by simpa [neI] using h
theorem inI_t {i : Int} {n : Nat} (h : 0 ≤ i ∧ i < n) : inI i n = true := by simp [inI, leI, ltI]; omega
theorem inI_f {i : Int} {n : Nat} (h : ¬ (0 ≤ i ∧ i < n)) : inI i n = false := by
  cases hc : inI i n with
  | false => rfl
  | true => simp [inI, leI, ltI] at hc; omega

end Go.Tm
