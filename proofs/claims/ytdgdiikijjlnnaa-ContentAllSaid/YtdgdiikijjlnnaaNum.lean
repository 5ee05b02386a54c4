/- Whole numbers as bytes, seven bits each: what is read, in plain Lean. No program in sight. -/
import Derived.WalkKit
import Derived.Below
import Derived.Laws.Bits64
import Derived.Laws.Bits64b
import Derived.Laws.BitsLemmas
namespace Go.Proofs.Ytdgdiikijjlnnaa.M
open Go.RowKit
/-- The number that begins here, read from place i on with n gathered, and what is behind it. -/
def uGo (i n : Nat) : List UInt8 → Option (Nat × List UInt8)
  | [] => none
  | b :: r => if (i = 9 ∧ 1 < b.toNat) ∨ (0 < i ∧ b.toNat = 0) then none else if b.toNat < 128 then some (n + b.toNat % 128 * 2 ^ (7 * i), r) else uGo (i + 1) (n + b.toNat % 128 * 2 ^ (7 * i)) r
/-- A reader's next number. -/
def rU (l : List UInt8) (bad : Bool) : Nat × List UInt8 × Bool := if bad then (0, l, true) else match uGo 0 0 l with
  | some (n, r) => (n, r, false)
  | none => (0, l, true)
/-- The next number, at most that. -/
def rI (most : Nat) (l : List UInt8) (bad : Bool) : Nat × List UInt8 × Bool :=
  if (rU l bad).2.2 then (0, (rU l bad).2.1, true) else if (rU l bad).1 ≤ most then rU l bad else (0, (rU l bad).2.1, true)
/-- The next bytes, at most so many. -/
def rB (most : Nat) (l : List UInt8) (bad : Bool) : List UInt8 × List UInt8 × Bool :=
  if (rI most l bad).2.2 then ([], (rI most l bad).2.1, true) else if (rI most l bad).1 ≤ (rI most l bad).2.1.length then ((rI most l bad).2.1.take (rI most l bad).1, (rI most l bad).2.1.drop (rI most l bad).1, false) else ([], (rI most l bad).2.1, true)

theorem uGo_nil (i n : Nat) : uGo i n [] = none := rfl
theorem uGo_stop {i n : Nat} {b : UInt8} {r : List UInt8} (h : (i = 9 ∧ 1 < b.toNat) ∨ (0 < i ∧ b.toNat = 0)) : uGo i n (b :: r) = none := by
  rw [uGo, if_pos h]
theorem uGo_last {i n : Nat} {b : UInt8} {r : List UInt8} (h : ¬((i = 9 ∧ 1 < b.toNat) ∨ (0 < i ∧ b.toNat = 0))) (hb : b.toNat < 128) : uGo i n (b :: r) = some (n + b.toNat % 128 * 2 ^ (7 * i), r) := by
  rw [uGo, if_neg h, if_pos hb]
theorem uGo_next {i n : Nat} {b : UInt8} {r : List UInt8} (h : ¬((i = 9 ∧ 1 < b.toNat) ∨ (0 < i ∧ b.toNat = 0))) (hb : 128 ≤ b.toNat) : uGo i n (b :: r) = uGo (i + 1) (n + b.toNat % 128 * 2 ^ (7 * i)) r := by
  rw [uGo, if_neg h, if_neg (by omega)]
theorem uGo_len {i n m : Nat} {l r : List UInt8} (h : uGo i n l = some (m, r)) : r.length < l.length := by
  induction l generalizing i n with
  | nil => simp [uGo] at h
  | cons b l ih =>
    rw [uGo] at h
    split at h
    · cases h
    · split at h
      · simp only [Option.some.injEq, Prod.mk.injEq] at h
        rw [h.2]
        simp
      · have := ih h
        simp
        omega
theorem uGo_drop {i n m : Nat} {l r : List UInt8} (h : uGo i n l = some (m, r)) : r = l.drop (l.length - r.length) := by
  induction l generalizing i n with
  | nil => simp [uGo] at h
  | cons b l ih =>
    have hlt := uGo_len h
    rw [uGo] at h
    split at h
    · cases h
    · split at h
      · simp only [Option.some.injEq, Prod.mk.injEq] at h
        rw [← h.2]
        simp
      · have h1 := ih h
        have h2 := uGo_len h
        rw [show (b :: l).length - r.length = (l.length - r.length) + 1 by simp at hlt ⊢; omega, List.drop_succ_cons]
        exact h1
/-- What is gathered stays below 2 ^ (7 i), and the whole below 2 ^ 64. -/
theorem uGo_lt {i n m : Nat} {l r : List UInt8} (hi : i ≤ 9) (hn : n < 2 ^ (7 * i)) (h : uGo i n l = some (m, r)) : m < 18446744073709551616 := by
  induction l generalizing i n with
  | nil => simp [uGo] at h
  | cons b l ih =>
    have hbb := b.toNat_lt
    rw [uGo] at h
    split at h
    · cases h
    · rename_i hs
      have hp : 2 ^ (7 * (i + 1)) = 128 * 2 ^ (7 * i) := by rw [Nat.mul_add, Nat.pow_add]; omega
      have hm : b.toNat % 128 * 2 ^ (7 * i) ≤ 127 * 2 ^ (7 * i) := Nat.mul_le_mul_right _ (by omega)
      split at h
      · simp only [Option.some.injEq, Prod.mk.injEq] at h
        rw [← h.1]
        rcases Nat.lt_or_ge i 9 with h9 | h9
        · have h63 : 2 ^ (7 * (i + 1)) ≤ 2 ^ 63 := Nat.pow_le_pow_right (by omega) (by omega)
          omega
        · have : i = 9 := by omega
          subst this
          have : b.toNat ≤ 1 := by omega
          have h1 : b.toNat % 128 * 2 ^ (7 * 9) ≤ 1 * 2 ^ (7 * 9) := Nat.mul_le_mul_right _ (by omega)
          omega
      · rename_i hb
        rcases Nat.lt_or_ge i 9 with h9 | h9
        · exact ih (by omega) (by omega) h
        · exfalso
          omega
theorem rU_lt (l : List UInt8) (bad : Bool) : (rU l bad).1 < 18446744073709551616 := by
  unfold rU
  split
  · simp
  · split
    · rename_i n r h
      exact uGo_lt (by omega) (by simp) h
    · simp
theorem rU_len (l : List UInt8) (bad : Bool) : (rU l bad).2.1.length ≤ l.length := by
  unfold rU
  split
  · simp
  · split
    · rename_i n r h
      have := uGo_len h
      simp
      omega
    · simp
theorem rI_le (most : Nat) (l : List UInt8) (bad : Bool) : (rI most l bad).1 ≤ most := by
  unfold rI
  split
  · simp
  · split
    · assumption
    · simp
theorem rI_len (most : Nat) (l : List UInt8) (bad : Bool) : (rI most l bad).2.1.length ≤ l.length := by
  unfold rI
  have := rU_len l bad
  split
  · simpa
  · split <;> simpa
theorem rB_len (most : Nat) (l : List UInt8) (bad : Bool) : (rB most l bad).2.1.length ≤ l.length := by
  unfold rB
  have := rI_len most l bad
  split
  · simpa
  · split
    · simp; omega
    · simpa

/-! ### bits -/
theorem or_add {n m k : Nat} (h : n < 2 ^ k) : n ||| (m * 2 ^ k) = n + m * 2 ^ k := by
  rw [Nat.or_comm, Nat.mul_comm, ← Nat.two_pow_add_eq_or_of_lt h, Nat.add_comm]
theorem u8_and127 (b : UInt8) : bits .and .u8 (b.toNat : Int) 127 = ((b.toNat % 128 : Nat) : Int) := by
  have := b.toNat_lt
  rw [show (127 : Int) = 2 ^ 7 - 1 by decide]
  have h := bits_mask .u8 8 (by decide) wraps_u8 7 (by decide) (b.toNat : Int) (by omega) (by omega)
  simp only [show (2 : Int) ^ 7 = 128 by decide] at h ⊢
  rw [h]
  omega
/-- What the program gathers, byte by byte. -/
theorem uint_val {m k : Nat} {b : UInt8} (hk : k ≤ 9) (hm : m < 2 ^ (7 * k)) (hb : k = 9 → b.toNat ≤ 1) :
    bits .or .u64 (m : Int) (IntKind.u64.wrap (IntKind.u64.wrap (bits .and .u8 (b.toNat : Int) 127) * 2 ^ (7 * k))) = ((m + b.toNat % 128 * 2 ^ (7 * k) : Nat) : Int) := by
  have hbb := b.toNat_lt
  rw [u8_and127, IntKind.wrap_u64 ((b.toNat % 128 : Nat) : Int), Int.emod_eq_of_lt (by omega) (by omega)]
  have hlt : b.toNat % 128 * 2 ^ (7 * k) < 18446744073709551616 := by
    rcases Nat.lt_or_ge k 9 with h | h
    · have h1 : 2 ^ (7 * k) ≤ 2 ^ 56 := Nat.pow_le_pow_right (by omega) (by omega)
      have h2 : b.toNat % 128 * 2 ^ (7 * k) ≤ 127 * 2 ^ 56 := Nat.mul_le_mul (by omega) h1
      omega
    · have h9 : k = 9 := by omega
      have := hb h9
      subst h9
      have h1 : b.toNat % 128 * 2 ^ (7 * 9) ≤ 1 * 2 ^ (7 * 9) := Nat.mul_le_mul_right _ (by omega)
      omega
  have hmlt : m < 18446744073709551616 := by
    have h1 : 2 ^ (7 * k) ≤ 2 ^ 63 := Nat.pow_le_pow_right (by omega) (by omega)
    omega
  rw [show ((b.toNat % 128 : Nat) : Int) * 2 ^ (7 * k) = ((b.toNat % 128 * 2 ^ (7 * k) : Nat) : Int) by rw [Int.natCast_mul, Int.natCast_pow]; rfl,
    IntKind.wrap_u64, Int.emod_eq_of_lt (by omega) (by omega), bits_or_u64_nat _ _ hmlt hlt, or_add hm]
theorem uint_next {m k : Nat} {b : UInt8} (hm : m < 2 ^ (7 * k)) : m + b.toNat % 128 * 2 ^ (7 * k) < 2 ^ (7 * (k + 1)) := by
  have hp : 2 ^ (7 * (k + 1)) = 128 * 2 ^ (7 * k) := by rw [Nat.mul_add, Nat.pow_add]; omega
  have h1 : b.toNat % 128 * 2 ^ (7 * k) ≤ 127 * 2 ^ (7 * k) := Nat.mul_le_mul_right _ (by omega)
  omega
theorem get_drop {l : List UInt8} {k : Nat} (h : k < l.length) : l.drop k = l[k] :: l.drop (k + 1) := List.drop_eq_getElem_cons h
end Go.Proofs.Ytdgdiikijjlnnaa.M
