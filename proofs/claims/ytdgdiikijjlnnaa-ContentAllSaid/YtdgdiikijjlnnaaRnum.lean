/- Plain law: the reference's reader of a number answers as the program's reader does. -/
import Derived.Test.YtdgdiikijjlnnaaNum2
namespace Go.Proofs.Ytdgdiikijjlnnaa.M
open Go.RowKit
/-- The reference's loop, from place i on with n gathered: the number, and how many bytes. -/
def rg (i n : Nat) : List UInt8 → Option (Nat × Nat)
  | [] => none
  | b :: r => if 10 ≤ i then none else if 127 < b.toNat then rg (i + 1) ((n + b.toNat % 128 * 2 ^ (7 * i)) % 18446744073709551616) r else some ((n + b.toNat % 128 * 2 ^ (7 * i)) % 18446744073709551616, i + 1)
/-- What the reference reads: the number, how many bytes; none: a fault. -/
def rg1 (l : List UInt8) : Option (Nat × Nat) := match rg 0 0 l with
  | some (n, k) => if uEnc n = l.take k then some (n, k) else none
  | none => none
theorem rg_enc (m : Nat) : ∀ (i acc : Nat) (r : List UInt8), i + (uEnc m).length ≤ 10 → acc + m * 2 ^ (7 * i) < 18446744073709551616 → rg i acc (uEnc m ++ r) = some (acc + m * 2 ^ (7 * i), i + (uEnc m).length) := by
  induction m using Nat.strongRecOn with
  | ind m ih =>
    intro i acc r hi hb
    by_cases h : m < 128
    · rw [uEnc_small h] at hi ⊢
      simp only [List.singleton_append, List.length_singleton] at hi ⊢
      unfold rg
      rw [u8_nat (by omega), if_neg (by omega), if_neg (by omega), Nat.mod_eq_of_lt h, Nat.mod_eq_of_lt hb]
    · rw [uEnc_big h] at hi ⊢
      simp only [List.cons_append, List.length_cons] at hi ⊢
      have e : m % 128 * 2 ^ (7 * i) + m / 128 * 2 ^ (7 * (i + 1)) = m * 2 ^ (7 * i) := by
        rw [pow7, ← Nat.mul_assoc, ← Nat.add_mul]
        congr 1
        omega
      have e2 : (m % 128 + 128) % 128 = m % 128 := by omega
      unfold rg
      rw [u8_nat (by omega), if_neg (by omega), if_pos (by omega), e2]
      rw [Nat.mod_eq_of_lt (by omega), ih (m / 128) (by omega) (i + 1) _ r (by omega) (by omega)]
      simp only [Option.some.injEq, Prod.mk.injEq]
      omega
theorem rg_lt {i n m k : Nat} {l : List UInt8} (h : rg i n l = some (m, k)) : m < 18446744073709551616 ∧ k ≤ i + l.length ∧ i < k := by
  induction l generalizing i n with
  | nil => simp [rg] at h
  | cons b r ih =>
    unfold rg at h
    split at h
    · cases h
    · split at h
      · have := ih h
        simp
        omega
      · simp only [Option.some.injEq, Prod.mk.injEq] at h
        have := Nat.mod_lt (n + b.toNat % 128 * 2 ^ (7 * i)) (show 0 < 18446744073709551616 by decide)
        simp
        omega
theorem rg1_ok {l : List UInt8} {n k : Nat} (h : rg1 l = some (n, k)) : rU l false = (n, l.drop k, false) := by
  unfold rg1 at h
  split at h
  · rename_i n' k' e
    split at h
    · rename_i hu
      simp only [Option.some.injEq, Prod.mk.injEq] at h
      obtain ⟨rfl, rfl⟩ := h
      have hl := rg_lt e
      have := rU_enc hl.1 (l.drop k')
      rwa [hu, List.take_append_drop] at this
    · cases h
  · cases h
theorem rg1_of {l r : List UInt8} {n : Nat} (h : rU l false = (n, r, false)) : rg1 l = some (n, l.length - r.length) := by
  obtain ⟨_, rfl, hn⟩ := rU_inv h
  have h1 := rg_enc n 0 0 r (by have := uEnc_len10 hn; omega) (by simp; omega)
  simp only [Nat.mul_zero, Nat.pow_zero, Nat.mul_one, Nat.zero_add] at h1
  unfold rg1
  rw [h1]
  simp
theorem rg1_none {l : List UInt8} (h : rg1 l = none) : (rU l false).2.2 = true := by
  cases hb : (rU l false).2.2 with
  | true => rfl
  | false =>
    have := rg1_of (l := l) (r := (rU l false).2.1) (n := (rU l false).1) (Prod.ext rfl (Prod.ext rfl hb))
    rw [h] at this
    cases this
end Go.Proofs.Ytdgdiikijjlnnaa.M
