/- Whole numbers as bytes: what is written, and that it reads back as it was, and as nothing else. No program in sight. -/
import Derived.Test.YtdgdiikijjlnnaaNum
namespace Go.Proofs.Ytdgdiikijjlnnaa.M
open Go.RowKit
/-- A number as bytes. -/
def uEnc (n : Nat) : List UInt8 := if n < 128 then [UInt8.ofNat n] else UInt8.ofNat (n % 128 + 128) :: uEnc (n / 128)
termination_by n
decreasing_by omega
theorem uEnc_small {n : Nat} (h : n < 128) : uEnc n = [UInt8.ofNat n] := by rw [uEnc, if_pos h]
theorem uEnc_big {n : Nat} (h : ¬ n < 128) : uEnc n = UInt8.ofNat (n % 128 + 128) :: uEnc (n / 128) := by rw [uEnc, if_neg h]
theorem u8_nat {n : Nat} (h : n < 256) : (UInt8.ofNat n).toNat = n := by simp [UInt8.toNat_ofNat']; omega
theorem uEnc_len (k : Nat) : ∀ n : Nat, n < 128 ^ k → 0 < k → (uEnc n).length ≤ k := by
  induction k with
  | zero => intro n _ h; omega
  | succ k ih =>
    intro n hn _
    by_cases h : n < 128
    · rw [uEnc_small h]; simp
    · rw [uEnc_big h]
      have hk : 0 < k := by
        rcases Nat.eq_zero_or_pos k with rfl | hk
        · simp at hn; omega
        · exact hk
      have := ih (n / 128) (by rw [Nat.pow_succ] at hn; exact Nat.div_lt_of_lt_mul (by omega)) hk
      simp
      omega
theorem uEnc_len10 {n : Nat} (h : n < 18446744073709551616) : (uEnc n).length ≤ 10 := uEnc_len 10 n (Nat.lt_of_lt_of_le h (by decide)) (by decide)
theorem uEnc_pos (n : Nat) : 0 < (uEnc n).length := by
  by_cases h : n < 128
  · rw [uEnc_small h]; simp
  · rw [uEnc_big h]; simp
theorem pow7 (i : Nat) : 2 ^ (7 * (i + 1)) = 128 * 2 ^ (7 * i) := by rw [Nat.mul_add, Nat.pow_add]; omega
theorem pow63 {i : Nat} (h : i ≤ 9) : 2 ^ (7 * i) ≤ 9223372036854775808 := by
  have := Nat.pow_le_pow_right (n := 2) (by omega) (show 7 * i ≤ 63 by omega)
  omega
/-- What was written reads back. -/
theorem uGo_enc (m : Nat) : ∀ (i acc : Nat) (r : List UInt8), i ≤ 9 → m * 2 ^ (7 * i) < 18446744073709551616 → (0 < i → 0 < m) → uGo i acc (uEnc m ++ r) = some (acc + m * 2 ^ (7 * i), r) := by
  induction m using Nat.strongRecOn with
  | ind m ih =>
    intro i acc r hi hlt h0
    by_cases h : m < 128
    · have hb : (UInt8.ofNat m).toNat = m := u8_nat (by omega)
      rw [uEnc_small h, List.singleton_append, uGo_last]
      · rw [hb, Nat.mod_eq_of_lt h]
      · rw [hb]
        rintro (⟨rfl, h1⟩ | ⟨h1, h2⟩)
        · have : 2 * 2 ^ (7 * 9) ≤ m * 2 ^ (7 * 9) := Nat.mul_le_mul_right _ (by omega)
          omega
        · have := h0 h1
          omega
      · rw [hb]; exact h
    · have hb : (UInt8.ofNat (m % 128 + 128)).toNat = m % 128 + 128 := u8_nat (by omega)
      have hi8 : i < 9 := by
        rcases Nat.lt_or_ge i 9 with h9 | h9
        · exact h9
        · have : i = 9 := by omega
          subst this
          have : 128 * 2 ^ (7 * 9) ≤ m * 2 ^ (7 * 9) := Nat.mul_le_mul_right _ (by omega)
          omega
      have hsplit : m * 2 ^ (7 * i) = m % 128 * 2 ^ (7 * i) + m / 128 * 2 ^ (7 * (i + 1)) := by
        rw [pow7, ← Nat.mul_assoc, ← Nat.add_mul]
        congr 1
        omega
      rw [uEnc_big h, List.cons_append, uGo_next (by rw [hb]; omega) (by rw [hb]; omega), ih (m / 128) (by omega) (i + 1) _ r (by omega) (by omega) (fun _ => by omega), hb]
      simp only [Option.some.injEq, Prod.mk.injEq, and_true]
      rw [show (m % 128 + 128) % 128 = m % 128 by omega]
      omega
/-- What reads as a number is what is written of it. -/
theorem uGo_inv (l : List UInt8) : ∀ (i acc N : Nat) (r : List UInt8), i ≤ 9 → uGo i acc l = some (N, r) → ∃ m, l = uEnc m ++ r ∧ N = acc + m * 2 ^ (7 * i) ∧ (0 < i → 0 < m) := by
  induction l with
  | nil => intro i acc N r _ h; simp [uGo] at h
  | cons b l ih =>
    intro i acc N r hi h
    have hbb := b.toNat_lt
    rw [uGo] at h
    split at h
    · cases h
    · rename_i hs
      split at h
      · rename_i hb
        simp only [Option.some.injEq, Prod.mk.injEq] at h
        refine ⟨b.toNat, ?_, ?_, fun h0 => by omega⟩
        · rw [uEnc_small hb, ← h.2]
          simp
        · rw [← h.1, Nat.mod_eq_of_lt hb]
      · rename_i hb
        have hi8 : i < 9 := by
          rcases Nat.lt_or_ge i 9 with h9 | h9
          · exact h9
          · exfalso
            omega
        obtain ⟨m, rfl, hN, hm⟩ := ih (i + 1) _ N r (by omega) h
        have hm0 := hm (by omega)
        refine ⟨m * 128 + b.toNat % 128, ?_, ?_, fun _ => by omega⟩
        · rw [uEnc_big (n := m * 128 + b.toNat % 128) (by omega), show (m * 128 + b.toNat % 128) / 128 = m by omega, show (m * 128 + b.toNat % 128) % 128 + 128 = b.toNat by omega]
          simp
        · rw [hN, pow7, Nat.add_mul, Nat.mul_assoc]
          omega
theorem rU_enc {n : Nat} (h : n < 18446744073709551616) (r : List UInt8) : rU (uEnc n ++ r) false = (n, r, false) := by
  have := uGo_enc n 0 0 r (by omega) (by simpa using h) (by omega)
  simp at this
  simp [rU, this]
theorem rU_inv {l r : List UInt8} {n : Nat} {bad : Bool} (h : rU l bad = (n, r, false)) : bad = false ∧ l = uEnc n ++ r ∧ n < 18446744073709551616 := by
  cases bad with
  | true => simp [rU] at h
  | false =>
    have hlt := rU_lt l false
    rw [h] at hlt
    refine ⟨rfl, ?_, hlt⟩
    unfold rU at h
    simp only [Bool.false_eq_true, if_false] at h
    split at h
    · rename_i n' r' hu
      simp only [Prod.mk.injEq, and_true] at h
      obtain ⟨m, hl, hN, _⟩ := uGo_inv l 0 0 n' r' (by omega) hu
      rw [hl, ← h.2, ← h.1, hN]
      simp
    · simp at h
/-- A byte, so many bits cut off. -/
theorem u8_or128 (n : Nat) : bits .or .u8 (IntKind.u8.wrap (n : Int)) 128 = ((n % 128 + 128 : Nat) : Int) := by
  rw [IntKind.wrap_u8, show ((n : Int) % 256) = ((n % 256 : Nat) : Int) by omega]
  have h := (bits_nat .u8 8 (by decide) wraps_u8 (n % 256) 128 (by omega) (by omega)).2
  have h2 : ∀ a : Nat, a < 256 → a ||| 128 = a % 128 + 128 := by decide +kernel
  have h3 := h2 (n % 256) (by omega)
  rw [show ((128 : Nat) : Int) = 128 from rfl] at h
  rw [h, h3, show n % 256 % 128 = n % 128 by omega]
theorem u8_or128m (n : Nat) : bits .or .u8 ((n : Int) % 256) 128 = ((n % 128 + 128 : Nat) : Int) := by
  rw [← IntKind.wrap_u8, u8_or128]
end Go.Proofs.Ytdgdiikijjlnnaa.M
