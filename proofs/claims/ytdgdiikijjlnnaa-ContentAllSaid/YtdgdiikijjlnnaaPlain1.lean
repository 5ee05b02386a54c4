/- Plain law: what is written of a right entry reads back. -/
import Derived.Test.YtdgdiikijjlnnaaDec1
import Derived.Test.YtdgdiikijjlnnaaNum2
namespace Go.Proofs.Ytdgdiikijjlnnaa
open Go.RowKit M
theorem rI_enc {m n : Nat} (h : n ≤ m) (hm : m < 18446744073709551616) (r : List UInt8) : rI m (uEnc n ++ r) false = (n, r, false) := by
  unfold rI
  rw [rU_enc (by omega)]
  simp [h]
theorem rI_byte {n : Nat} (h : n ≤ 15) (r : List UInt8) : rI 15 (UInt8.ofNat n :: r) false = (n, r, false) := by
  have := rI_enc (m := 15) h (by decide) r
  rwa [uEnc_small (by omega)] at this
theorem dV_enc {v : Vid} (hv : v.ok) (hf : v.form = true) (r : List UInt8) : dV (vEnc v ++ r) false = (v, true, r, false) := by
  obtain ⟨n, p⟩ := v
  obtain ⟨hn0, hn1, _, _⟩ := hv
  have hf' : 0 ≤ p ∧ p < 16 ∧ (0 < n ∨ p = 0) := by simpa [Vid.form] using hf
  obtain ⟨n, rfl⟩ := Int.eq_ofNat_of_zero_le hn0
  obtain ⟨p, rfl⟩ := Int.eq_ofNat_of_zero_le hf'.1
  dsimp only at hn1
  have h1 : rU (vEnc ⟨n, p⟩ ++ r) false = (n, UInt8.ofNat p :: r, false) := by
    have := rU_enc (n := n) (by omega) (UInt8.ofNat p :: r)
    simpa [vEnc] using this
  unfold dV
  rw [h1, rI_byte (by omega)]
  simp [hf]
theorem dL_enc {x : Lab} (hx : x.ok) (hf : x.form = true) (r : List UInt8) : dL (lEnc x ++ r) false = (x, true, r, false) := by
  obtain ⟨n, p, s, q⟩ := x
  obtain ⟨hn0, hn1, hp0, hp1, hs0, hs1, hq0, hq1⟩ := hx
  have hf' : (Lab.vid ⟨n, p, s, q⟩).form = true ∧ 0 < n ∧ 0 < s ∧ 0 ≤ q ∧ q < 16 := by simpa [Lab.form] using hf
  obtain ⟨hvf, _, _, hq2, hq3⟩ := hf'
  obtain ⟨s, rfl⟩ := Int.eq_ofNat_of_zero_le hs0
  obtain ⟨q, rfl⟩ := Int.eq_ofNat_of_zero_le hq2
  dsimp only at hn0 hn1 hp0 hp1 hs1
  have h1 : dV (lEnc ⟨n, p, s, q⟩ ++ r) false = (⟨n, p⟩, true, uEnc s ++ (UInt8.ofNat q :: r), false) := by
    have := dV_enc (v := ⟨n, p⟩) ⟨hn0, hn1, hp0, hp1⟩ hvf (uEnc s ++ (UInt8.ofNat q :: r))
    simpa [lEnc, Lab.vid] using this
  unfold dL
  rw [h1, rU_enc (by omega), rI_byte (by omega)]
  simp [hf]
theorem eD_enc {x : Ent} (hx : x.l.ok) (hf : x.form = true) (r : List UInt8) : eD (eEnc x ++ r) false = (x, true, r, false) := by
  have hf' : x.l.form = true ∧ x.m.length ≤ 64 := by simpa [Ent.form] using hf
  have h1 : dL (eEnc x ++ r) false = (x.l, true, uEnc x.m.length ++ (x.m ++ r), false) := by
    have := dL_enc hx hf'.1 (uEnc x.m.length ++ (x.m ++ r))
    simpa [eEnc] using this
  have h2 : rB 64 (uEnc x.m.length ++ (x.m ++ r)) false = (x.m, r, false) := by
    unfold rB
    rw [rI_enc (m := 64) hf'.2 (by decide)]
    simp
  unfold eD
  rw [h1, h2]
  simp
theorem d1_enc {x : Ent} (hx : x.l.ok) (hf : x.form = true) : d1 (eEnc x) = (x, true) := by
  have := eD_enc hx hf []
  rw [List.append_nil] at this
  unfold d1
  rw [this]
  simp
