/- The references (layers 2, 4, 5, 15): which things are right, and how they are written. -/
import Derived.Test.YtdgdiikijjlnnaaCon
namespace Go.Proofs.Ytdgdiikijjlnnaa
open Go.RowKit M
set_option maxHeartbeats 1000000 in
theorem ref04_Form (v : Vid) (hv : v.ok) (w : World) :
    Calls Try.prog 50 #[.agg #[.int .u64 v.n, .int .i64 v.p]] w fun e w' => e = .returned (.bool v.form) ∧ Below w.heap.size w w' := by
  obtain ⟨n, p⟩ := v
  have hn := hv.1
  dsimp only at hn ⊢
  go_enter Try.func50, Try.ntmps50
  by_cases h0 : n = 0
  · subst h0
    go_wp2
    go_ret
    refine ⟨ret_bool ?_, below_alloc1 _ _⟩
    rw [Bool.eq_iff_iff]
    simp [Vid.form]
    try omega
  · have hb : (n == 0) = false := by simp [h0]
    go_wp2
    all_goals
      go_ret
      refine ⟨ret_bool ?_, below_alloc1 _ _⟩
      rw [Bool.eq_iff_iff]
      simp [Vid.form]
      try omega
set_option maxHeartbeats 1000000 in
theorem ref05_Form (l : Lab) (hl : l.ok) (w : World) :
    Calls Try.prog 29 #[.agg #[.int .u64 l.n, .int .i64 l.p, .int .u64 l.s, .int .i64 l.q]] w fun e w' => e = .returned (.bool l.form) ∧ Below w.heap.size w w' := by
  obtain ⟨n, p, s, q⟩ := l
  have HV := Lib.hid (ref04_Form ⟨n, p⟩ ⟨hl.1, hl.2.1, hl.2.2.1, hl.2.2.2.1⟩)
  have hf : Lab.form ⟨n, p, s, q⟩ = decide (Vid.form ⟨n, p⟩ = true ∧ 0 < n ∧ 0 < s ∧ 0 ≤ q ∧ q < 16) := rfl
  have HF := Lib.hid hf
  dsimp only
  clear hf hl
  generalize Vid.form ⟨n, p⟩ = f at HV HF
  cases f
  all_goals
    go_enter Try.func29, Try.ntmps29
    go_wp2_with fail
    refine (HV.out _).mono ?_
    rintro e w1 ⟨rfl, hb⟩
    obtain ⟨c0, c1, c2, c3⟩ := cells4 (below_blk hb (heap_alloc_new w (.cells #[.int .u64 n, .int .i64 p, .int .u64 s, .int .i64 q] 26)))
    have HB := Lib.hid ((below_alloc1 w _).trans (hb.mono (by simp)))
    clear hb
    go_wp2
    all_goals
      go_ret
      rw [HF.out]
      refine ⟨ret_bool ?_, HB.out⟩
      rw [Bool.eq_iff_iff]
      simp
      try omega
set_option maxHeartbeats 1000000 in
theorem ref15_Form {A : Option Addr} {c : Nat} (x : Ent) (hx : x.l.ok) (w : World) :
    Calls Try.prog 9 #[.agg #[.int .u64 x.l.n, .int .i64 x.l.p, .int .u64 x.l.s, .int .i64 x.l.q, .slice A x.m.length c]] w fun e w' => e = .returned (.bool x.form) ∧ Below w.heap.size w w' := by
  have HV := Lib.hid (ref05_Form x.l hx)
  have HF := Lib.hid (Ent.form.eq_1 x)
  obtain ⟨l, m⟩ := x
  dsimp only at HV HF ⊢
  generalize l.form = f at HV HF
  generalize m.length = k at HF
  cases f
  all_goals
    go_enter Try.func9, Try.ntmps9
    go_wp2_with fail
    refine (HV.out _).mono ?_
    rintro e w1 ⟨rfl, hb⟩
    obtain ⟨c0, c1, c2, c3, c4⟩ := cells5 (below_blk hb (heap_alloc_new w (.cells #[.int .u64 l.n, .int .i64 l.p, .int .u64 l.s, .int .i64 l.q, .slice A k c] 29)))
    have HB := Lib.hid ((below_alloc1 w _).trans (hb.mono (by simp)))
    clear hb
    go_wp2
    all_goals
      go_ret
      rw [HF.out]
      refine ⟨ret_bool ?_, HB.out⟩
      rw [Bool.eq_iff_iff]
      simp
      try omega
set_option maxRecDepth 100000 in
set_option maxHeartbeats 2000000 in
theorem ref02_Uint {n : Nat} {w : World} (hn : n < 18446744073709551616) :
    Calls Try.prog 53 #[.int .u64 n] w fun e w' => ∃ v, e = .returned v ∧ OwnB w' w.heap.size v (uEnc n) ∧ Below w.heap.size w w' := by
  go_enter Try.func53, Try.ntmps53
  go_wp2
  go_loopw [0, 3] (fun x p W => ∃ (a : List UInt8) (m : Nat), x = .int .u64 m ∧ m < 18446744073709551616 ∧ OwnB W w.heap.size p a ∧ a ++ uEnc m = uEnc n ∧ Grew (.slice none 0 0) w p W ∧ w.heap.size ≤ W.heap.size) (fun x _ _ => (intOf x).toNat)
  case atStart => exact ⟨[], n, rfl, hn, Own.nil _ _ _ _ _, rfl, Grew.refl _ _, Nat.le_refl _⟩
  case round =>
    obtain ⟨a, m, rfl, hm, hown, hl2, hB, hbw⟩ := hrel
    have hlen : a.length + (uEnc m).length = (uEnc n).length := by rw [← List.length_append, hl2]
    have h10 := uEnc_len10 hn
    by_cases h : m < 128
    · have hE := uEnc_small h
      have HF := Lib.hid (show a ++ [UInt8.ofNat m] = uEnc n by rw [← hl2, hE])
      have hal : a.length ≤ 100000000000000 := by omega
      clear hl2 hE hlen h10
      have h' : ¬ 127 < m := by omega
      go_wp2_with (at_builtin; refine arm_byte rfl w.heap.size _ _ rfl _ rfl hown _ (UInt8.ofNat m) ?hz rfl hal hbw hB ?_; (case hz => rw [u8_nat (by omega)]); intro v' w' hown' hB' hbw')
      go_ret
      exact ⟨_, rfl, HF.out ▸ hown', hB'.of_nil⟩
    · have hE := uEnc_big h
      have HF := Lib.hid (show (a ++ [UInt8.ofNat (m % 128 + 128)]) ++ uEnc (m / 128) = uEnc n by rw [← hl2, hE]; simp)
      have hal : a.length ≤ 100000000000000 := by omega
      clear hl2 hE hlen h10
      go_wp2_with (at_builtin; refine arm_byte rfl w.heap.size _ _ rfl _ rfl hown _ (UInt8.ofNat (m % 128 + 128)) ?hz rfl hal hbw hB ?_; (case hz => rw [u8_nat (by omega)]; (try simp only [IntKind.wrap_u8]); omega); intro v' w' hown' hB' hbw')
      go_roundw
      case rel => exact ⟨_, m / 128, by go_num, by omega, hown', HF.out, hB', hbw'⟩
      case measure => simp [intOf]; omega
