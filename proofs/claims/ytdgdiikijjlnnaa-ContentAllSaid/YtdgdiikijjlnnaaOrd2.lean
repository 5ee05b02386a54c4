/- The order of labels in the references. -/
import Derived.Test.YtdgdiikijjlnnaaOrd
namespace Go.Proofs.Ytdgdiikijjlnnaa
open Go.RowKit Go.Sort M
theorem vid_cf_cases (a b : Vid) : (a.cf b = -1 ∧ (a.n < b.n ∨ a.n = b.n ∧ a.p < b.p)) ∨ (a.cf b = 0 ∧ a = b) ∨ (a.cf b = 1 ∧ (b.n < a.n ∨ a.n = b.n ∧ b.p < a.p)) := by
  obtain ⟨n, p⟩ := a
  obtain ⟨n', p'⟩ := b
  simp only [Vid.cf, Vid.mk.injEq]
  rcases Int.lt_trichotomy n n' with h | rfl | h
  · simp [ci_lt h]; omega
  · rcases Int.lt_trichotomy p p' with h | rfl | h
    · simp [ci_lt h, ci_self]; omega
    · simp [ci_self]
    · simp [ci_gt h, ci_self]; omega
  · simp [ci_gt h]; omega
set_option maxHeartbeats 1000000 in
theorem ref04_Compare (a b : Vid) (w : World) : Calls Try.prog 86 #[.agg #[.int .u64 a.n, .int .i64 a.p], .agg #[.int .u64 b.n, .int .i64 b.p]] w fun e w' => e = .returned (.int .i64 (a.cf b)) ∧ Laid w w' := by
  have hv := fun W => vid_eql a b W
  have HC := Lib.hid (vid_cf_cases a b)
  generalize a.cf b = r at HC
  by_cases h1 : a.n < b.n
  · obtain ⟨n, p⟩ := a
    obtain ⟨n', p'⟩ := b
    dsimp only at *
    go_enter Try.func86, Try.ntmps86
    go_wp2
    go_ret
    refine ⟨ret_int ?_, ((Laid.refl w).alloc _).alloc _⟩
    have := HC.out
    simp at this
    omega
  by_cases h2 : a.n = b.n
  · obtain ⟨n, p⟩ := a
    obtain ⟨n', p'⟩ := b
    dsimp only at *
    subst h2
    by_cases h3 : p < p'
    · go_enter Try.func86, Try.ntmps86
      go_wp2
      go_ret
      refine ⟨ret_int ?_, ((Laid.refl w).alloc _).alloc _⟩
      have := HC.out
      simp at this
      omega
    by_cases h4 : p = p'
    · subst h4
      rw [decide_eq_true rfl] at hv
      go_enter Try.func86, Try.ntmps86
      go_wp2
      go_ret
      refine ⟨ret_int ?_, ((Laid.refl w).alloc _).alloc _⟩
      have := HC.out
      simp at this
      omega
    · rw [decide_eq_false (by simp; omega)] at hv
      go_enter Try.func86, Try.ntmps86
      go_wp2
      go_ret
      refine ⟨ret_int ?_, ((Laid.refl w).alloc _).alloc _⟩
      have := HC.out
      simp at this
      omega
  · rw [decide_eq_false (by rintro rfl; exact h2 rfl)] at hv
    obtain ⟨n, p⟩ := a
    obtain ⟨n', p'⟩ := b
    dsimp only at *
    have hb : (n == n') = false := by simp [h2]
    go_enter Try.func86, Try.ntmps86
    go_wp2
    go_ret
    refine ⟨ret_int ?_, ((Laid.refl w).alloc _).alloc _⟩
    have := HC.out
    simp at this
    omega
set_option maxHeartbeats 2000000 in
theorem ref05_Less (a b : Lab) (w : World) : Calls Try.prog 76 #[.agg #[.int .u64 a.n, .int .i64 a.p, .int .u64 a.s, .int .i64 a.q], .agg #[.int .u64 b.n, .int .i64 b.p, .int .u64 b.s, .int .i64 b.q]] w fun e w' => e = .returned (.bool (a.lt b)) ∧ Laid w w' := by
  obtain ⟨n, p, s, q⟩ := a
  obtain ⟨n', p', s', q'⟩ := b
  have HV := Lib.hid (fun W => ref04_Compare ⟨n, p⟩ ⟨n', p'⟩ W)
  have HE := Lib.hid (show Lab.lt ⟨n, p, s, q⟩ ⟨n', p', s', q'⟩ = decide (n < n' ∨ (n = n' ∧ (p < p' ∨ (p = p' ∧ (s < s' ∨ (s = s' ∧ q < q')))))) from rfl)
  have HL0 := Lib.hid (((Laid.refl w).alloc (.cells #[.int .u64 n, .int .i64 p, .int .u64 s, .int .i64 q] 26)).alloc (.cells #[.int .u64 n', .int .i64 p', .int .u64 s', .int .i64 q'] 26))
  have hm := alloc_blk (heap_alloc_new w (.cells #[.int .u64 n, .int .i64 p, .int .u64 s, .int .i64 q] 26)) (.cells #[.int .u64 n', .int .i64 p', .int .u64 s', .int .i64 q'] 26)
  have hn := heap_alloc_new (w.alloc (.cells #[.int .u64 n, .int .i64 p, .int .u64 s, .int .i64 q] 26)) (.cells #[.int .u64 n', .int .i64 p', .int .u64 s', .int .i64 q'] 26)
  rw [World.size_alloc] at hn
  have HM := Lib.hid hm
  have HN := Lib.hid hn
  clear hm hn
  rcases vid_cf_cases ⟨n, p⟩ ⟨n', p'⟩ with ⟨hc, hl⟩ | ⟨hc, hl⟩ | ⟨hc, hl⟩
  · rw [hc] at HV
    have HH := Lib.hid hl
    clear hc hl
    dsimp only at *
    go_enter Try.func76, Try.ntmps76
    go_wp2_with fail
    refine (HV.out _).mono ?_
    rintro e w1 ⟨rfl, hl1⟩
    go_wp2
    go_ret
    refine ⟨ret_bool ?_, HL0.out.trans hl1⟩
    have := HH.out
    rw [HE.out]
    simp at this ⊢
    omega
  · rw [hc] at HV
    simp only [Vid.mk.injEq] at hl
    obtain ⟨rfl, rfl⟩ := hl
    clear hc
    dsimp only at *
    go_enter Try.func76, Try.ntmps76
    go_wp2_with fail
    refine (HV.out _).mono ?_
    rintro e w1 ⟨rfl, hl1⟩
    obtain ⟨m0, m1, m2, m3⟩ := cells4 (below_blk hl1.below HM.out)
    obtain ⟨n0, n1, n2, n3⟩ := cells4 (below_blk hl1.below HN.out)
    have HL1 := Lib.hid (HL0.out.trans hl1)
    clear hl1
    by_cases h1 : s < s'
    · go_wp2
      go_ret
      refine ⟨ret_bool ?_, HL1.out⟩
      rw [HE.out]
      simp
      omega
    by_cases h2 : s = s'
    · subst h2
      go_wp2
      all_goals
        go_ret
        refine ⟨ret_bool ?_, HL1.out⟩
        rw [HE.out]
        simp
    · have hb : (s == s') = false := by simp [h2]
      go_wp2
      go_ret
      refine ⟨ret_bool ?_, HL1.out⟩
      rw [HE.out]
      simp
      omega
  · rw [hc] at HV
    have HH := Lib.hid hl
    clear hc hl
    dsimp only at *
    go_enter Try.func76, Try.ntmps76
    go_wp2_with fail
    refine (HV.out _).mono ?_
    rintro e w1 ⟨rfl, hl1⟩
    go_wp2
    go_ret
    refine ⟨ret_bool ?_, HL0.out.trans hl1⟩
    have := HH.out
    rw [HE.out]
    simp at this ⊢
    omega
end Go.Proofs.Ytdgdiikijjlnnaa
