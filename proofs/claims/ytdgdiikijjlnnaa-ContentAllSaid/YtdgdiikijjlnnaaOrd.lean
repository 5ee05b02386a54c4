/- The order of views' numbers and labels (packages cmp, ident, label; the references). -/
import Derived.Test.YtdgdiikijjlnnaaRefC
import Derived.Test.YtdgdiikijjlnnaaRefD
import Derived.Lib.QuietBelow
import Derived.Deep.RegionHeld3
namespace Go.Proofs.Ytdgdiikijjlnnaa
open Go.RowKit Go.Sort M
namespace M
/-- How two whole numbers stand. -/
def ci (x y : Int) : Int := if x < y then -1 else if y < x then 1 else 0
def Vid.cf (a b : Vid) : Int := if ci a.n b.n = 0 then ci a.p b.p else ci a.n b.n
/-- The first of three that is not 0. -/
def or3 (a b c : Int) : Int := if a = 0 then (if b = 0 then c else b) else a
def Lab.cf (a b : Lab) : Int := or3 (a.vid.cf b.vid) (ci a.s b.s) (ci a.q b.q)
/-- The first label is less. -/
def Lab.lt (a b : Lab) : Bool := decide (a.n < b.n ∨ (a.n = b.n ∧ (a.p < b.p ∨ (a.p = b.p ∧ (a.s < b.s ∨ (a.s = b.s ∧ a.q < b.q))))))
theorem ci_lt {x y : Int} (h : x < y) : ci x y = -1 := by rw [ci, if_pos h]
theorem ci_self (x : Int) : ci x x = 0 := by rw [ci, if_neg (by omega), if_neg (by omega)]
theorem ci_gt {x y : Int} (h : y < x) : ci x y = 1 := by rw [ci, if_neg (by omega), if_pos h]
theorem Lab.cf_lt (a b : Lab) : a.cf b < 0 ↔ a.lt b = true := by
  obtain ⟨n, p, s, q⟩ := a
  obtain ⟨n', p', s', q'⟩ := b
  simp only [Lab.cf, or3, Vid.cf, Lab.vid, Lab.lt, decide_eq_true_eq]
  rcases Int.lt_trichotomy n n' with h | rfl | h
  · simp [ci_lt h]; omega
  · rcases Int.lt_trichotomy p p' with h | rfl | h
    · simp [ci_lt h, ci_self]; omega
    · rcases Int.lt_trichotomy s s' with h | rfl | h
      · simp [ci_lt h, ci_self]; omega
      · rcases Int.lt_trichotomy q q' with h | rfl | h
        · simp [ci_lt h, ci_self]; omega
        · simp [ci_self]
        · simp [ci_gt h, ci_self]; omega
      · simp [ci_gt h, ci_self]; omega
    · simp [ci_gt h, ci_self]; omega
  · simp [ci_gt h]; omega
theorem Lab.cf_eq (a b : Lab) : a.cf b = 0 ↔ a = b := by
  obtain ⟨n, p, s, q⟩ := a
  obtain ⟨n', p', s', q'⟩ := b
  simp only [Lab.cf, or3, Vid.cf, Lab.vid, Lab.mk.injEq]
  rcases Int.lt_trichotomy n n' with h | rfl | h
  · simp [ci_lt h]; omega
  · rcases Int.lt_trichotomy p p' with h | rfl | h
    · simp [ci_lt h, ci_self]; omega
    · rcases Int.lt_trichotomy s s' with h | rfl | h
      · simp [ci_lt h, ci_self]; omega
      · rcases Int.lt_trichotomy q q' with h | rfl | h
        · simp [ci_lt h, ci_self]; omega
        · simp [ci_self]
        · simp [ci_gt h, ci_self]; omega
      · simp [ci_gt h, ci_self]; omega
    · simp [ci_gt h, ci_self]; omega
  · simp [ci_gt h]; omega
theorem Lab.lt_irrefl (a : Lab) : a.lt a = false := by simp [Lab.lt]
theorem Lab.lt_trans {a b c : Lab} (h : a.lt b = true) (k : b.lt c = true) : a.lt c = true := by
  simp only [Lab.lt, decide_eq_true_eq] at *
  omega
theorem Lab.lt_tri (a b : Lab) : a.lt b = true ∨ a = b ∨ b.lt a = true := by
  obtain ⟨n, p, s, q⟩ := a
  obtain ⟨n', p', s', q'⟩ := b
  simp only [Lab.lt, decide_eq_true_eq, Lab.mk.injEq]
  omega
theorem Lab.lt_asymm {a b : Lab} (h : a.lt b = true) : b.lt a = false := by
  rw [Bool.eq_false_iff]
  intro k
  have := Lab.lt_trans h k
  rw [Lab.lt_irrefl] at this
  cases this
/-- New blocks and draws, no more. -/
def Laid (w w' : World) : Prop := ∃ q os, w' = grow (w.drewN q) os
end M
theorem M.Laid.refl (w : World) : Laid w w := ⟨0, #[], by rw [World.drewN_zero]; simp [grow]⟩
theorem M.Laid.trans {w w1 w2 : World} (h : Laid w w1) (k : Laid w1 w2) : Laid w w2 := by
  obtain ⟨q, os, rfl⟩ := h
  obtain ⟨q', os', rfl⟩ := k
  refine ⟨q + q', os ++ os', ?_⟩
  simp [grow, World.drewN, Array.append_assoc, Nat.add_assoc]
theorem M.Laid.alloc {w w1 : World} (h : Laid w w1) (o : Obj) : Laid w (w1.alloc o) := h.trans ⟨0, #[o], by rw [alloc_eq_grow]; rfl⟩
theorem M.Laid.drew {w w1 : World} (h : Laid w w1) : Laid w w1.drew := h.trans ⟨1, #[], by simp only [grow, Array.append_empty]; rfl⟩
theorem M.Laid.below {w w1 : World} (h : Laid w w1) : Below w.heap.size w w1 := by
  obtain ⟨q, os, rfl⟩ := h
  refine ⟨rfl, rfl, rfl, by simp [grow, World.drewN], fun k hk => ?_⟩
  simp [grow, World.drewN, Array.getElem?_append, hk]
theorem isNaN_u64 (x : Int) (w : World) : Calls Try.prog 80 #[.int .u64 x] w fun e w' => e = .returned (.bool false) ∧ w = w' := by
  have h : (x != x) = false := by simp
  go_enter Try.func80, Try.ntmps80
  go_wp2
  go_ret
  exact ⟨rfl, rfl⟩
theorem isNaN_int (x : Int) (w : World) : Calls Try.prog 81 #[.int .i64 x] w fun e w' => e = .returned (.bool false) ∧ w = w' := by
  have h : (x != x) = false := by simp
  go_enter Try.func81, Try.ntmps81
  go_wp2
  go_ret
  exact ⟨rfl, rfl⟩
set_option maxHeartbeats 1000000 in
theorem cmp_u64 (x y : Int) (w : World) : Calls Try.prog 72 #[.int .u64 x, .int .u64 y] w fun e w' => e = .returned (.int .i64 (ci x y)) ∧ w = w' := by
  have HE := Lib.hid (ci.eq_1 x y)
  by_cases h1 : x < y
  · go_enter Try.func72, Try.ntmps72
    go_wp2_with (go_at_call 80; refine (isNaN_u64 _ _).mono ?_; rintro e w' ⟨rfl, rfl⟩)
    go_ret
    rw [HE.out, if_pos h1]
    exact ⟨rfl, rfl⟩
  by_cases h2 : y < x
  · go_enter Try.func72, Try.ntmps72
    go_wp2_with (go_at_call 80; refine (isNaN_u64 _ _).mono ?_; rintro e w' ⟨rfl, rfl⟩)
    go_ret
    rw [HE.out, if_neg (by omega), if_pos h2]
    exact ⟨rfl, rfl⟩
  · go_enter Try.func72, Try.ntmps72
    go_wp2_with (go_at_call 80; refine (isNaN_u64 _ _).mono ?_; rintro e w' ⟨rfl, rfl⟩)
    go_ret
    rw [HE.out, if_neg (by omega), if_neg (by omega)]
    exact ⟨rfl, rfl⟩
set_option maxHeartbeats 1000000 in
theorem cmp_int (x y : Int) (w : World) : Calls Try.prog 73 #[.int .i64 x, .int .i64 y] w fun e w' => e = .returned (.int .i64 (ci x y)) ∧ w = w' := by
  have HE := Lib.hid (ci.eq_1 x y)
  by_cases h1 : x < y
  · go_enter Try.func73, Try.ntmps73
    go_wp2_with (go_at_call 81; refine (isNaN_int _ _).mono ?_; rintro e w' ⟨rfl, rfl⟩)
    go_ret
    rw [HE.out, if_pos h1]
    exact ⟨rfl, rfl⟩
  by_cases h2 : y < x
  · go_enter Try.func73, Try.ntmps73
    go_wp2_with (go_at_call 81; refine (isNaN_int _ _).mono ?_; rintro e w' ⟨rfl, rfl⟩)
    go_ret
    rw [HE.out, if_neg (by omega), if_pos h2]
    exact ⟨rfl, rfl⟩
  · go_enter Try.func73, Try.ntmps73
    go_wp2_with (go_at_call 81; refine (isNaN_int _ _).mono ?_; rintro e w' ⟨rfl, rfl⟩)
    go_ret
    rw [HE.out, if_neg (by omega), if_neg (by omega)]
    exact ⟨rfl, rfl⟩
theorem ci_range (x y : Int) : -1 ≤ ci x y ∧ ci x y ≤ 1 := by
  unfold ci
  split
  · omega
  · split <;> omega
set_option maxHeartbeats 1000000 in
theorem ident_Compare (a b : Vid) (w : World) : Calls Try.prog 71 #[.agg #[.int .u64 a.n, .int .i64 a.p], .agg #[.int .u64 b.n, .int .i64 b.p]] w fun e w' => e = .returned (.int .i64 (a.cf b)) ∧ Laid w w' := by
  obtain ⟨n, p⟩ := a
  obtain ⟨n', p'⟩ := b
  have HE := Lib.hid (show Vid.cf ⟨n, p⟩ ⟨n', p'⟩ = if ci n n' = 0 then ci p p' else ci n n' from rfl)
  have H1 := Lib.hid (fun W => cmp_u64 n n' W)
  have H2 := Lib.hid (fun W => cmp_int p p' W)
  generalize ci n n' = c1 at *
  generalize ci p p' = c2 at *
  dsimp only
  by_cases h : c1 = 0
  · subst h
    go_enter Try.func71, Try.ntmps71
    go_wp2_with fail
    refine (H1.out _).mono ?_
    rintro e w1 ⟨rfl, rfl⟩
    go_wp2_with fail
    refine (H2.out _).mono ?_
    rintro e w2 ⟨rfl, rfl⟩
    go_wp2
    go_ret
    rw [HE.out]
    exact ⟨rfl, ((Laid.refl w).alloc _).alloc _⟩
  · have hb : (c1 != 0) = true := by simp [h]
    go_enter Try.func71, Try.ntmps71
    go_wp2_with fail
    refine (H1.out _).mono ?_
    rintro e w1 ⟨rfl, rfl⟩
    go_wp2
    go_ret
    rw [HE.out, if_neg h]
    exact ⟨rfl, ((Laid.refl w).alloc _).alloc _⟩
set_option maxHeartbeats 1000000 in
/-- cmp.Or of three numbers that have just been laid side by side. -/
theorem cmp_Or3 {a b c : Int} {g : Nat} {w : World} (h : w.heap[g]? = some (.cells #[.int .i64 a, .int .i64 b, .int .i64 c] 3 (0, 0))) :
    Calls Try.prog 70 #[.slice (some ⟨g, 0, none⟩) 3 3] w fun e w' => e = .returned (.int .i64 (or3 a b c)) ∧ w = w' := by
  have HE := Lib.hid (or3.eq_1 a b c)
  obtain ⟨c0, c1, c2⟩ : w.cell? ⟨g, 0, none⟩ = some (.int .i64 a) ∧ w.cell? ⟨g, 1, none⟩ = some (.int .i64 b) ∧ w.cell? ⟨g, 2, none⟩ = some (.int .i64 c) := ⟨blk_cell h 0, blk_cell h 1, blk_cell h 2⟩
  clear h
  go_enter Try.func70, Try.ntmps70
  go_wp2
  go_loop [8] (fun i => i = .int .i64 0 ∨ (i = .int .i64 1 ∧ a = 0) ∨ (i = .int .i64 2 ∧ a = 0 ∧ b = 0) ∨ (i = .int .i64 3 ∧ a = 0 ∧ b = 0 ∧ c = 0)) (fun i => 3 - (intOf i).toNat)
  case atStart => exact .inl rfl
  case round =>
    rcases hrel with rfl | ⟨rfl, ha⟩ | ⟨rfl, ha, hb⟩ | ⟨rfl, ha, hb, hc⟩
    · by_cases ha : a = 0
      · have hz : (a != 0) = false := by simp [ha]
        have HA := Lib.hid ha
        clear ha
        go_wp2
        go_round
        case rel => exact .inr (.inl ⟨rfl, HA.out⟩)
        case measure => simp [intOf]
      · have hz : (a != 0) = true := by simp [ha]
        go_wp2
        go_ret
        rw [HE.out, if_neg ha]
        exact ⟨rfl, rfl⟩
    · have HA := Lib.hid ha
      clear ha
      by_cases hb : b = 0
      · have hz : (b != 0) = false := by simp [hb]
        have HB := Lib.hid hb
        clear hb
        go_wp2
        go_round
        case rel => exact .inr (.inr (.inl ⟨rfl, HA.out, HB.out⟩))
        case measure => simp [intOf]
      · have hz : (b != 0) = true := by simp [hb]
        go_wp2
        go_ret
        rw [HE.out, if_pos HA.out, if_neg hb]
        exact ⟨rfl, rfl⟩
    · have HA := Lib.hid ha
      have HB := Lib.hid hb
      clear ha hb
      by_cases hc : c = 0
      · have hz : (c != 0) = false := by simp [hc]
        have HC := Lib.hid hc
        clear hc
        go_wp2
        go_round
        case rel => exact .inr (.inr (.inr ⟨rfl, HA.out, HB.out, HC.out⟩))
        case measure => simp [intOf]
      · have hz : (c != 0) = true := by simp [hc]
        go_wp2
        go_ret
        rw [HE.out, if_pos HA.out, if_pos HB.out]
        exact ⟨rfl, rfl⟩
    · have HA := Lib.hid ha
      have HB := Lib.hid hb
      have HC := Lib.hid hc
      clear ha hb hc
      go_wp2
      go_ret
      rw [HE.out, if_pos HA.out, if_pos HB.out, HC.out]
      exact ⟨rfl, rfl⟩
set_option maxHeartbeats 2000000 in
theorem label_Compare (a b : Lab) (w : World) : Calls Try.prog 44 #[.agg #[.int .u64 a.n, .int .i64 a.p, .int .u64 a.s, .int .i64 a.q], .agg #[.int .u64 b.n, .int .i64 b.p, .int .u64 b.s, .int .i64 b.q]] w fun e w' => e = .returned (.int .i64 (a.cf b)) ∧ Laid w w' := by
  obtain ⟨n, p, s, q⟩ := a
  obtain ⟨n', p', s', q'⟩ := b
  have HE := Lib.hid (show Lab.cf ⟨n, p, s, q⟩ ⟨n', p', s', q'⟩ = or3 (Vid.cf ⟨n, p⟩ ⟨n', p'⟩) (ci s s') (ci q q') from rfl)
  have H0 := Lib.hid (fun W => ident_Compare ⟨n, p⟩ ⟨n', p'⟩ W)
  have H1 := Lib.hid (fun W => cmp_u64 s s' W)
  have H2 := Lib.hid (fun W => cmp_int q q' W)
  generalize Vid.cf ⟨n, p⟩ ⟨n', p'⟩ = c0 at *
  generalize ci s s' = c1 at *
  generalize ci q q' = c2 at *
  dsimp only at *
  go_enter Try.func44, Try.ntmps44
  go_wp2_with fail
  have HL := Lib.hid (((Laid.refl w).alloc (.cells #[.int .u64 n, .int .i64 p, .int .u64 s, .int .i64 q] 26)).alloc (.cells #[.int .u64 n', .int .i64 p', .int .u64 s', .int .i64 q'] 26))
  have hm := alloc_blk (heap_alloc_new w (.cells #[.int .u64 n, .int .i64 p, .int .u64 s, .int .i64 q] 26)) (.cells #[.int .u64 n', .int .i64 p', .int .u64 s', .int .i64 q'] 26)
  have hn := heap_alloc_new (w.alloc (.cells #[.int .u64 n, .int .i64 p, .int .u64 s, .int .i64 q] 26)) (.cells #[.int .u64 n', .int .i64 p', .int .u64 s', .int .i64 q'] 26)
  rw [World.size_alloc] at hn
  generalize ((w.alloc (.cells #[.int .u64 n, .int .i64 p, .int .u64 s, .int .i64 q] 26)).alloc (.cells #[.int .u64 n', .int .i64 p', .int .u64 s', .int .i64 q'] 26)) = V at HL hm hn ⊢
  have HK : Hid (∀ W, Below V.heap.size V W → (W.cell? ⟨w.heap.size, 0, none⟩ = some (.int .u64 n) ∧ W.cell? ⟨w.heap.size, 1, none⟩ = some (.int .i64 p) ∧ W.cell? ⟨w.heap.size, 2, none⟩ = some (.int .u64 s) ∧ W.cell? ⟨w.heap.size, 3, none⟩ = some (.int .i64 q) ∧
      W.cell? ⟨w.heap.size + 1, 0, none⟩ = some (.int .u64 n') ∧ W.cell? ⟨w.heap.size + 1, 1, none⟩ = some (.int .i64 p') ∧ W.cell? ⟨w.heap.size + 1, 2, none⟩ = some (.int .u64 s') ∧ W.cell? ⟨w.heap.size + 1, 3, none⟩ = some (.int .i64 q'))) := Lib.hid (fun W hb => by
    obtain ⟨d0, d1, d2, d3⟩ := cells4 (below_blk hb hm)
    obtain ⟨e0, e1, e2, e3⟩ := cells4 (below_blk hb hn)
    exact ⟨d0, d1, d2, d3, e0, e1, e2, e3⟩)
  clear hm hn
  go_region_held (fun W => W.cell? ⟨w.heap.size, 0, none⟩ = some (.int .u64 n) ∧ W.cell? ⟨w.heap.size, 1, none⟩ = some (.int .i64 p) ∧ W.cell? ⟨w.heap.size, 2, none⟩ = some (.int .u64 s) ∧ W.cell? ⟨w.heap.size, 3, none⟩ = some (.int .i64 q) ∧
      W.cell? ⟨w.heap.size + 1, 0, none⟩ = some (.int .u64 n') ∧ W.cell? ⟨w.heap.size + 1, 1, none⟩ = some (.int .i64 p') ∧ W.cell? ⟨w.heap.size + 1, 2, none⟩ = some (.int .u64 s') ∧ W.cell? ⟨w.heap.size + 1, 3, none⟩ = some (.int .i64 q'))
    (first
      | exact HK.out _ (Below.refl _ _).drew
      | exact HK.out _ (Below.refl _ _)
      | exact HK.out _ (Below.trans (Below.refl _ _).drew hl1.below)
      | exact HK.out _ (Below.trans (Below.refl _ _).drew (hl1.below.alloc hl1.below.size _)))
    (first
      | (go_simp
         go_at_call 71
         refine (H0.out _).mono ?_
         rintro e w1 ⟨rfl, hl1⟩)
      | (go_simp
         go_at_call 72
         refine (H1.out _).mono ?_
         rintro e w2 ⟨rfl, rfl⟩)
      | (go_simp
         go_at_call 73
         refine (H2.out _).mono ?_
         rintro e w3 ⟨rfl, rfl⟩)
      | (go_simp
         go_at_call 70
         refine (cmp_Or3 (heap_alloc_new _ _)).mono ?_
         rintro e w4 ⟨rfl, rfl⟩))
  all_goals go_wp2
  all_goals
    go_ret
    rw [HE.out]
    exact ⟨rfl, (HL.out.drew.trans hl1).alloc _⟩
end Go.Proofs.Ytdgdiikijjlnnaa
