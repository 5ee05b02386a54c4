/- The references: is a label in a row; do entries rise. -/
import Derived.Test.YtdgdiikijjlnnaaOrd2
namespace Go.Proofs.Ytdgdiikijjlnnaa
open Go.RowKit Go.Sort M
theorem M.Quiet.laid {w w1 : World} (h : Quiet w w1) : Laid w w1 := let ⟨n, e⟩ := h; ⟨n, #[], by rw [e, grow_empty]⟩
theorem not_in_next {α : Type} {xs : List α} {i : Nat} {x y : α} (hx : xs[i]? = some y) (h : x ∉ xs.take i) (he : y ≠ x) : x ∉ xs.take (i + 1) := by
  rw [List.take_add_one, hx]
  simp
  exact ⟨h, fun e => he e.symm⟩
set_option maxRecDepth 100000 in
set_option maxHeartbeats 2000000 in
theorem ref05_In {I : Nat → Prop} {A : Option Addr} {c : Nat} {xs : List Lab} {w : World} (h : Row kLab I w A xs) (x : Lab) :
    Calls Try.prog 24 #[.slice A xs.length c, .agg #[.int .u64 x.n, .int .i64 x.p, .int .u64 x.s, .int .i64 x.q]] w fun e w' => e = .returned (.bool (decide (x ∈ xs))) ∧ Laid w w' := by
  have HL := Lib.hid ((Laid.refl w).alloc (.cells #[.int .u64 x.n, .int .i64 x.p, .int .u64 x.s, .int .i64 x.q] 26))
  have HM := Lib.hid (heap_alloc_new w (.cells #[.int .u64 x.n, .int .i64 x.p, .int .u64 x.s, .int .i64 x.q] 26))
  have hlx := h.1
  have HX := Lib.hid (h.below HL.out.below)
  have HD := Lib.hid (fun hh : x ∈ xs => decide_eq_true hh)
  have HD' := Lib.hid (fun hh : ¬ x ∈ xs => decide_eq_false hh)
  generalize decide (x ∈ xs) = r at HD HD'
  clear h
  go_enter Try.func24, Try.ntmps24
  go_wp2
  generalize w.alloc (.cells #[.int .u64 x.n, .int .i64 x.p, .int .u64 x.s, .int .i64 x.q] 26) = V at HL HM HX ⊢
  go_loopw [5] (fun k W => ∃ i : Nat, k = .int .i64 i ∧ i ≤ xs.length ∧ x ∉ xs.take i ∧ Quiet V W) (fun k _ => (xs.length - intOf k).toNat)
  case atStart => exact ⟨0, rfl, by omega, by simp, Quiet.refl _⟩
  case round =>
    obtain ⟨i, rfl, hi, hni, hq⟩ := hrel
    obtain ⟨b0, b1, b2, b3⟩ := cells4 (below_blk hq.below HM.out)
    have HN := Lib.hid hni
    have HQ := Lib.hid hq
    clear hni
    by_cases hlt : i < xs.length
    · obtain ⟨b, o, rfl, _, hcx⟩ := Row.lab HX.out (by rintro rfl; simp at hlt)
      have ex := List.getElem?_eq_getElem hlt
      generalize xs[i] = y at ex
      obtain ⟨_, x0, x1, x2, x3⟩ := hcx i y ex
      have x0 := pw_cell hq.below x0
      have x1 := pw_cell hq.below x1
      have x2 := pw_cell hq.below x2
      have x3 := pw_cell hq.below x3
      have hne := fun W => lab_eql y x W
      have EX := Lib.hid ex
      clear hcx hq ex
      by_cases he : y = x
      · rw [decide_eq_true he] at hne
        have HE := Lib.hid he
        clear he
        go_wp2_with fail
        go_quiet (fail)
        go_wp2
        go_ret
        refine ⟨ret_bool ?_, HL.out.trans (HQ.out.drewN _).laid⟩
        rw [HD.out (HE.out ▸ List.mem_of_getElem? EX.out)]
      · rw [decide_eq_false he] at hne
        have HE := Lib.hid he
        clear he
        go_wp2_with fail
        go_quiet (fail)
        go_wp2
        go_roundw
        case rel => exact ⟨i + 1, by go_num, by omega, not_in_next EX.out HN.out HE.out, HQ.out.drewN _⟩
        case measure => simp [intOf]; omega
    · have hlt' : ¬ (i : Int) < xs.length := by omega
      clear hq
      go_wp2
      go_ret
      refine ⟨ret_bool ?_, HL.out.trans HQ.out.laid⟩
      have := HN.out
      rw [List.take_of_length_le (by omega)] at this
      rw [HD'.out this]
namespace M
/-- Entries rise by their labels. -/
def Ris (l : List Ent) : Prop := ∀ i x y, l[i]? = some x → l[i + 1]? = some y → x.l.lt y.l = true
def RisTo (l : List Ent) (k : Nat) : Prop := ∀ i x y, i < k → l[i]? = some x → l[i + 1]? = some y → x.l.lt y.l = true
theorem RisTo.zero (l : List Ent) : RisTo l 0 := fun i _ _ h => by omega
theorem RisTo.next {l : List Ent} {k : Nat} {x y : Ent} (h : RisTo l k) (hx : l[k]? = some x) (hy : l[k + 1]? = some y) (hl : x.l.lt y.l = true) : RisTo l (k + 1) := by
  intro i x' y' hi h1 h2
  by_cases e : i = k
  · subst e
    rw [hx] at h1
    rw [hy] at h2
    injection h1 with h1
    injection h2 with h2
    rw [← h1, ← h2]
    exact hl
  · exact h i x' y' (by omega) h1 h2
theorem RisTo.ris {l : List Ent} {k : Nat} (h : RisTo l k) (hk : l.length ≤ k + 1) : Ris l := fun i x y h1 h2 => h i x y (by have := (List.getElem?_eq_some_iff.1 h2).1; omega) h1 h2
theorem Ris.not {l : List Ent} {k : Nat} {x y : Ent} (hx : l[k]? = some x) (hy : l[k + 1]? = some y) (hl : x.l.lt y.l = false) : ¬ Ris l := fun h => by have := h k x y hx hy; rw [hl] at this; cases this
end M
theorem regrown_below {w w1 : World} (h : Below w.heap.size w w1) (d : Nat) (os : Array Obj) : Below w.heap.size w (grow (redrawn w1 d) os) := h.trans ((below_regrown w1 d os).mono h.size)
set_option maxRecDepth 100000 in
set_option maxHeartbeats 4000000 in
theorem ref15_Rising {I : Nat → Prop} {A : Option Addr} {c : Nat} {xs : List Ent} {w : World} (h : Row kEnt I w A xs) (r : Bool) (hr : r = true ↔ Ris xs) :
    Calls Try.prog 49 #[.slice A xs.length c] w fun e w' => e = .returned (.bool r) ∧ Below w.heap.size w w' := by
  have HX := Lib.hid h
  have hlx := h.1
  have HR := Lib.hid hr
  clear h hr
  go_enter Try.func49, Try.ntmps49
  go_wp2
  go_loopw [3] (fun k W => ∃ i : Nat, k = .int .i64 ((i : Int) + 1) ∧ i ≤ xs.length ∧ RisTo xs i ∧ Below w.heap.size w W) (fun k _ => (xs.length - intOf k).toNat)
  case atStart => exact ⟨0, rfl, by omega, RisTo.zero _, Below.refl _ _⟩
  case round =>
    obtain ⟨i, rfl, hi, hni, hb⟩ := hrel
    have HN := Lib.hid hni
    have HB := Lib.hid hb
    clear hni
    by_cases hlt : i + 1 < xs.length
    · have hlt2 : (i : Int) + 1 < xs.length := by omega
      obtain ⟨b, o, rfl, _, hcx⟩ := Row.ent HX.out (by rintro rfl; simp at hlt)
      have ex := List.getElem?_eq_getElem (l := xs) (i := i) (by omega)
      generalize xs[i] = x at ex
      have ey := List.getElem?_eq_getElem hlt
      generalize xs[i + 1] = y at ey
      obtain ⟨_, _, _, x0, x1, x2, x3, _⟩ := hcx i x ex
      obtain ⟨_, _, _, y0, y1, y2, y3, _⟩ := hcx (i + 1) y ey
      have x0 := fun d os => cell_regrown (pw_cell hb x0) d os
      have x1 := fun d os => cell_regrown (pw_cell hb x1) d os
      have x2 := fun d os => cell_regrown (pw_cell hb x2) d os
      have x3 := fun d os => cell_regrown (pw_cell hb x3) d os
      have y0 := fun d os => cell_regrown (pw_cell hb y0) d os
      have y1 := fun d os => cell_regrown (pw_cell hb y1) d os
      have y2 := fun d os => cell_regrown (pw_cell hb y2) d os
      have y3 := fun d os => cell_regrown (pw_cell hb y3) d os
      have HF := Lib.hid (fun d os => Calls.regrown_of ((ref05_Less x.l y.l (grow (redrawn wr d) os)).mono (R' := fun e w' => e = .returned (.bool (x.l.lt y.l)) ∧ Below (grow (redrawn wr d) os).heap.size (grow (redrawn wr d) os) w') (fun _ _ ⟨p, q⟩ => ⟨p, q.below⟩)))
      have EX := Lib.hid ex
      have EY := Lib.hid ey
      have HG := Lib.hid (fun d os => regrown_below (w := w) HB.out d os)
      clear ex ey hcx hb
      have hi2 : (i : Int) < xs.length := by omega
      have hw1 : IntKind.i64.wrap (i : Int) = i := by rw [IntKind.wrap_i64]; omega
      cases hl : x.l.lt y.l
      all_goals
        rw [hl] at HF
        have HH := Lib.hid hl
        clear hl
        have hp1 : (0 : Int) ≤ (i : Int) + 1 := by omega
        have hp2 : ((i : Int) + 1).toNat = i + 1 := by omega
        go_wp2_with fail
        refine wp_region_quiet_below (by kernel_rfl) (by kernel_rfl) ?_
        repeat (quiet_step (first | (go_at_call 76; exact HF.out _ _)))
        refine wpQuiet_nil ?_
        intro _ hw'
        obtain ⟨⟨dq, osq⟩, hw''⟩ := hw'
        subst hw''
        dsimp only
        clear hp1 hp2 hw1
        go_wp2
      · go_ret
        refine ⟨ret_bool ?_, HG.out _ _⟩
        have h1 := Ris.not EX.out EY.out HH.out
        rw [← HR.out] at h1
        simpa using h1
      · go_roundw
        case rel => exact ⟨i + 1, by go_num, by omega, HN.out.next EX.out EY.out HH.out, HG.out _ _⟩
        case measure => simp [intOf]; omega
    · have hlt' : ¬ (i : Int) + 1 < xs.length := by omega
      clear hb
      go_wp2
      go_ret
      refine ⟨ret_bool ?_, HB.out⟩
      exact (HR.out.2 (HN.out.ris (by omega))).symm
end Go.Proofs.Ytdgdiikijjlnnaa
