/- The reference's reader: Int. -/
import Derived.Test.YtdgdiikijjlnnaaRrd
namespace Go.Proofs.Ytdgdiikijjlnnaa
open Go.RowKit M
/-- The next number, at most that. -/
def M.rRI (most : Nat) (P : List UInt8) (k : Nat) (bad : Bool) : Nat × Nat × Bool :=
  if (rRU P k bad).2.2 = true ∨ most < (rRU P k bad).1 then (0, (rRU P k bad).2.1, true) else rRU P k bad
/-- The next bytes, at most so many. -/
def M.rRB (most : Nat) (P : List UInt8) (k : Nat) (bad : Bool) : List UInt8 × Nat × Bool :=
  if (rRI most P k bad).2.2 = true ∨ P.length - (rRI most P k bad).2.1 < (rRI most P k bad).1 then ([], (rRI most P k bad).2.1, true) else ((P.drop (rRI most P k bad).2.1).take (rRI most P k bad).1, (rRI most P k bad).2.1 + (rRI most P k bad).1, false)
theorem ref_Uint_any {I : Nat → Prop} {g k : Nat} {P : List UInt8} {bad : Bool} {w : World} (h : Rfr I w g P k bad) :
    Calls Try.prog 69 #[.pointer (some ⟨g, 0, none⟩)] w fun e w' => e = .returned (.int .u64 (rRU P k bad).1) ∧ Rfr I w' g P (rRU P k bad).2.1 (rRU P k bad).2.2 ∧ Mod (· = g) w w' := by
  cases bad
  · exact ref_Uint h
  · refine (ref_Uint_bad h).mono ?_
    rintro e w' ⟨rfl, rfl⟩
    exact ⟨rfl, h, Mod.refl _ _⟩
set_option maxRecDepth 100000 in
set_option maxHeartbeats 2000000 in
theorem ref_Int {I : Nat → Prop} {g k most : Nat} {P : List UInt8} {bad : Bool} {w : World} (h : Rfr I w g P k bad) (hmost : most ≤ 9223372036854775807) :
    Calls Try.prog 41 #[.pointer (some ⟨g, 0, none⟩), .int .i64 most] w fun e w' => e = .returned (.int .i64 (rRI most P k bad).1) ∧ Rfr I w' g P (rRI most P k bad).2.1 (rRI most P k bad).2.2 ∧ Mod (· = g) w w' := by
  have HU := Lib.hid (ref_Uint_any h)
  have HE := Lib.hid (rRI.eq_1 most P k bad)
  clear h
  generalize rRU P k bad = u at HU HE
  obtain ⟨n, k1, b1⟩ := u
  dsimp only at HU HE
  have hw : IntKind.u64.wrap (most : Int) = (most : Int) := by rw [IntKind.wrap_u64]; omega
  cases b1
  · by_cases hn : n ≤ most
    · have hn' : ¬ (most : Int) < (n : Int) := by omega
      have hw2 : IntKind.i64.wrap (n : Int) = (n : Int) := by rw [IntKind.wrap_i64]; omega
      go_enter Try.func41, Try.ntmps41
      go_wp2_with fail
      refine HU.out.mono ?_
      rintro e w1 ⟨rfl, hR, hM⟩
      obtain ⟨hI, hm, hk, A, c, hb, hc, hr⟩ := hR
      have h1 := blk_cell hb 1
      have f1 := blk_free hb 1
      simp at h1
      have HR := Lib.hid (⟨hI, hm, hk, A, c, hb, hc, hr⟩ : Rfr I w1 g P k1 false)
      have HM := Lib.hid hM
      clear hb hr hM
      go_wp2
      go_ret
      rw [HE.out, if_neg (by simp; omega)]
      exact ⟨rfl, HR.out, HM.out⟩
    · have hn' : (most : Int) < (n : Int) := by omega
      go_enter Try.func41, Try.ntmps41
      go_wp2_with fail
      refine HU.out.mono ?_
      rintro e w1 ⟨rfl, hR, hM⟩
      obtain ⟨hI, hm, hk, A, c, hb, hc, hr⟩ := hR
      have h1 := blk_cell hb 1
      have f1 := blk_free hb 1
      simp at h1
      have HF := Lib.hid (rfr_fault hI hm hk hb hc hr)
      have HM := Lib.hid hM
      clear hb hr hM
      go_wp2
      go_ret
      rw [HE.out, if_pos (by simp; omega)]
      exact ⟨rfl, HF.out.1, HM.out.trans HF.out.2⟩
  · go_enter Try.func41, Try.ntmps41
    go_wp2_with fail
    refine HU.out.mono ?_
    rintro e w1 ⟨rfl, hR, hM⟩
    obtain ⟨hI, hm, hk, A, c, hb, hc, hr⟩ := hR
    have h1 := blk_cell hb 1
    have f1 := blk_free hb 1
    simp at h1
    have HF := Lib.hid (rfr_fault hI hm hk hb hc hr)
    have HM := Lib.hid hM
    clear hb hr hM
    go_wp2
    go_ret
    rw [HE.out, if_pos (by simp)]
    exact ⟨rfl, HF.out.1, HM.out.trans HF.out.2⟩
/-- P[k:k+n], as the walk comes to it. -/
theorem mid_slice {I : Nat → Prop} {w : World} {A : Option Addr} {c k n : Nat} {P : List UInt8} (h : Row kByte I w A P) (hc : P.length ≤ c) (hk : k + n ≤ P.length) :
    ∃ A1 c1, (∀ W : World, (Instr.slice 27 (.slice A P.length c) (some (.int .i64 (k : Int))) (some (.int .i64 ((k : Int) + n))) none).run Try.prog W = .ok (.slice A1 n c1) W) ∧ n ≤ c1 ∧ Row kByte I w A1 ((P.drop k).take n) := by
  obtain ⟨i, hi, hq⟩ := Option.map_eq_some_iff.1 infoByte
  simp only [Prod.mk.injEq] at hq
  have hel : Try.prog.elem 27 = 5 := by simp [Program.elem, Try.underlying27]
  have hu : Try.prog.underlying 27 = some (.slice (Try.prog.elem 27)) := by rw [hel]; exact Try.underlying27
  have hrun : ∀ W : World, (Instr.slice 27 (.slice A P.length c) (some (.int .i64 (k : Int))) (some (.int .i64 ((k : Int) + n))) none).run Try.prog W = .ok (.slice (if c = k then A else A.map (·.add k)) n (c - k)) W := by
    intro W
    rw [run_slice_lh W 27 A P.length c hu .i64 .i64 _ _ (by omega) (by omega) (by omega), hel]
    simp [sizeOf, typeInfo, hi, hq.2.1, sliced, Result.andThen]
    omega
  refine ⟨_, _, hrun, by omega, ?_⟩
  split
  · rw [List.eq_nil_of_length_eq_zero (l := (P.drop k).take n) (by simp; omega)]
    exact Row.nil _ _ _ _
  · have := (h.dropA k).take n
    simpa [kByte] using this
set_option maxRecDepth 100000 in
set_option maxHeartbeats 4000000 in
theorem ref_Bytes {I : Nat → Prop} {g k most : Nat} {P : List UInt8} {bad : Bool} {w : World} (h : Rfr I w g P k bad) (hmost : most ≤ 140737488355328) :
    Calls Try.prog 68 #[.pointer (some ⟨g, 0, none⟩), .int .i64 most] w fun e w' => ∃ v, e = .returned v ∧ SV kByte I w' v (rRB most P k bad).1 ∧ Rfr I w' g P (rRB most P k bad).2.1 (rRB most P k bad).2.2 ∧ Mod (· = g) w w' := by
  have HU := Lib.hid (ref_Int h (most := most) (by omega))
  have HE := Lib.hid (rRB.eq_1 most P k bad)
  clear h
  generalize rRI most P k bad = u at HU HE
  obtain ⟨n, k1, b1⟩ := u
  dsimp only at HU HE
  cases b1
  · by_cases hn : P.length - k1 < n
    · go_enter Try.func68, Try.ntmps68
      go_wp2_with fail
      refine HU.out.mono ?_
      rintro e w1 ⟨rfl, hR, hM⟩
      obtain ⟨hI, hm, hk, A, c, hb, hc, hr⟩ := hR
      have h1 := blk_cell hb 1
      have h0 := blk_cell hb 0
      have f1 := blk_free hb 1
      simp at h1 h0
      have HF := Lib.hid (rfr_fault hI hm hk hb hc hr)
      have HM := Lib.hid hM
      have hn' : (P.length : Int) - (k1 : Int) < (n : Int) := by omega
      have hk0 : decide ((k1 : Int) < 0) = false := decide_eq_false (by omega)
      clear hb hr hM
      go_wp2_with fail
      go_quiet (fail)
      go_wp2
      go_ret
      rw [HE.out, if_pos (by simp; omega)]
      exact ⟨_, rfl, SV.nil _ _ _, HF.out.1.drewN _, (HM.out.trans HF.out.2).drewN _⟩
    · go_enter Try.func68, Try.ntmps68
      go_wp2_with fail
      refine HU.out.mono ?_
      rintro e w1 ⟨rfl, hR, hM⟩
      obtain ⟨hI, hm, hk, A, c, hb, hc, hr⟩ := hR
      have h1 := blk_cell hb 1
      have h0 := blk_cell hb 0
      have f1 := blk_free hb 1
      simp at h1 h0
      have HB := Lib.hid hb
      have HR := Lib.hid hr
      have HM := Lib.hid hM
      have hn' : ¬ (P.length : Int) - (k1 : Int) < (n : Int) := by omega
      have hn2 : decide ((P.length : Int) - (k1 : Int) < (n : Int)) = false := decide_eq_false hn'
      have hk0 : decide ((k1 : Int) < 0) = false := decide_eq_false (by omega)
      have hk6 : IntKind.i64.wrap ((k1 : Int) + n) = (k1 : Int) + n := by rw [IntKind.wrap_i64]; omega
      obtain ⟨A1, c1, hsl, hc1, hr1⟩ := mid_slice (k := k1) (n := n) hr hc (by omega)
      have HR1 := Lib.hid hr1
      clear hb hr hM hr1
      go_wp2_with fail
      go_quiet (fail)
      go_wp2_with fail
      go_quiet (fail)
      go_wp2
      go_ret
      rw [HE.out, if_neg (by simp; omega)]
      have hM2 : Mod (· = g) w1 (w1.setCell ⟨g, 1, none⟩ (.int .i64 ((k1 : Int) + n))) := (Mod.refl (fun x => x = g) w1).setCell (p := ⟨g, 1, none⟩) (.inl rfl) _
      have hA2 := hM2.agr (I := I) (fun j hj e => hI (e ▸ hj))
      have hl : ((P.drop k1).take n).length = n := by simp; omega
      refine ⟨_, rfl, ⟨A1, c1, by simp only [hl]; rfl, by simp only [hl]; exact hc1, (HR1.out.step hA2).below (below_drewN (Below.refl _ _) _)⟩, Rfr.drewN ⟨hI, hm, (by show k1 + n ≤ P.length; omega), A, c, by simpa using blk_set HB.out 1 _, hc, HR.out.step hA2⟩ _, (HM.out.trans hM2).drewN _⟩
  · go_enter Try.func68, Try.ntmps68
    go_wp2_with fail
    refine HU.out.mono ?_
    rintro e w1 ⟨rfl, hR, hM⟩
    obtain ⟨hI, hm, hk, A, c, hb, hc, hr⟩ := hR
    have h1 := blk_cell hb 1
    have h0 := blk_cell hb 0
    have f1 := blk_free hb 1
    simp at h1 h0
    have HF := Lib.hid (rfr_fault hI hm hk hb hc hr)
    have HM := Lib.hid hM
    clear hb hr hM
    go_wp2_with fail
    go_quiet (fail)
    go_wp2
    go_ret
    rw [HE.out, if_pos (by simp)]
    exact ⟨_, rfl, SV.nil _ _ _, HF.out.1.drewN _, (HM.out.trans HF.out.2).drewN _⟩
end Go.Proofs.Ytdgdiikijjlnnaa
