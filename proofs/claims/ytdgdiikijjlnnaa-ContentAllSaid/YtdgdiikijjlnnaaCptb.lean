/- slices.CompactFunc over a row of labels of the call's own: the walk. -/
import Derived.Test.YtdgdiikijjlnnaaCpt
namespace Go.Proofs.Ytdgdiikijjlnnaa
open Go.RowKit Go.Sort M
theorem below_mod {w w1 : World} {S : Nat → Prop} (h : Mod S w w1) (d : Nat) (os : Array Obj) : Mod S w (grow (redrawn w1 d) os) := h.below (below_regrown w1 d os)
theorem M.Wr.frozen {W : World} {g : Nat} {ys : List Lab} (h : Wr W g ys) (o : Nat) : W.frozen? ⟨g, o, none⟩ = false := by
  obtain ⟨⟨cur, t, h1, _⟩, _⟩ := h
  simp [World.frozen?, h1]
theorem M.Mod.setRow {S : Nat → Prop} {w w1 : World} {g : Nat} (h : Mod S w w1) (hg : S g) (cs : Array Value) : Mod S w (w1.setRow g cs) := by
  refine h.trans ⟨rfl, rfl, rfl, by simp [World.setRow], fun k _ hn => ?_⟩
  have : k ≠ g := fun e => hn (e ▸ hg)
  simp [World.setRow, Array.getElem?_modify, Ne.symm this]
set_option maxRecDepth 100000 in
set_option maxHeartbeats 4000000 in
theorem compact_lab {W0 : World} {g cap : Nat} {xs : List Lab} (h : Wr W0 g xs) (hs : SrtW xs) (hcap : xs.length ≤ cap) (hl : xs.length ≤ 1000000) :
    Calls Try.prog 82 #[.slice (some ⟨g, 0, none⟩) xs.length cap, .func (.func 85) #[] #[]] W0 fun e w' => ∃ zs : List Lab, ∃ c, e = .returned (.slice (some ⟨g, 0, none⟩) zs.length c) ∧ zs.length ≤ c ∧ Wr w' g zs ∧ Srt zs ∧ (∀ x, x ∈ zs ↔ x ∈ xs) ∧ Mod (· = g) W0 w' := by
  have HX := Lib.hid h
  have HS := Lib.hid hs
  clear h hs
  go_enter Try.func82, Try.ntmps82
  by_cases h2 : xs.length < 2
  · have h2' : (xs.length : Int) < 2 := by omega
    go_wp2
    go_ret
    refine ⟨xs, cap, rfl, hcap, HX.out, ?_, fun _ => Iff.rfl, Mod.refl _ _⟩
    match xs, h2 with
    | [], _ => simp [Srt]
    | [x], _ => simp [Srt]
  have h2' : ¬ (xs.length : Int) < 2 := by omega
  go_wp2
  go_loopw [5] (fun k W => ∃ i : Nat, k = .int .i64 ((i : Int) + 1) ∧ i + 1 ≤ xs.length ∧ Srt (xs.take (i + 1)) ∧ Below W0.heap.size W0 W) (fun k _ => (xs.length - intOf k).toNat)
  case atStart =>
    exact ⟨0, rfl, by omega, srt_one (List.getElem?_eq_getElem (by omega)), Below.refl _ _⟩
  case round =>
    obtain ⟨i, rfl, hi, hni, hb⟩ := hrel
    have HN := Lib.hid hni
    have HB := Lib.hid hb
    clear hni
    by_cases hlt : i + 1 < xs.length
    · have hlt2 : (i : Int) + 1 < xs.length := by omega
      have ex := List.getElem?_eq_getElem (l := xs) (i := i) (by omega)
      generalize xs[i] = x at ex
      have ey := List.getElem?_eq_getElem hlt
      generalize xs[i + 1] = y at ey
      obtain ⟨_, x0, x1, x2, x3⟩ := (HX.out.below hb).cell ex
      obtain ⟨_, y0, y1, y2, y3⟩ := (HX.out.below hb).cell ey
      have x0 := fun d os => cell_regrown x0 d os
      have x1 := fun d os => cell_regrown x1 d os
      have x2 := fun d os => cell_regrown x2 d os
      have x3 := fun d os => cell_regrown x3 d os
      have y0 := fun d os => cell_regrown y0 d os
      have y1 := fun d os => cell_regrown y1 d os
      have y2 := fun d os => cell_regrown y2 d os
      have y3 := fun d os => cell_regrown y3 d os
      have HF := Lib.hid (fun d os => Calls.regrown_of (eq_fn y x (grow (redrawn wr d) os)))
      have EX := Lib.hid ex
      have EY := Lib.hid ey
      have HG := Lib.hid (fun d os => regrown_below (w := W0) HB.out d os)
      clear ex ey hb
      have hi2 : (i : Int) < xs.length := by omega
      have hw1 : IntKind.i64.wrap (i : Int) = i := by rw [IntKind.wrap_i64]; omega
      by_cases he : y = x
      · rw [decide_eq_true he] at HF
        subst he
        have hp1 : (0 : Int) ≤ (i : Int) + 1 := by omega
        have hp2 : ((i : Int) + 1).toNat = i + 1 := by omega
        go_wp2_with fail
        refine wp_region_quiet_below (by kernel_rfl) (by kernel_rfl) ?_
        repeat (quiet_step (first | (go_at_call 85; exact HF.out _ _)))
        refine wpQuiet_nil ?_
        intro _ hw'
        obtain ⟨⟨dq, osq⟩, hw''⟩ := hw'
        subst hw''
        dsimp only
        clear x0 x1 x2 x3 y0 y1 y2 y3
        have HXG := Lib.hid (HX.out.below (HG.out dq osq))
        have HMG := Lib.hid (Mod.of_below (S := (· = g)) (HG.out dq osq))
        generalize grow (redrawn wr dq) osq = V at HXG HMG ⊢
        have hsl := slice_from (g := g) (n := xs.length) (c := cap) (k := i + 1) (by omega) (by omega)
        rw [Int.natCast_add, Int.natCast_one] at hsl
        go_wp2
        clear hp1 hp2 hw1
        go_loopw [5, 7] (fun k k2 W => ∃ (m j : Nat) (zs : List Lab), k = .int .i64 ((m : Nat) : Int) ∧ k2 = .int .i64 ((j : Int) + 1) ∧ Kept xs zs m (i + 1 + j + 1) ∧ Wr W g zs ∧ Mod (· = g) W0 W) (fun _ k _ => (xs.length - intOf k).toNat)
        case atStart => exact ⟨i + 1, 0, xs, by simp, rfl, Kept.start HN.out EX.out EY.out, HXG.out, HMG.out⟩
        case round =>
          clear HXG HMG HB HG
          obtain ⟨m, j, zs, rfl, rfl, hk, hwr, hm⟩ := hrel
          have HK := Lib.hid hk
          have HWR := Lib.hid hwr
          have HM := Lib.hid hm
          have hkl := hk.len
          have hklt := hk.lt
          have hkle := hk.le
          clear hk hm
          by_cases hl3 : i + 1 + j + 1 < xs.length
          · have hl4 : (j : Int) + 1 < ((xs.length - (i + 1) : Nat) : Int) := by omega
            have ex := List.getElem?_eq_getElem (l := xs) (i := i + 1 + j) (by omega)
            generalize xs[i + 1 + j] = x at ex
            have ey := List.getElem?_eq_getElem hl3
            generalize xs[i + 1 + j + 1] = z at ey
            have EX2 := Lib.hid ex
            have EY2 := Lib.hid ey
            rw [← HK.out.rest _ (by omega)] at ex ey
            obtain ⟨_, x0, x1, x2, x3⟩ := hwr.cell ex
            obtain ⟨hzok, y0, y1, y2, y3⟩ := hwr.cell ey
            have x0 := fun d os => cell_regrown x0 d os
            have x1 := fun d os => cell_regrown x1 d os
            have x2 := fun d os => cell_regrown x2 d os
            have x3 := fun d os => cell_regrown x3 d os
            have y0 := fun d os => cell_regrown y0 d os
            have y1 := fun d os => cell_regrown y1 d os
            have y2 := fun d os => cell_regrown y2 d os
            have y3 := fun d os => cell_regrown y3 d os
            have HF := Lib.hid (fun d os => Calls.regrown_of (eq_fn z x (grow (redrawn wr d) os)))
            have HG := Lib.hid (fun d os => below_mod HM.out d os)
            have HWG := Lib.hid (fun d os => HWR.out.below (below_regrown wr d os))
            have hw1 : IntKind.i64.wrap (j : Int) = j := by rw [IntKind.wrap_i64]; omega
            have hp1 : (0 : Int) ≤ (j : Int) + 1 := by omega
            have hp2 : ((j : Int) + 1).toNat = j + 1 := by omega
            have hp3 : (j : Int) < ((xs.length - (i + 1) : Nat) : Int) := by omega
            clear ex ey hwr
            have ha1 : (i + 1) * 4 + (j + 1) * 4 = (i + 1 + j + 1) * 4 := by omega
            have ha2 : (i + 1) * 4 + j * 4 = (i + 1 + j) * 4 := by omega
            by_cases he : z = x
            · rw [decide_eq_true he] at HF
              subst he
              go_wp2_with fail
              refine wp_region_quiet_below (by kernel_rfl) (by kernel_rfl) ?_
              repeat (quiet_step (first | (go_at_call 85; exact HF.out _ _)))
              refine wpQuiet_nil ?_
              intro _ hw'
              obtain ⟨⟨dq, osq⟩, hw''⟩ := hw'
              subst hw''
              dsimp only
              clear x0 x1 x2 x3 y0 y1 y2 y3 hp1 hp2 hp3 hw1 ha1 ha2
              go_wp2
              go_roundw
              case rel => exact ⟨m, j + 1, zs, rfl, by go_num, by have := HK.out.same EX2.out EY2.out; rwa [show i + 1 + (j + 1) + 1 = i + 1 + j + 2 by omega], HWG.out _ _, HG.out _ _⟩
              case measure => simp [intOf]; omega
            · rw [decide_eq_false he] at HF
              have HE := Lib.hid he
              clear he
              go_wp2_with fail
              refine wp_region_quiet_below (by kernel_rfl) (by kernel_rfl) ?_
              repeat (quiet_step (first | (go_at_call 85; exact HF.out _ _)))
              refine wpQuiet_nil ?_
              intro _ hw'
              obtain ⟨⟨dq, osq⟩, hw''⟩ := hw'
              subst hw''
              dsimp only
              have HWR3 := Lib.hid (HWG.out dq osq)
              have HM3 := Lib.hid (HG.out dq osq)
              have ey := EY2.out
              rw [← HK.out.rest _ (by omega)] at ey
              obtain ⟨_, y0, y1, y2, y3⟩ := HWR3.out.cell ey
              have f0 := HWR3.out.frozen (m * 4)
              have f1 := HWR3.out.frozen (m * 4 + 1)
              have f2 := HWR3.out.frozen (m * 4 + 2)
              have f3 := HWR3.out.frozen (m * 4 + 3)
              have em := List.getElem?_eq_getElem (l := zs) (i := m) (by omega)
              generalize zs[m] = q at em
              obtain ⟨_, q0, q1, q2, q3⟩ := HWR3.out.cell em
              clear ey em x0 x1 x2 x3
              generalize grow (redrawn wr dq) osq = V at HWR3 HM3 f0 f1 f2 f3 y0 y1 y2 y3 q0 q1 q2 q3 ⊢
              have hml : (m : Int) < xs.length := by omega
              go_wp2
              go_roundw
              case rel => exact ⟨m + 1, j + 1, zs.set m z, by go_num, by go_num, by have := HK.out.diff HS.out EX2.out EY2.out HE.out; rwa [show i + 1 + (j + 1) + 1 = i + 1 + j + 2 by omega], HWR3.out.set (by omega) hzok, (((HM3.out.setCell (.inl rfl) _).setCell (.inl rfl) _).setCell (.inl rfl) _).setCell (.inl rfl) _⟩
              case measure => simp [intOf]; omega
          · have hl4 : ¬ (j : Int) + 1 < ((xs.length - (i + 1) : Nat) : Int) := by omega
            have hsl := slice_from (g := g) (n := xs.length) (c := cap) (k := m) (by omega) (by omega)
            have hsl2 := slice_to (b := g) (o := 0) (n := xs.length) (c := cap) (k := m) (by omega)
            have hcl := hwr.1
            rw [hkl] at hcl
            obtain ⟨cur, t, hg1, hg2⟩ := hcl
            obtain ⟨vs, hvl, hclr⟩ := run_clear (c := cap - m) hg1 (by omega : m < xs.length) hg2
            have HWC := Lib.hid (hwr.cut hg1 vs (by omega : m < zs.length) (by rw [hkl]; exact hvl) (by rw [hkl]; exact hg2))
            clear hwr hg2
            have HG1 := Lib.hid hg1
            clear hg1
            go_wp2
            go_ret
            have hwc := HWC.out
            rw [hvl, List.append_assoc] at hwc
            have htl : (zs.take m).length = m := by simp; omega
            refine ⟨zs.take m, cap, by rw [htl]; rfl, by rw [htl]; omega, hwc, HK.out.srt, fun x => ?_, HM.out.setRow rfl _⟩
            rw [HK.out.mem, List.take_of_length_le (by omega)]
      · rw [decide_eq_false he] at HF
        have HE := Lib.hid he
        clear he
        have hp1 : (0 : Int) ≤ (i : Int) + 1 := by omega
        have hp2 : ((i : Int) + 1).toNat = i + 1 := by omega
        go_wp2_with fail
        refine wp_region_quiet_below (by kernel_rfl) (by kernel_rfl) ?_
        repeat (quiet_step (first | (go_at_call 85; exact HF.out _ _)))
        refine wpQuiet_nil ?_
        intro _ hw'
        obtain ⟨⟨dq, osq⟩, hw''⟩ := hw'
        subst hw''
        dsimp only
        clear hp1 hp2 hw1
        go_wp2
        go_roundw
        case rel => exact ⟨i + 1, by go_num, by omega, srt_step HS.out HN.out EX.out EY.out HE.out, HG.out _ _⟩
        case measure => simp [intOf]; omega
    · have hlt' : ¬ (i : Int) + 1 < xs.length := by omega
      clear hb
      go_wp2
      go_ret
      refine ⟨xs, cap, rfl, hcap, HX.out.below HB.out, ?_, fun _ => Iff.rfl, Mod.of_below HB.out⟩
      have := HN.out
      rwa [List.take_of_length_le (by omega)] at this
end Go.Proofs.Ytdgdiikijjlnnaa
