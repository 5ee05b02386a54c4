/- The reference: is a summary right. -/
import Derived.Test.YtdgdiikijjlnnaaRin
namespace Go.Proofs.Ytdgdiikijjlnnaa
open Go.RowKit Go.Sort M
namespace M
/-- A summary is right. -/
def Sum.Right (s : Sum) : Prop := (∀ x ∈ s.con, x.form = true) ∧ Ris s.con ∧ (∀ x ∈ s.ord, x.form = true) ∧ s.ord.Nodup ∧ 1 ≤ s.next ∧ s.next ≤ s.ord.length + 1 ∧ s.high.form = true
def FormTo (l : List Ent) (k : Nat) : Prop := ∀ x ∈ l.take k, x.form = true
def LabTo (l : List Lab) (k : Nat) : Prop := (∀ x ∈ l.take k, x.form = true) ∧ (l.take k).Nodup
theorem FormTo.zero (l : List Ent) : FormTo l 0 := fun x hx => by simp at hx
theorem FormTo.next {l : List Ent} {k : Nat} {x : Ent} (h : FormTo l k) (hx : l[k]? = some x) (hf : x.form = true) : FormTo l (k + 1) := by
  intro y hy
  rw [List.take_add_one, hx] at hy
  simp at hy
  rcases hy with hy | rfl
  · exact h y hy
  · exact hf
theorem FormTo.all {l : List Ent} {k : Nat} (h : FormTo l k) (hk : l.length ≤ k) : ∀ x ∈ l, x.form = true := by
  unfold FormTo at h
  rwa [List.take_of_length_le hk] at h
theorem LabTo.zero (l : List Lab) : LabTo l 0 := ⟨fun x hx => by simp at hx, by simp⟩
theorem LabTo.next {l : List Lab} {k : Nat} {x : Lab} (h : LabTo l k) (hx : l[k]? = some x) (hf : x.form = true) (hn : x ∉ l.take k) : LabTo l (k + 1) := by
  unfold LabTo
  rw [List.take_add_one, hx]
  refine ⟨fun y hy => ?_, ?_⟩
  · simp at hy
    rcases hy with hy | rfl
    · exact h.1 y hy
    · exact hf
  · simp only [Option.toList_some]
    rw [List.nodup_append]
    exact ⟨h.2, by simp, fun a ha b hb => by simp at hb; subst hb; rintro rfl; exact hn ha⟩
theorem LabTo.all {l : List Lab} {k : Nat} (h : LabTo l k) (hk : l.length ≤ k) : (∀ x ∈ l, x.form = true) ∧ l.Nodup := by
  unfold LabTo at h
  rwa [List.take_of_length_le hk] at h
theorem nodup_at {l : List Lab} {k : Nat} {x : Lab} (h : l.Nodup) (hx : l[k]? = some x) : x ∉ l.take k := by
  obtain ⟨hk, rfl⟩ := List.getElem?_eq_some_iff.1 hx
  have e := List.take_append_drop k l
  rw [List.drop_eq_getElem_cons hk] at e
  rw [← e, List.nodup_append] at h
  exact fun hm => h.2.2 _ hm _ (List.mem_cons_self ..) rfl
end M
theorem infoLab : (Try.prog.info? 26).map (fun i => (i.zero, i.size, i.bytes)) = some (some (.agg #[.int .u64 0, .int .i64 0, .int .u64 0, .int .i64 0]), 4, 32) := by kernel_rfl
theorem slice_to {b o n c k : Nat} (hk : k ≤ c) (W : World) : (Instr.slice 36 (.slice (some ⟨b, o, none⟩) n c) none (some (.int .i64 (k : Int))) none).run Try.prog W = .ok (.slice (some ⟨b, o, none⟩) k c) W := by
  obtain ⟨i, hi, hq⟩ := Option.map_eq_some_iff.1 infoLab
  simp only [Prod.mk.injEq] at hq
  have hel : Try.prog.elem 36 = 26 := by simp [Program.elem, Try.underlying36]
  have hu : Try.prog.underlying 36 = some (.slice (Try.prog.elem 36)) := by rw [hel]; exact Try.underlying36
  rw [run_slice_h W 36 (some ⟨b, o, none⟩) n c hu .i64 (k : Int) (by omega) (by omega), hel]
  simp [sizeOf, typeInfo, hi, hq.2.1, sliced, Result.andThen, Addr.add_lit]
/-- What a walk of a right summary's form ends in. -/
theorem right_no {s : Sum} {r : Bool} (hr : r = true ↔ s.Right) (h : ¬ s.Right) : Ending.returned (.bool false) = .returned (.bool r) := ret_bool (by cases r; rfl; exact absurd (hr.1 rfl) h)
set_option maxRecDepth 100000 in
set_option maxHeartbeats 1000000 in
theorem ref15_Right {I : Nat → Prop} {A1 A2 : Option Addr} {c1 c2 : Nat} {s : Sum} {w : World} (h1 : Row kEnt I w A1 s.con) (h2 : Row kLab I w A2 s.ord) (hv : s.high.ok) (hc2 : s.ord.length ≤ c2) (hol : s.ord.length ≤ 1000000000000) (r : Bool) (hr : r = true ↔ s.Right) :
    Calls Try.prog 16 #[.agg #[.slice A1 s.con.length c1, .slice A2 s.ord.length c2, .int .i64 s.next, .int .u64 s.high.n, .int .i64 s.high.p]] w fun e w' => e = .returned (.bool r) ∧ Below w.heap.size w w' := by
  have HB := Lib.hid (below_alloc1 w (.cells #[.slice A1 s.con.length c1, .slice A2 s.ord.length c2, .int .i64 s.next, .int .u64 s.high.n, .int .i64 s.high.p] 38))
  have HM := Lib.hid (heap_alloc_new w (.cells #[.slice A1 s.con.length c1, .slice A2 s.ord.length c2, .int .i64 s.next, .int .u64 s.high.n, .int .i64 s.high.p] 38))
  have HX := Lib.hid (h1.below HB.out)
  have HY := Lib.hid (h2.below HB.out)
  have hlx := h1.1
  have hly := h2.1
  have HR := Lib.hid hr
  have HV := Lib.hid (fun W => ref04_Form s.high hv W)
  have HI := Lib.hid (show ∃ r1 : Bool, r1 = true ↔ Ris s.con from by
    by_cases hh : Ris s.con
    · exact ⟨true, by simp [hh]⟩
    · exact ⟨false, by simp [hh]⟩)
  clear h1 h2 hr
  go_enter Try.func16, Try.ntmps16
  go_wp2
  generalize w.alloc (.cells #[.slice A1 s.con.length c1, .slice A2 s.ord.length c2, .int .i64 s.next, .int .u64 s.high.n, .int .i64 s.high.p] 38) = V at HB HM HX HY ⊢
  go_loopw [3] (fun k W => ∃ i : Nat, k = .int .i64 i ∧ i ≤ s.con.length ∧ FormTo s.con i ∧ Below V.heap.size V W) (fun k _ => (s.con.length - intOf k).toNat)
  case atStart => exact ⟨0, rfl, by omega, FormTo.zero _, Below.refl _ _⟩
  case round =>
    obtain ⟨i, rfl, hi, hni, hb⟩ := hrel
    have HN := Lib.hid hni
    have HW := Lib.hid hb
    obtain ⟨b0, b1, b2, b3, b4⟩ := cells5 (below_blk hb HM.out)
    clear hni hb
    by_cases hlt : i < s.con.length
    · obtain ⟨b, o, rfl, _, hcx⟩ := Row.ent (HX.out.below HW.out) (by intro hh; rw [hh] at hlt; simp at hlt)
      have ex := List.getElem?_eq_getElem (l := s.con) (i := i) hlt
      generalize s.con[i] = x at ex
      obtain ⟨B, c, hok, x0, x1, x2, x3, x4, _, _⟩ := hcx i x ex
      have HF := Lib.hid (fun W => ref15_Form (A := B) (c := c) x hok W)
      have EX := Lib.hid ex
      clear ex hcx
      cases hf : x.form
      all_goals
        rw [hf] at HF
        have HH := Lib.hid hf
        clear hf
        go_wp2_with fail
        refine (HF.out _).mono ?_
        rintro e w1 ⟨rfl, hb1⟩
        have HW1 := Lib.hid (HW.out.trans (hb1.mono HW.out.size))
        clear hb1
        go_wp2
      · go_ret
        refine ⟨right_no HR.out (fun hh => ?_), HB.out.trans (HW1.out.mono HB.out.size)⟩
        have := hh.1 x (List.mem_of_getElem? EX.out)
        rw [HH.out] at this
        cases this
      · go_roundw
        case rel => exact ⟨i + 1, by go_num, by omega, HN.out.next EX.out HH.out, HW1.out⟩
        case measure => simp [intOf]; omega
    · have hlt' : ¬ (i : Int) < s.con.length := by omega
      have HFA := Lib.hid (HN.out.all (by omega))
      clear b2 b3 b4
      go_wp2
      clear b0 b1
      go_loopw [4] (fun k W => ∃ i : Nat, k = .int .i64 i ∧ i ≤ s.ord.length ∧ LabTo s.ord i ∧ Below V.heap.size V W) (fun k _ => (s.ord.length - intOf k).toNat)
      case atStart => exact ⟨0, rfl, by omega, LabTo.zero _, HW.out⟩
      case round =>
        clear HW HN
        obtain ⟨i2, rfl, hi2, hni, hb⟩ := hrel
        have HN := Lib.hid hni
        have HW := Lib.hid hb
        obtain ⟨b0, b1, b2, b3, b4⟩ := cells5 (below_blk hb HM.out)
        clear hni hb
        by_cases hlt : i2 < s.ord.length
        · obtain ⟨b, o, rfl, _, hcy⟩ := Row.lab (HY.out.below HW.out) (by intro hh; rw [hh] at hlt; simp at hlt)
          have ey := List.getElem?_eq_getElem (l := s.ord) (i := i2) hlt
          generalize s.ord[i2] = y at ey
          obtain ⟨hok, y0, y1, y2, y3⟩ := hcy i2 y ey
          have HF := Lib.hid (fun d os => Calls.regrown_of (ref05_Form y hok (grow (redrawn wr d) os)))
          have hin := fun d os => (ref05_In (c := c2) ((HY.out.below (HW.out.trans ((below_regrown wr d os).mono HW.out.size))).take i2) y).mono (R' := fun e w' => e = .returned (.bool (decide (y ∈ s.ord.take i2))) ∧ Below (grow (redrawn wr d) os).heap.size (grow (redrawn wr d) os) w') (fun _ _ ⟨p, q⟩ => ⟨p, q.below⟩)
          have hl2 : (s.ord.take i2).length = i2 := by simp; omega
          rw [hl2] at hin
          have HIN := Lib.hid (fun d os => Calls.regrown_of (hin d os))
          have EY := Lib.hid ey
          have HG := Lib.hid (fun d os => HW.out.trans ((below_regrown wr d os).mono HW.out.size))
          have y0 := fun d os => cell_regrown y0 d os
          have y1 := fun d os => cell_regrown y1 d os
          have y2 := fun d os => cell_regrown y2 d os
          have y3 := fun d os => cell_regrown y3 d os
          have b1' := fun d os => cell_regrown b1 d os
          clear ey hcy hin hl2
          cases hf : y.form
          · rw [hf] at HF
            have HH := Lib.hid hf
            clear hf
            go_wp2_with fail
            refine wp_region_quiet_below (by kernel_rfl) (by kernel_rfl) ?_
            repeat (first | go_big_quiet_step (first | (go_at_call 29; exact HF.out _ _)) | quiet_step (first | (go_at_call 29; exact HF.out _ _)))
            refine wpQuiet_nil ?_
            intro _ hw'
            obtain ⟨⟨dq, osq⟩, hw''⟩ := hw'
            subst hw''
            dsimp only
            go_wp2
            go_ret
            refine ⟨right_no HR.out (fun hh => ?_), HB.out.trans ((HG.out _ _).mono HB.out.size)⟩
            have := hh.2.2.1 y (List.mem_of_getElem? EY.out)
            rw [HH.out] at this
            cases this
          · rw [hf] at HF
            have HH := Lib.hid hf
            clear hf
            have hi3 : (i2 : Int) < s.ord.length := by omega
            have hsl : ∀ W : World, (Instr.slice 36 (.slice (some ⟨b, o, none⟩) s.ord.length c2) none (some (.int .i64 (i2 : Int))) none).run Try.prog W = .ok (.slice (some ⟨b, o, none⟩) i2 c2) W := fun W => slice_to (by omega) W
            by_cases hm : y ∈ s.ord.take i2
            · rw [decide_eq_true hm] at HIN
              have HM2 := Lib.hid hm
              clear hm
              go_wp2_with fail
              refine wp_region_quiet_below (by kernel_rfl) (by kernel_rfl) ?_
              repeat (first | go_big_quiet_step (first | (go_at_call 29; exact HF.out _ _) | (go_at_call 24; exact HIN.out _ _)) | quiet_step (first | (go_at_call 29; exact HF.out _ _) | (go_at_call 24; exact HIN.out _ _)))
              refine wpQuiet_nil ?_
              intro _ hw'
              obtain ⟨⟨dq, osq⟩, hw''⟩ := hw'
              subst hw''
              dsimp only
              go_wp2
              go_ret
              refine ⟨right_no HR.out (fun hh => ?_), HB.out.trans ((HG.out _ _).mono HB.out.size)⟩
              exact nodup_at hh.2.2.2.1 EY.out HM2.out
            · rw [decide_eq_false hm] at HIN
              have HM2 := Lib.hid hm
              clear hm
              go_wp2_with fail
              refine wp_region_quiet_below (by kernel_rfl) (by kernel_rfl) ?_
              repeat (first | go_big_quiet_step (first | (go_at_call 29; exact HF.out _ _) | (go_at_call 24; exact HIN.out _ _)) | quiet_step (first | (go_at_call 29; exact HF.out _ _) | (go_at_call 24; exact HIN.out _ _)))
              refine wpQuiet_nil ?_
              intro _ hw'
              obtain ⟨⟨dq, osq⟩, hw''⟩ := hw'
              subst hw''
              dsimp only
              go_wp2
              go_roundw
              case rel => exact ⟨i2 + 1, by go_num, by omega, HN.out.next EY.out HH.out HM2.out, HG.out _ _⟩
              case measure => simp [intOf]; omega
        · have hlt' : ¬ (i2 : Int) < s.ord.length := by omega
          have HFB := Lib.hid (HN.out.all (by omega))
          obtain ⟨r1, hr1⟩ := HI.out
          have HRI := Lib.hid (ref15_Rising (c := c1) (HX.out.below HW.out) r1 hr1)
          have HR1 := Lib.hid hr1
          have HZ := Lib.hid (fun (a : Ris s.con) b c d => HR.out.2 ⟨HFA.out, a, HFB.out.1, HFB.out.2, b, c, d⟩)
          clear hr1
          generalize hfh : s.high.form = fh at HV
          have HFH := Lib.hid hfh
          clear hfh
          cases r1
          · go_wp2_with fail
            refine HRI.out.mono ?_
            rintro e w1 ⟨rfl, hb1⟩
            have HW1 := Lib.hid (HW.out.trans (hb1.mono HW.out.size))
            clear hb1
            go_wp2
            go_ret
            exact ⟨right_no HR.out (fun hh => by have := HR1.out.2 hh.2.1; cases this), HB.out.trans (HW1.out.mono HB.out.size)⟩
          · go_wp2_with fail
            refine HRI.out.mono ?_
            rintro e w1 ⟨rfl, hb1⟩
            have HW1 := Lib.hid (HW.out.trans (hb1.mono HW.out.size))
            obtain ⟨d0, d1, d2, d3, d4⟩ := cells5 (below_blk HW1.out HM.out)
            clear hb1 b0 b1 b2 b3 b4
            by_cases hn1 : 1 ≤ s.next
            · by_cases hn2 : s.next ≤ s.ord.length + 1
              · go_wp2_with fail
                refine (HV.out _).mono ?_
                rintro e w2 ⟨rfl, hb2⟩
                have HW2 := Lib.hid (HW1.out.trans (hb2.mono HW1.out.size))
                clear hb2
                go_wp2
                go_ret
                refine ⟨ret_bool ?_, HB.out.trans (HW2.out.mono HB.out.size)⟩
                cases fh
                · exact (Bool.eq_false_iff.2 (fun hh => by have := (HR.out.1 hh).2.2.2.2.2.2; rw [HFH.out] at this; cases this)).symm
                · exact (HZ.out (HR1.out.1 (by trivial)) hn1 hn2 HFH.out).symm
              · go_wp2
                go_ret
                exact ⟨right_no HR.out (fun hh => by have := hh.2.2.2.2.2.1; omega), HB.out.trans (HW1.out.mono HB.out.size)⟩
            · go_wp2
              go_ret
              exact ⟨right_no HR.out (fun hh => by have := hh.2.2.2.2.1; omega), HB.out.trans (HW1.out.mono HB.out.size)⟩
end Go.Proofs.Ytdgdiikijjlnnaa
