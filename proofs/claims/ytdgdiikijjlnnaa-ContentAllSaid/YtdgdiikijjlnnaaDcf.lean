/- slices.ContainsFunc, as package content calls it: is a label of a row not right. -/
import Derived.Test.YtdgdiikijjlnnaaRright
namespace Go.Proofs.Ytdgdiikijjlnnaa
open Go.RowKit Go.Sort M
set_option maxHeartbeats 1000000 in
theorem right_fn (x : Lab) (w : World) : Calls Try.prog 46 #[.agg #[.int .u64 x.n, .int .i64 x.p, .int .u64 x.s, .int .i64 x.q]] w fun e w' => e = .returned (.bool (!x.form)) ∧ Below w.heap.size w w' := by
  have HF := Lib.hid (fun W => label_Form x W)
  generalize x.form = f at HF
  go_enter Try.func46, Try.ntmps46
  go_wp2_with fail
  refine (HF.out _).mono ?_
  rintro e w1 ⟨rfl, hb⟩
  go_wp2
  go_ret
  exact ⟨rfl, (below_alloc1 w _).trans (hb.mono (by simp))⟩
theorem forms_next {l : List Lab} {k : Nat} {x : Lab} (h : ∀ y ∈ l.take k, y.form = true) (hx : l[k]? = some x) (hf : x.form = true) : ∀ y ∈ l.take (k + 1), y.form = true := by
  intro y hy
  rw [List.take_add_one, hx] at hy
  simp at hy
  rcases hy with hy | rfl
  · exact h y hy
  · exact hf
set_option maxHeartbeats 1000000 in
theorem index_fn {I : Nat → Prop} {A : Option Addr} {c : Nat} {xs : List Lab} {w : World} (h : Row kLab I w A xs) :
    Calls Try.prog 74 #[.slice A xs.length c, .func (.func 46) #[] #[]] w fun e w' => ∃ r : Int, e = .returned (.int .i64 r) ∧ (0 ≤ r ↔ ∃ x ∈ xs, x.form = false) ∧ Below w.heap.size w w' := by
  have HX := Lib.hid h
  have hlx := h.1
  clear h
  go_enter Try.func74, Try.ntmps74
  go_wp2
  go_loopw [8] (fun k W => ∃ i : Nat, k = .int .i64 i ∧ i ≤ xs.length ∧ (∀ x ∈ xs.take i, x.form = true) ∧ Below w.heap.size w W) (fun k _ => (xs.length - intOf k).toNat)
  case atStart => exact ⟨0, rfl, by omega, by simp, Below.refl _ _⟩
  case round =>
    obtain ⟨i, rfl, hi, hni, hb⟩ := hrel
    have HN := Lib.hid hni
    have HB := Lib.hid hb
    clear hni hb
    by_cases hlt : i < xs.length
    · obtain ⟨b, o, rfl, _, hcx⟩ := Row.lab (HX.out.below HB.out) (by rintro rfl; simp at hlt)
      have ex := List.getElem?_eq_getElem hlt
      generalize xs[i] = y at ex
      obtain ⟨_, x0, x1, x2, x3⟩ := hcx i y ex
      have HF := Lib.hid (fun W => right_fn y W)
      have EX := Lib.hid ex
      clear hcx ex
      cases hf : y.form
      · rw [hf] at HF
        have HH := Lib.hid hf
        clear hf
        go_wp2_with fail
        refine (HF.out _).mono ?_
        rintro e w1 ⟨rfl, hb1⟩
        have HB1 := Lib.hid (HB.out.trans (hb1.mono HB.out.size))
        clear hb1
        go_wp2
        go_ret
        exact ⟨_, rfl, ⟨fun _ => ⟨y, List.mem_of_getElem? EX.out, HH.out⟩, fun _ => by omega⟩, HB1.out⟩
      · rw [hf] at HF
        have HH := Lib.hid hf
        clear hf
        go_wp2_with fail
        refine (HF.out _).mono ?_
        rintro e w1 ⟨rfl, hb1⟩
        have HB1 := Lib.hid (HB.out.trans (hb1.mono HB.out.size))
        clear hb1
        go_wp2
        go_roundw
        case rel => exact ⟨i + 1, by go_num, by omega, forms_next HN.out EX.out HH.out, HB1.out⟩
        case measure => simp [intOf]; omega
    · have hlt' : ¬ (i : Int) < xs.length := by omega
      go_wp2
      go_ret
      refine ⟨-1, rfl, ⟨fun hh => by omega, ?_⟩, HB.out⟩
      rintro ⟨x, hx, hf⟩
      have := HN.out x (by rwa [List.take_of_length_le (by omega)])
      rw [hf] at this
      cases this
set_option maxHeartbeats 1000000 in
theorem contains_fn {I : Nat → Prop} {A : Option Addr} {c : Nat} {xs : List Lab} {w : World} (h : Row kLab I w A xs) (r : Bool) (hr : r = true ↔ ∃ x ∈ xs, x.form = false) :
    Calls Try.prog 45 #[.slice A xs.length c, .func (.func 46) #[] #[]] w fun e w' => e = .returned (.bool r) ∧ Below w.heap.size w w' := by
  have HI := Lib.hid (index_fn (c := c) h)
  have HR := Lib.hid hr
  clear h hr
  go_enter Try.func45, Try.ntmps45
  go_wp2_with fail
  refine HI.out.mono ?_
  rintro e w1 ⟨k, rfl, hk, hb⟩
  have HK := Lib.hid hk
  clear hk
  go_wp2
  go_ret
  refine ⟨ret_bool ?_, hb⟩
  rw [Bool.eq_iff_iff, HR.out, ← HK.out]
  simp
namespace M
/-- What label.Twice says. -/
def TwiceSays : Prop := ∀ {I : Nat → Prop} {A : Option Addr} {c : Nat} {xs : List Lab} {w : World}, Row kLab I w A xs → xs.length ≤ c → xs.length ≤ 1000000 →
  Calls Try.prog 47 #[.slice A xs.length c] w fun e w' => e = .returned (.bool (decide (¬ xs.Nodup))) ∧ Below w.heap.size w w'
end M
set_option maxRecDepth 100000 in
set_option maxHeartbeats 4000000 in
theorem content_Right (HT : TwiceSays) {I : Nat → Prop} {A1 A2 : Option Addr} {c1 c2 : Nat} {s : Sum} {w : World} (h1 : Row kEnt I w A1 s.con) (h2 : Row kLab I w A2 s.ord) (hc2 : s.ord.length ≤ c2) (hol : s.ord.length ≤ 1000000) (r : Bool) (hr : r = true ↔ s.Right) :
    Calls Try.prog 15 #[.agg #[.slice A1 s.con.length c1, .slice A2 s.ord.length c2, .int .i64 s.next, .int .u64 s.high.n, .int .i64 s.high.p]] w fun e w' => e = .returned (.bool r) ∧ Below w.heap.size w w' := by
  have HB := Lib.hid (below_alloc1 w (.cells #[.slice A1 s.con.length c1, .slice A2 s.ord.length c2, .int .i64 s.next, .int .u64 s.high.n, .int .i64 s.high.p] 38))
  have HM := Lib.hid (heap_alloc_new w (.cells #[.slice A1 s.con.length c1, .slice A2 s.ord.length c2, .int .i64 s.next, .int .u64 s.high.n, .int .i64 s.high.p] 38))
  have HX := Lib.hid (h1.below HB.out)
  have HY := Lib.hid (h2.below HB.out)
  have hlx := h1.1
  have hly := h2.1
  have HR := Lib.hid hr
  have HV := Lib.hid (fun W => ident_Form s.high W)
  have HT2 := Lib.hid (fun W (hW : Row kLab I W A2 s.ord) => HT (c := c2) hW hc2 hol)
  clear h1 h2 hr HT
  go_enter Try.func15, Try.ntmps15
  go_wp2
  generalize w.alloc (.cells #[.slice A1 s.con.length c1, .slice A2 s.ord.length c2, .int .i64 s.next, .int .u64 s.high.n, .int .i64 s.high.p] 38) = V at HB HM HX HY ⊢
  go_loopw [8] (fun k W => ∃ i : Nat, k = .int .i64 i ∧ i ≤ s.con.length ∧ FormTo s.con i ∧ RisTo s.con (i - 1) ∧ Below V.heap.size V W) (fun k _ => (s.con.length - intOf k).toNat)
  case atStart => exact ⟨0, rfl, by omega, FormTo.zero _, RisTo.zero _, Below.refl _ _⟩
  case round =>
    obtain ⟨i, rfl, hi, hni, hri, hb⟩ := hrel
    have HN := Lib.hid hni
    have HRI := Lib.hid hri
    have HW := Lib.hid hb
    obtain ⟨b0, b1, b2, b3, b4⟩ := cells5 (below_blk hb HM.out)
    clear hni hri hb
    by_cases hlt : i < s.con.length
    · obtain ⟨b, o, rfl, _, hcx⟩ := Row.ent (HX.out.below HW.out) (by intro hh; rw [hh] at hlt; simp at hlt)
      have ex := List.getElem?_eq_getElem (l := s.con) (i := i) hlt
      generalize s.con[i] = x at ex
      obtain ⟨B, c, hok, x0, x1, x2, x3, x4, _, _⟩ := hcx i x ex
      have HCX := Lib.hid hcx
      have EX := Lib.hid ex
      have hlt' : (i : Int) < s.con.length := by omega
      clear hcx ex
      have HB1 := Lib.hid (HW.out.trans ((below_alloc1 wr (.cells #[.int .u64 x.l.n, .int .i64 x.l.p, .int .u64 x.l.s, .int .i64 x.l.q, .slice B x.m.length c] 29)).mono HW.out.size))
      have HG := Lib.hid (fun d os => (HW.out.trans ((below_alloc1 wr (.cells #[.int .u64 x.l.n, .int .i64 x.l.p, .int .u64 x.l.s, .int .i64 x.l.q, .slice B x.m.length c] 29)).mono HW.out.size)).trans ((below_regrown (wr.alloc (.cells #[.int .u64 x.l.n, .int .i64 x.l.p, .int .u64 x.l.s, .int .i64 x.l.q, .slice B x.m.length c] 29)) d os).mono ((below_alloc1 wr (.cells #[.int .u64 x.l.n, .int .i64 x.l.p, .int .u64 x.l.s, .int .i64 x.l.q, .slice B x.m.length c] 29)).size |> Nat.le_trans HW.out.size)))
      obtain ⟨m0, m1, m2, m3, m4⟩ := cells5 (heap_alloc_new wr (.cells #[.int .u64 x.l.n, .int .i64 x.l.p, .int .u64 x.l.s, .int .i64 x.l.q, .slice B x.m.length c] 29))
      have m0 := fun d os => cell_regrown m0 d os
      have m1 := fun d os => cell_regrown m1 d os
      have m2 := fun d os => cell_regrown m2 d os
      have m3 := fun d os => cell_regrown m3 d os
      have m4 := fun d os => cell_regrown m4 d os
      have b0' := fun d os => cell_regrown (pw_cell (below_alloc1 wr (.cells #[.int .u64 x.l.n, .int .i64 x.l.p, .int .u64 x.l.s, .int .i64 x.l.q, .slice B x.m.length c] 29)) b0) d os
      have HF := Lib.hid (fun d os => Calls.regrown_of (content_Form (A := B) (c := c) x (grow (redrawn (wr.alloc (.cells #[.int .u64 x.l.n, .int .i64 x.l.p, .int .u64 x.l.s, .int .i64 x.l.q, .slice B x.m.length c] 29)) d) os)))
      rcases Nat.eq_zero_or_pos i with hi0 | hpos
      · have HI0 := Lib.hid hi0
        have hp3 : ¬ 0 < i := by omega
        have hp4 : decide (0 < i) = false := decide_eq_false hp3
        have hp5 : decide ((0 : Int) < (i : Int)) = false := decide_eq_false (by omega)
        clear hi0
        cases hf : x.form
        · rw [hf] at HF
          have HH := Lib.hid hf
          clear hf
          go_wp2_with fail
          refine wp_region_quiet_below (by kernel_rfl) (by kernel_rfl) ?_
          repeat (first | go_big_quiet_step (first | (go_at_call 8; exact HF.out _ _)) | quiet_step (first | (go_at_call 8; exact HF.out _ _)))
          refine wpQuiet_nil ?_
          intro _ hw'
          obtain ⟨⟨dq, osq⟩, hw''⟩ := hw'
          subst hw''
          dsimp only
          go_wp2
          go_ret
          refine ⟨right_no HR.out (fun hh => ?_), HB.out.trans ((HG.out _ _).mono HB.out.size)⟩
          have := hh.1 x (List.mem_of_getElem? EX.out)
          rw [HH.out] at this
          cases this
        · rw [hf] at HF
          have HH := Lib.hid hf
          clear hf
          go_wp2_with fail
          refine wp_region_quiet_below (by kernel_rfl) (by kernel_rfl) ?_
          repeat (first | go_big_quiet_step (first | (go_at_call 8; exact HF.out _ _)) | quiet_step (first | (go_at_call 8; exact HF.out _ _)))
          refine wpQuiet_nil ?_
          intro _ hw'
          obtain ⟨⟨dq, osq⟩, hw''⟩ := hw'
          subst hw''
          dsimp only
          go_wp2
          go_roundw
          case rel => exact ⟨i + 1, by go_num, by omega, HN.out.next EX.out HH.out, by rw [HI0.out]; exact RisTo.zero _, HG.out _ _⟩
          case measure => simp [intOf]; omega
      · obtain ⟨j, rfl⟩ : ∃ j, i = j + 1 := ⟨i - 1, by omega⟩
        have ey := List.getElem?_eq_getElem (l := s.con) (i := j) (by omega)
        generalize s.con[j] = y at ey
        obtain ⟨_, _, _, y0, y1, y2, y3, _⟩ := HCX.out j y ey
        have y0 := fun d os => cell_regrown (pw_cell (below_alloc1 wr (.cells #[.int .u64 x.l.n, .int .i64 x.l.p, .int .u64 x.l.s, .int .i64 x.l.q, .slice B x.m.length c] 29)) y0) d os
        have y1 := fun d os => cell_regrown (pw_cell (below_alloc1 wr (.cells #[.int .u64 x.l.n, .int .i64 x.l.p, .int .u64 x.l.s, .int .i64 x.l.q, .slice B x.m.length c] 29)) y1) d os
        have y2 := fun d os => cell_regrown (pw_cell (below_alloc1 wr (.cells #[.int .u64 x.l.n, .int .i64 x.l.p, .int .u64 x.l.s, .int .i64 x.l.q, .slice B x.m.length c] 29)) y2) d os
        have y3 := fun d os => cell_regrown (pw_cell (below_alloc1 wr (.cells #[.int .u64 x.l.n, .int .i64 x.l.p, .int .u64 x.l.s, .int .i64 x.l.q, .slice B x.m.length c] 29)) y3) d os
        have EY := Lib.hid ey
        have HC := Lib.hid (fun d os => Calls.regrown_of ((label_Compare y.l x.l (grow (redrawn (wr.alloc (.cells #[.int .u64 x.l.n, .int .i64 x.l.p, .int .u64 x.l.s, .int .i64 x.l.q, .slice B x.m.length c] 29)) d) os)).mono (R' := fun e w' => e = .returned (.int .i64 (y.l.cf x.l)) ∧ Below (grow (redrawn (wr.alloc (.cells #[.int .u64 x.l.n, .int .i64 x.l.p, .int .u64 x.l.s, .int .i64 x.l.q, .slice B x.m.length c] 29)) d) os).heap.size (grow (redrawn (wr.alloc (.cells #[.int .u64 x.l.n, .int .i64 x.l.p, .int .u64 x.l.s, .int .i64 x.l.q, .slice B x.m.length c] 29)) d) os) w') (fun _ _ ⟨p, q⟩ => ⟨p, q.below⟩)))
        have hcl : (0 ≤ y.l.cf x.l ∧ y.l.lt x.l = false) ∨ (y.l.cf x.l < 0 ∧ y.l.lt x.l = true) := by
          cases hh : y.l.lt x.l with
          | true => exact .inr ⟨(Lab.cf_lt _ _).2 hh, rfl⟩
          | false =>
            refine .inl ⟨?_, rfl⟩
            have := Lab.cf_lt y.l x.l
            rw [hh] at this
            simp at this
            exact this
        generalize y.l.cf x.l = r1 at HC hcl
        clear ey
        have hj1 : (j : Int) < s.con.length := by omega
        cases hf : x.form
        · rw [hf] at HF
          have HH := Lib.hid hf
          clear hf hcl
          go_wp2_with fail
          refine wp_region_quiet_below (by kernel_rfl) (by kernel_rfl) ?_
          repeat (first | go_big_quiet_step (first | (go_at_call 8; exact HF.out _ _) | (go_at_call 44; exact HC.out _ _)) | quiet_step (first | (go_at_call 8; exact HF.out _ _) | (go_at_call 44; exact HC.out _ _)))
          refine wpQuiet_nil ?_
          intro _ hw'
          obtain ⟨⟨dq, osq⟩, hw''⟩ := hw'
          subst hw''
          dsimp only
          go_wp2
          go_ret
          refine ⟨right_no HR.out (fun hh => ?_), HB.out.trans ((HG.out _ _).mono HB.out.size)⟩
          have := hh.1 x (List.mem_of_getElem? EX.out)
          rw [HH.out] at this
          cases this
        · rw [hf] at HF
          have HH := Lib.hid hf
          clear hf
          have hw1 : IntKind.i64.wrap (j : Int) = j := by rw [IntKind.wrap_i64]; omega
          have hp2 : ((j : Int) + 1).toNat = j + 1 := by omega
          have hp1 : (0 : Int) ≤ (j : Int) + 1 := by omega
          have hp3 : (0 : Int) < (j : Int) + 1 := by omega
          have hp4 : decide ((0 : Int) < (j : Int) + 1) = true := decide_eq_true hp3
          rcases hcl with ⟨hr1, hl⟩ | ⟨hr1, hl⟩
          · have HL := Lib.hid hl
            clear hl
            go_wp2_with fail
            refine wp_region_quiet_below (by kernel_rfl) (by kernel_rfl) ?_
            repeat (first | go_big_quiet_step (first | (go_at_call 8; exact HF.out _ _) | (go_at_call 44; exact HC.out _ _)) | quiet_step (first | (go_at_call 8; exact HF.out _ _) | (go_at_call 44; exact HC.out _ _)))
            refine wpQuiet_nil ?_
            intro _ hw'
            obtain ⟨⟨dq, osq⟩, hw''⟩ := hw'
            subst hw''
            dsimp only
            clear hw1 hp1 hp2 hp3 hp4
            go_wp2
            go_ret
            exact ⟨right_no HR.out (fun hh => Ris.not EY.out EX.out HL.out hh.2.1), HB.out.trans ((HG.out _ _).mono HB.out.size)⟩
          · have HL := Lib.hid hl
            clear hl
            go_wp2_with fail
            refine wp_region_quiet_below (by kernel_rfl) (by kernel_rfl) ?_
            repeat (first | go_big_quiet_step (first | (go_at_call 8; exact HF.out _ _) | (go_at_call 44; exact HC.out _ _)) | quiet_step (first | (go_at_call 8; exact HF.out _ _) | (go_at_call 44; exact HC.out _ _)))
            refine wpQuiet_nil ?_
            intro _ hw'
            obtain ⟨⟨dq, osq⟩, hw''⟩ := hw'
            subst hw''
            dsimp only
            clear hw1 hp1 hp2 hp3 hp4
            go_wp2
            go_roundw
            case rel => exact ⟨j + 1 + 1, by go_num, by omega, HN.out.next EX.out HH.out, HRI.out.next EY.out EX.out HL.out, HG.out _ _⟩
            case measure => simp [intOf]; omega
    · have hlt' : ¬ (i : Int) < s.con.length := by omega
      have HFA := Lib.hid (HN.out.all (by omega))
      have HRA := Lib.hid (HRI.out.ris (by omega))
      generalize hfh : s.high.form = fh at HV
      have HFH := Lib.hid hfh
      clear hfh
      by_cases hof : ∃ x ∈ s.ord, x.form = false
      · have HC := Lib.hid (contains_fn (c := c2) (HY.out.below HW.out) true (by simpa using hof))
        have HOF := Lib.hid hof
        clear hof
        go_wp2_with fail
        refine HC.out.mono ?_
        rintro e w1 ⟨rfl, hb1⟩
        have HW1 := Lib.hid (HW.out.trans (hb1.mono HW.out.size))
        obtain ⟨b0, b1, b2, b3, b4⟩ := cells5 (below_blk HW1.out HM.out)
        clear hb1
        go_wp2
        go_ret
        refine ⟨right_no HR.out (fun hh => ?_), HB.out.trans (HW1.out.mono HB.out.size)⟩
        obtain ⟨x, hx, hf⟩ := HOF.out
        have := hh.2.2.1 x hx
        rw [hf] at this
        cases this
      · have HC := Lib.hid (contains_fn (c := c2) (HY.out.below HW.out) false (by simpa using hof))
        have HOF := Lib.hid (show ∀ x ∈ s.ord, x.form = true from fun x hx => by
          cases hh : x.form with
          | true => rfl
          | false => exact absurd ⟨x, hx, hh⟩ hof)
        clear hof
        go_wp2_with fail
        refine HC.out.mono ?_
        rintro e w1 ⟨rfl, hb1⟩
        have HW1 := Lib.hid (HW.out.trans (hb1.mono HW.out.size))
        obtain ⟨b0, b1, b2, b3, b4⟩ := cells5 (below_blk HW1.out HM.out)
        clear hb1
        by_cases hnd : s.ord.Nodup
        · have HT3 := Lib.hid (HT2.out w1 (HY.out.below HW1.out))
          rw [decide_eq_false (by simpa using hnd)] at HT3
          have HND := Lib.hid hnd
          clear hnd
          go_wp2_with fail
          refine HT3.out.mono ?_
          rintro e w2 ⟨rfl, hb2⟩
          have HW2 := Lib.hid (HW1.out.trans (hb2.mono HW1.out.size))
          obtain ⟨b0, b1, b2, b3, b4⟩ := cells5 (below_blk HW2.out HM.out)
          clear hb2
          by_cases hn1 : 1 ≤ s.next
          · by_cases hn2 : s.next ≤ s.ord.length + 1
            · go_wp2_with fail
              refine (HV.out _).mono ?_
              rintro e w3 ⟨rfl, hb3⟩
              have HW3 := Lib.hid (HW2.out.trans (hb3.mono HW2.out.size))
              obtain ⟨b0, b1, b2, b3, b4⟩ := cells5 (below_blk HW3.out HM.out)
              clear hb3
              go_wp2
              go_ret
              refine ⟨ret_bool ?_, HB.out.trans (HW3.out.mono HB.out.size)⟩
              cases fh
              · exact (Bool.eq_false_iff.2 (fun hh => by have := (HR.out.1 hh).2.2.2.2.2.2; rw [HFH.out] at this; cases this)).symm
              · exact (HR.out.2 ⟨HFA.out, HRA.out, HOF.out, HND.out, hn1, hn2, HFH.out⟩).symm
            · go_wp2
              go_ret
              exact ⟨right_no HR.out (fun hh => by have := hh.2.2.2.2.2.1; omega), HB.out.trans (HW2.out.mono HB.out.size)⟩
          · go_wp2
            go_ret
            exact ⟨right_no HR.out (fun hh => by have := hh.2.2.2.2.1; omega), HB.out.trans (HW2.out.mono HB.out.size)⟩
        · have HT3 := Lib.hid (HT2.out w1 (HY.out.below HW1.out))
          rw [decide_eq_true hnd] at HT3
          have HND := Lib.hid hnd
          clear hnd
          go_wp2_with fail
          refine HT3.out.mono ?_
          rintro e w2 ⟨rfl, hb2⟩
          have HW2 := Lib.hid (HW1.out.trans (hb2.mono HW1.out.size))
          obtain ⟨b0, b1, b2, b3, b4⟩ := cells5 (below_blk HW2.out HM.out)
          clear hb2
          go_wp2
          go_ret
          exact ⟨right_no HR.out (fun hh => HND.out hh.2.2.2.1), HB.out.trans (HW2.out.mono HB.out.size)⟩
end Go.Proofs.Ytdgdiikijjlnnaa
