/- The walk of folkmootlaw15.ContentOne. -/
import Derived.Test.YtdgdiikijjlnnaaRefB
import Derived.Test.YtdgdiikijjlnnaaRefD
import Derived.Test.YtdgdiikijjlnnaaAwake
import Derived.Test.YtdgdiikijjlnnaaPlain1
import Derived.Lib.QuietBelow
import Derived.Deep.RegionHeld3
import Derived.Deep.DeepCutAuto
import Derived.Deep.CutBlock
namespace Go.Proofs.Ytdgdiikijjlnnaa
open Go.RowKit Go.Sort M
set_option maxRecDepth 100000 in
set_option maxHeartbeats 4000000 in
theorem law_ContentOne {I : Nat → Prop} {A : Option Addr} {c : Nat} (x : Ent) {w : World} (hx : x.l.ok) (hr : Row kByte I w A x.m) (hc : x.m.length ≤ c) :
    Calls Try.prog 3 #[.agg #[.int .u64 x.l.n, .int .i64 x.l.p, .int .u64 x.l.s, .int .i64 x.l.q, .slice A x.m.length c]] w fun e w' => e = .returned (.bool true) ∧ Below w.heap.size w w' := by
  have HR := Lib.hid hr.bound
  have HA := Lib.hid (fun d os => Calls.regrown_of (awake15 (grow (redrawn (w.alloc (.cells #[.int .u64 x.l.n, .int .i64 x.l.p, .int .u64 x.l.s, .int .i64 x.l.q, .slice A x.m.length c] 29)) d) os)))
  have HF := Lib.hid (fun d os => Calls.regrown_of (content_Form (A := A) (c := c) x (grow (redrawn (w.alloc (.cells #[.int .u64 x.l.n, .int .i64 x.l.p, .int .u64 x.l.s, .int .i64 x.l.q, .slice A x.m.length c] 29)) d) os)))
  have HG := Lib.hid (fun d os => Calls.regrown_of (ref15_Form (A := A) (c := c) x hx (grow (redrawn (w.alloc (.cells #[.int .u64 x.l.n, .int .i64 x.l.p, .int .u64 x.l.s, .int .i64 x.l.q, .slice A x.m.length c] 29)) d) os)))
  have HG2 := Lib.hid (fun W => ref15_Form (A := A) (c := c) x hx W)
  have HE := Lib.hid (fun W => content_EncodeOne_no (A := A) (c := c) x W)
  have HE1 := Lib.hid (fun (W : World) (hW : Row kByte (fun k => I k ∧ k < w.heap.size) W A x.m) => content_EncodeOne x W hx hW hc)
  have HB0 := Lib.hid (below_alloc1 w (.cells #[.int .u64 x.l.n, .int .i64 x.l.p, .int .u64 x.l.s, .int .i64 x.l.q, .slice A x.m.length c] 29))
  have HM0 := Lib.hid (heap_alloc_new w (.cells #[.int .u64 x.l.n, .int .i64 x.l.p, .int .u64 x.l.s, .int .i64 x.l.q, .slice A x.m.length c] 29))
  have hD := fun h => d1_enc (x := x) hx h
  have HO1 := Lib.hid (fun (W : World) (hW : Row kByte (fun k => I k ∧ k < w.heap.size) W A x.m) => ref15_One x hx hW hc)
  have hee : x.form = true → (eEnc x).length ≤ 200 := fun h => by
    have h64 : x.l.form = true ∧ x.m.length ≤ 64 := by simpa [Ent.form] using h
    have hl := lEnc_len hx
    have h10 := uEnc_len10 (n := x.m.length) (by omega)
    simp [eEnc]
    omega
  clear hr
  generalize hfm : x.form = fm at HF HG HG2 HE HE1 HO1 hD hee
  generalize eEnc x = ee at HE1 HO1 hD hee
  have hst := str_toList
  obtain ⟨⟨n, p, s, q⟩, m⟩ := x
  dsimp only at HR HA HF HG HG2 HE HE1 HB0 HM0 HO1 hc ⊢
  cases fm
  · go_enter Try.func3, Try.ntmps3
    go_wp2_with fail
    obtain ⟨b0, b1, b2, b3, b4⟩ := cells5 HM0.out
    have a0 := fun d os => cell_regrown b0 d os
    have a1 := fun d os => cell_regrown b1 d os
    have a2 := fun d os => cell_regrown b2 d os
    have a3 := fun d os => cell_regrown b3 d os
    have a4 := fun d os => cell_regrown b4 d os
    refine wp_region_quiet_below (by kernel_rfl) (by kernel_rfl) ?_
    repeat (quiet_step (first | (go_at_call 7; exact HA.out _ _) | (go_at_call 8; exact HF.out _ _) | (go_at_call 9; exact HG.out _ _)))
    refine wpQuiet_nil ?_
    intro _ hw'
    obtain ⟨⟨dq, osq⟩, hw''⟩ := hw'
    subst hw''
    have hB := HB0.out.trans ((below_regrown (w.alloc (.cells #[.int .u64 n, .int .i64 p, .int .u64 s, .int .i64 q, .slice A m.length c] 29)) dq osq).mono (by simp))
    have hM := below_blk (below_regrown (w.alloc (.cells #[.int .u64 n, .int .i64 p, .int .u64 s, .int .i64 q, .slice A m.length c] 29)) dq osq) HM0.out
    clear a0 a1 a2 a3 a4 b0 b1 b2 b3 b4 HA HF HG
    dsimp only
    generalize grow (redrawn (w.alloc (.cells #[.int .u64 n, .int .i64 p, .int .u64 s, .int .i64 q, .slice A m.length c] 29)) dq) osq = W at hB hM ⊢
    obtain ⟨b0, b1, b2, b3, b4⟩ := cells5 hM
    have HB1 := Lib.hid hB
    have HM1 := Lib.hid hM
    clear hB hM
    go_wp2_with fail
    refine (HE.out _ (by simp)).mono ?_
    rintro e w1 ⟨rfl, hb1⟩
    have hB := HB1.out.trans (hb1.mono HB1.out.size)
    have hM := below_blk hb1 HM1.out
    obtain ⟨b0, b1, b2, b3, b4⟩ := cells5 hM
    have HB2 := Lib.hid hB
    clear hb1 hB hM
    go_wp2_with fail
    refine (HG2.out _).mono ?_
    rintro e w2 ⟨rfl, hb2⟩
    have HB3 := Lib.hid (HB2.out.trans (hb2.mono HB2.out.size))
    clear hb2
    go_wp2
    go_ret
    exact ⟨rfl, HB3.out⟩
  · go_enter Try.func3, Try.ntmps3
    go_wp2_with fail
    obtain ⟨b0, b1, b2, b3, b4⟩ := cells5 HM0.out
    have a0 := fun d os => cell_regrown b0 d os
    have a1 := fun d os => cell_regrown b1 d os
    have a2 := fun d os => cell_regrown b2 d os
    have a3 := fun d os => cell_regrown b3 d os
    have a4 := fun d os => cell_regrown b4 d os
    refine wp_region_quiet_below (by kernel_rfl) (by kernel_rfl) ?_
    repeat (quiet_step (first | (go_at_call 7; exact HA.out _ _) | (go_at_call 8; exact HF.out _ _) | (go_at_call 9; exact HG.out _ _)))
    refine wpQuiet_nil ?_
    intro _ hw'
    obtain ⟨⟨dq, osq⟩, hw''⟩ := hw'
    subst hw''
    have hB := HB0.out.trans ((below_regrown (w.alloc (.cells #[.int .u64 n, .int .i64 p, .int .u64 s, .int .i64 q, .slice A m.length c] 29)) dq osq).mono (by simp))
    have hM := below_blk (below_regrown (w.alloc (.cells #[.int .u64 n, .int .i64 p, .int .u64 s, .int .i64 q, .slice A m.length c] 29)) dq osq) HM0.out
    clear a0 a1 a2 a3 a4 b0 b1 b2 b3 b4 HA HF HG
    dsimp only
    generalize grow (redrawn (w.alloc (.cells #[.int .u64 n, .int .i64 p, .int .u64 s, .int .i64 q, .slice A m.length c] 29)) dq) osq = W at hB hM ⊢
    obtain ⟨b0, b1, b2, b3, b4⟩ := cells5 hM
    have HB1 := Lib.hid hB
    have HM1 := Lib.hid hM
    clear hB hM
    go_wp2_with fail
    refine (HE1.out _ (HR.out.below HB1.out) (by simp)).mono ?_
    rintro e w1 ⟨v1, rfl, ho1, hb1⟩
    have hB := HB1.out.trans (hb1.mono HB1.out.size)
    have hM := below_blk hb1 HM1.out
    obtain ⟨b0, b1, b2, b3, b4⟩ := cells5 hM
    have HB2 := Lib.hid hB
    have HM2 := Lib.hid hM
    obtain ⟨A1, c1, rfl, hc1, hr1⟩ := M.Own.sv ho1
    have HR1 := Lib.hid hr1.bound
    clear hb1 hB hM ho1
    go_wp2_with fail
    refine (HG2.out _).mono ?_
    rintro e w2 ⟨rfl, hb2⟩
    have hB := HB2.out.trans (hb2.mono HB2.out.size)
    have hM := below_blk hb2 HM2.out
    obtain ⟨b0, b1, b2, b3, b4⟩ := cells5 hM
    have HB3 := Lib.hid hB
    have HM3 := Lib.hid hM
    have HR2 := Lib.hid (HR1.out.below hb2)
    clear hb2 hB hM
    have hle : ee.length ≤ 200 := hee (by simp)
    have hd1 : d1 ee = (⟨⟨n, p, s, q⟩, m⟩, true) := hD (by simp)
    have hdk : d1k ee = 1 := by unfold d1k; rw [hd1]; rfl
    have hde : d1e ee = 0 := by unfold d1e; rw [hd1]; rfl
    have hdec := decode_one (w := w2) (c := c1) HR2.out hc1 (by omega)
    rw [hd1, hdk, hde] at hdec
    have HDEC := Lib.hid hdec
    clear hdec hd1 hdk hde hD hee
    go_wp2_with fail
    refine HDEC.out.mono ?_
    rintro e w3 ⟨v3, rfl, hv3, hb3⟩
    have hB := HB3.out.trans (hb3.mono HB3.out.size)
    have hM := below_blk hb3 HM3.out
    obtain ⟨b0, b1, b2, b3, b4⟩ := cells5 hM
    have HB4 := Lib.hid hB
    have HM4 := Lib.hid hM
    have HR3 := Lib.hid (HR2.out.below hb3)
    obtain ⟨A3, c3, rfl, hc3, hr3⟩ := hv3
    have HV3 := Lib.hid hr3.bound
    clear hb3 hB hM hr3
    go_wp2_with fail
    have hB := HB4.out.trans ((below_alloc1 w3 (.cells #[.int .u64 n, .int .i64 p, .int .u64 s, .int .i64 q, .slice A3 m.length c3] 29)).mono HB4.out.size) |>.alloc (by have := HB4.out.size; simp; omega) (.cells #[.slice none 0 0, .slice none 0 0, .int .i64 0, .int .u64 0, .int .i64 0] 38)
    have hM := alloc_blk (alloc_blk HM4.out (.cells #[.int .u64 n, .int .i64 p, .int .u64 s, .int .i64 q, .slice A3 m.length c3] 29)) (.cells #[.slice none 0 0, .slice none 0 0, .int .i64 0, .int .u64 0, .int .i64 0] 38)
    have hN := alloc_blk (heap_alloc_new w3 (.cells #[.int .u64 n, .int .i64 p, .int .u64 s, .int .i64 q, .slice A3 m.length c3] 29)) (.cells #[.slice none 0 0, .slice none 0 0, .int .i64 0, .int .u64 0, .int .i64 0] 38)
    have hO := heap_alloc_new (w3.alloc (.cells #[.int .u64 n, .int .i64 p, .int .u64 s, .int .i64 q, .slice A3 m.length c3] 29)) (.cells #[.slice none 0 0, .slice none 0 0, .int .i64 0, .int .u64 0, .int .i64 0] 38)
    rw [World.size_alloc] at hO
    have hb5 : Below w3.heap.size w3 ((w3.alloc (.cells #[.int .u64 n, .int .i64 p, .int .u64 s, .int .i64 q, .slice A3 m.length c3] 29)).alloc (.cells #[.slice none 0 0, .slice none 0 0, .int .i64 0, .int .u64 0, .int .i64 0] 38)) := (below_alloc1 _ _).alloc (by simp) _
    have rp := HR3.out.below hb5
    have ry := HV3.out.below hb5
    have rx := HR.out.below hB
    generalize ((w3.alloc (.cells #[.int .u64 n, .int .i64 p, .int .u64 s, .int .i64 q, .slice A3 m.length c3] 29)).alloc (.cells #[.slice none 0 0, .slice none 0 0, .int .i64 0, .int .u64 0, .int .i64 0] 38)) = V at hB hM hN hO rp ry rx ⊢
    generalize w3.heap.size = z at hN hO ⊢
    have HBV := Lib.hid hB
    have heq := fun W => lab_eql ⟨n, p, s, q⟩ ⟨n, p, s, q⟩ W
    rw [decide_eq_true rfl] at heq
    have HK : Hid (∀ W, Below V.heap.size V W → (W.cell? ⟨w.heap.size, 0, none⟩ = some (.int .u64 n) ∧ W.cell? ⟨w.heap.size, 1, none⟩ = some (.int .i64 p) ∧ W.cell? ⟨w.heap.size, 2, none⟩ = some (.int .u64 s) ∧ W.cell? ⟨w.heap.size, 3, none⟩ = some (.int .i64 q) ∧ W.cell? ⟨w.heap.size, 4, none⟩ = some (.slice A m.length c) ∧
        W.cell? ⟨z, 0, none⟩ = some (.int .u64 n) ∧ W.cell? ⟨z, 1, none⟩ = some (.int .i64 p) ∧ W.cell? ⟨z, 2, none⟩ = some (.int .u64 s) ∧ W.cell? ⟨z, 3, none⟩ = some (.int .i64 q) ∧ W.cell? ⟨z, 4, none⟩ = some (.slice A3 m.length c3) ∧
        W.cell? ⟨z + 1, 0, none⟩ = some (.slice none 0 0) ∧ W.cell? ⟨z + 1, 1, none⟩ = some (.slice none 0 0) ∧ W.cell? ⟨z + 1, 2, none⟩ = some (.int .i64 0) ∧ W.cell? ⟨z + 1, 3, none⟩ = some (.int .u64 0) ∧ W.cell? ⟨z + 1, 4, none⟩ = some (.int .i64 0) ∧
        (convert 27 9 (.slice A1 (ee.length + 1) c1)).run Try.prog W = .ok (.string (str (1 :: ee))) W ∧
        (convert 27 9 (.slice A m.length c)).run Try.prog W = .ok (.string (str m)) W ∧
        (convert 27 9 (.slice A3 m.length c3)).run Try.prog W = .ok (.string (str m)) W)) := Lib.hid (fun W hb => by
      obtain ⟨d0, d1, d2, d3, d4⟩ := cells5 (below_blk hb hM)
      obtain ⟨e0, e1, e2, e3, e4⟩ := cells5 (below_blk hb hN)
      obtain ⟨f0, f1, f2, f3, f4⟩ := cells5 (below_blk hb hO)
      exact ⟨d0, d1, d2, d3, d4, e0, e1, e2, e3, e4, f0, f1, f2, f3, f4, convert_str (rp.below hb), convert_str (rx.below hb), convert_str (ry.below hb)⟩)
    have HOV := Lib.hid (fun (W : World) (hb : Below V.heap.size V W) => HO1.out W (rx.below hb) (by simp))
    clear hb5 hB hM hN hO rp ry rx HR3 HV3 HR HM4 HB4 HM3 HB3 HM2 HB2 HM1 HB1 HM0 HR1 HR2 HB0 HDEC HE HE1 HG2 HO1 hfm hx hc hle hc1 hc3
    go_region_held (fun W => W.cell? ⟨w.heap.size, 0, none⟩ = some (.int .u64 n) ∧ W.cell? ⟨w.heap.size, 1, none⟩ = some (.int .i64 p) ∧ W.cell? ⟨w.heap.size, 2, none⟩ = some (.int .u64 s) ∧ W.cell? ⟨w.heap.size, 3, none⟩ = some (.int .i64 q) ∧ W.cell? ⟨w.heap.size, 4, none⟩ = some (.slice A m.length c) ∧
        W.cell? ⟨z, 0, none⟩ = some (.int .u64 n) ∧ W.cell? ⟨z, 1, none⟩ = some (.int .i64 p) ∧ W.cell? ⟨z, 2, none⟩ = some (.int .u64 s) ∧ W.cell? ⟨z, 3, none⟩ = some (.int .i64 q) ∧ W.cell? ⟨z, 4, none⟩ = some (.slice A3 m.length c3) ∧
        W.cell? ⟨z + 1, 0, none⟩ = some (.slice none 0 0) ∧ W.cell? ⟨z + 1, 1, none⟩ = some (.slice none 0 0) ∧ W.cell? ⟨z + 1, 2, none⟩ = some (.int .i64 0) ∧ W.cell? ⟨z + 1, 3, none⟩ = some (.int .u64 0) ∧ W.cell? ⟨z + 1, 4, none⟩ = some (.int .i64 0) ∧
        (convert 27 9 (.slice A1 (ee.length + 1) c1)).run Try.prog W = .ok (.string (str (1 :: ee))) W ∧
        (convert 27 9 (.slice A m.length c)).run Try.prog W = .ok (.string (str m)) W ∧
        (convert 27 9 (.slice A3 m.length c3)).run Try.prog W = .ok (.string (str m)) W)
      (first
        | exact HK.out _ (Below.refl _ _).drew
        | exact HK.out _ (Below.refl _ _)
        | exact HK.out _ (Below.trans (Below.refl _ _).drew hb5)
        | exact HK.out _ (Below.trans (Below.trans (Below.refl _ _).drew hb5) (hb6.mono hb5.size)))
      (first
      | (go_simp
         go_at_call 12
         refine (HOV.out _ (Below.refl _ _).drew).mono ?_
         rintro e w5 ⟨v5, rfl, ho5, hb5⟩
         obtain ⟨A5, c5, e5, hc5, hr5⟩ := M.Own.sv ho5
         have hq5 := convert_str (c := c5) hr5
         rw [List.length_cons] at hq5 e5
         subst e5
         clear ho5 hr5)
      | (go_simp
         go_at_call 13
         refine (ref15_Alike (I := fun _ => True) (s := ⟨[], [], 0, ⟨0, 0⟩⟩) (t := ⟨[], [], 0, ⟨0, 0⟩⟩) (Row.nil _ _ _ _) (Row.nil _ _ _ _) (Row.nil _ _ _ _) (Row.nil _ _ _ _)).mono ?_
         rintro e w6 ⟨rfl, hb6⟩))
    all_goals go_wp2
    all_goals
      go_ret
      exact ⟨rfl, HBV.out.trans ((Below.trans (Below.refl _ _).drew (hb5.trans (hb6.mono hb5.size))).mono HBV.out.size)⟩
