/- The walk of folkmootlaw15.ContentAll. -/
import Derived.Test.YtdgdiikijjlnnaaEall
import Derived.Test.YtdgdiikijjlnnaaCrd
import Derived.Test.YtdgdiikijjlnnaaOne
namespace Go.Proofs.Ytdgdiikijjlnnaa
open Go.RowKit Go.Sort M
theorem sEnc_len {s : Sum} (hs : s.ok) (hr : s.Right) (hm : s.con.length + s.ord.length ≤ 200) : (sEnc s).length ≤ 30000 := by
  obtain ⟨con, ord, next, high⟩ := s
  obtain ⟨r1, r2, r3, r4, r5, r6, r7⟩ := hr
  obtain ⟨k1, k2, k3⟩ := hs
  dsimp only at r1 r2 r3 r4 r5 r6 r7 k1 k2 k3 hm
  have a1 := flat_len (f := eEnc) (B := 96) (fun x hx => eEnc_len (k1 x hx) (r1 x hx)) con.length
  have a2 := flat_len (f := lEnc) (B := 22) (fun x hx => lEnc_len (k2 x hx)) ord.length
  have a3 := uEnc_len10 (n := con.length) (by omega)
  have a4 := uEnc_len10 (n := ord.length) (by omega)
  have a5 := uEnc_len10 (n := next.toNat) (by omega)
  have a6 := vEnc_len k3
  rw [List.take_length] at a1 a2
  simp only [sEnc, List.length_cons, List.length_append]
  omega
theorem sEnc_head (s : Sum) : ∃ r, sEnc s = 2 :: r := ⟨_, rfl⟩
set_option maxRecDepth 100000 in
set_option maxHeartbeats 4000000 in
theorem law_ContentAll {I : Nat → Prop} {A1 A2 : Option Addr} {c1 c2 : Nat} {s : Sum} {w : World} (h1 : Row kEnt I w A1 s.con) (h2 : Row kLab I w A2 s.ord) (hc2 : s.ord.length ≤ c2) (hv : s.high.ok) (hb1 : s.con.length ≤ 1000000000000000) (hb2 : s.ord.length ≤ 1000000000000000) :
    Calls Try.prog 5 #[.agg #[.slice A1 s.con.length c1, .slice A2 s.ord.length c2, .int .i64 s.next, .int .u64 s.high.n, .int .i64 s.high.p]] w fun e w' => e = .returned (.bool true) ∧ Below w.heap.size w w' := by
  have HB := Lib.hid (below_alloc1 w (.cells #[.slice A1 s.con.length c1, .slice A2 s.ord.length c2, .int .i64 s.next, .int .u64 s.high.n, .int .i64 s.high.p] 38))
  have HM := Lib.hid (heap_alloc_new w (.cells #[.slice A1 s.con.length c1, .slice A2 s.ord.length c2, .int .i64 s.next, .int .u64 s.high.n, .int .i64 s.high.p] 38))
  have HX := Lib.hid (h1.below HB.out)
  have HY := Lib.hid (h2.below HB.out)
  have HA := Lib.hid awake15
  have HOK := Lib.hid (show s.ok from ⟨row_ok h1, row_okl h2, hv⟩)
  clear h1 h2
  have hw1 : IntKind.i64.wrap ((s.con.length : Int) + s.ord.length) = (s.con.length : Int) + s.ord.length := by rw [IntKind.wrap_i64]; omega
  go_enter Try.func5, Try.ntmps5
  go_wp2_with fail
  have hV : (w.alloc (.cells #[.slice A1 s.con.length c1, .slice A2 s.ord.length c2, .int .i64 s.next, .int .u64 s.high.n, .int .i64 s.high.p] 38)).heap.size = w.heap.size + 1 := by simp
  generalize w.alloc (.cells #[.slice A1 s.con.length c1, .slice A2 s.ord.length c2, .int .i64 s.next, .int .u64 s.high.n, .int .i64 s.high.p] 38) = V at HB HM HX HY hV ⊢
  refine (HA.out _).mono ?_
  rintro e w1 ⟨rfl, hb1⟩
  have HB1 := Lib.hid hb1
  have HM1 := Lib.hid (below_blk hb1 HM.out)
  clear hb1
  obtain ⟨b0, b1, b2, b3, b4⟩ := cells5 HM1.out
  by_cases hm : s.con.length + s.ord.length ≤ 200
  · have hm' : ¬ (200 : Int) < (s.con.length : Int) + s.ord.length := by omega
    have hrr : ∃ r : Bool, r = true ↔ s.Right := by
      by_cases hh : s.Right
      · exact ⟨true, by simp [hh]⟩
      · exact ⟨false, by simp [hh]⟩
    obtain ⟨r, hr⟩ := hrr
    have HR := Lib.hid hr
    have HX1 := Lib.hid (HX.out.below HB1.out)
    have HY1 := Lib.hid (HY.out.below HB1.out)
    have HF := Lib.hid (fun d os => Calls.regrown_of (content_Right (c1 := c1) twice_says (HX1.out.below (below_regrown w1 d os)) (HY1.out.below (below_regrown w1 d os)) hc2 (by omega) r hr))
    have HG := Lib.hid (fun d os => Calls.regrown_of (ref15_Right (c1 := c1) (HX1.out.below (below_regrown w1 d os)) (HY1.out.below (below_regrown w1 d os)) hv hc2 (by omega) r hr))
    have a0 := fun d os => cell_regrown b0 d os
    have a1 := fun d os => cell_regrown b1 d os
    have a2 := fun d os => cell_regrown b2 d os
    have a3 := fun d os => cell_regrown b3 d os
    have a4 := fun d os => cell_regrown b4 d os
    clear hr
    go_wp2_with fail
    refine wp_region_quiet_below (by kernel_rfl) (by kernel_rfl) ?_
    repeat (first | go_big_quiet_step (first | (go_at_call 15; exact HF.out _ _) | (go_at_call 16; exact HG.out _ _)) | quiet_step (first | (go_at_call 15; exact HF.out _ _) | (go_at_call 16; exact HG.out _ _)))
    refine wpQuiet_nil ?_
    intro _ hw'
    obtain ⟨⟨dq, osq⟩, hw''⟩ := hw'
    subst hw''
    dsimp only
    clear a0 a1 a2 a3 a4 b0 b1 b2 b3 b4 HF HG
    have HB2 := Lib.hid (regrown_below HB1.out dq osq)
    have HM2 := Lib.hid (below_blk HB2.out HM.out)
    generalize grow (redrawn w1 dq) osq = W2 at HB2 HM2 ⊢
    obtain ⟨b0, b1, b2, b3, b4⟩ := cells5 HM2.out
    have HRF := Lib.hid (fun (W : World) (hb : Below V.heap.size V W) => ref15_Right (c1 := c1) (HX.out.below hb) (HY.out.below hb) hv hc2 (by omega) r HR.out)
    cases r
    · have HE := Lib.hid (content_EncodeAll_no (c1 := c1) (HX.out.below HB2.out) (HY.out.below HB2.out) hc2 (by omega) (fun hh => by have := HR.out.2 hh; cases this))
      go_wp2_with fail
      refine HE.out.mono ?_
      rintro e w3 ⟨rfl, hb3⟩
      have HB3 := Lib.hid (HB2.out.trans (hb3.mono HB2.out.size))
      clear hb3 b0 b1 b2 b3 b4
      obtain ⟨b0, b1, b2, b3, b4⟩ := cells5 (below_blk HB3.out HM.out)
      go_wp2_with fail
      refine (HRF.out _ HB3.out).mono ?_
      rintro e w4 ⟨rfl, hb4⟩
      have HB4 := Lib.hid (HB3.out.trans (hb4.mono HB3.out.size))
      clear hb4
      go_wp2
      go_ret
      exact ⟨rfl, HB.out.trans (HB4.out.mono HB.out.size)⟩
    · have HRI := Lib.hid (HR.out.1 rfl)
      have HE := Lib.hid (content_EncodeAll (c1 := c1) (HX.out.below HB2.out) (HY.out.below HB2.out) hc2 hv (by omega) (by omega) HRI.out)
      have hel := sEnc_len HOK.out HRI.out hm
      obtain ⟨P, hP⟩ := sEnc_head s
      rw [hP] at hel
      simp only [List.length_cons] at hel
      have hd := dSum_enc HOK.out HRI.out hP (by omega)
      have HO1 := Lib.hid (fun (W : World) (hb : Below V.heap.size V W) => ref15_All (c1 := c1) (c2 := c2) (HX.out.below hb) (HY.out.below hb) hv (by omega) (by omega) HRI.out)
      rw [hP] at HE HO1
      have HD := Lib.hid hd
      clear hd hP
      go_wp2_with fail
      refine HE.out.mono ?_
      rintro e w3 ⟨v3, rfl, ho3, hb3⟩
      have HB3 := Lib.hid (HB2.out.trans (hb3.mono HB2.out.size))
      obtain ⟨A3, c3, rfl, hc3, hr3⟩ := M.Own.sv ho3
      have HR3 := Lib.hid hr3.bound
      clear ho3 hb3 b0 b1 b2 b3 b4
      obtain ⟨b0, b1, b2, b3, b4⟩ := cells5 (below_blk HB3.out HM.out)
      go_wp2_with fail
      refine (HRF.out _ HB3.out).mono ?_
      rintro e w4 ⟨rfl, hb4⟩
      have HB4 := Lib.hid (HB3.out.trans (hb4.mono HB3.out.size))
      have HR4 := Lib.hid (HR3.out.below hb4)
      clear hb4 b0 b1 b2 b3 b4
      obtain ⟨b0, b1, b2, b3, b4⟩ := cells5 (below_blk HB4.out HM.out)
      have hdec := decode_all (c := c3) twice_says HR4.out (by simpa using hc3) (by omega) true (by simp [HD.out.1])
      simp only [if_true, HD.out.2] at hdec
      have HDEC := Lib.hid hdec
      clear hdec
      go_wp2_with fail
      refine HDEC.out.mono ?_
      rintro e w5 ⟨v1, v2, rfl, hv1, hv2, hb5⟩
      obtain ⟨B1, d1, rfl, hd1, hr1⟩ := hv1
      obtain ⟨B2, d2, rfl, hd2, hr2⟩ := hv2
      have HB5 := Lib.hid (HB4.out.trans (hb5.mono HB4.out.size))
      have HR5 := Lib.hid (HR4.out.below hb5)
      have HV1 := Lib.hid hr1
      have HV2 := Lib.hid hr2
      clear hb5 hr1 hr2 b0 b1 b2 b3 b4
      obtain ⟨b0, b1, b2, b3, b4⟩ := cells5 (below_blk HB5.out HM.out)
      go_wp2_with fail
      have hb6 : Below w5.heap.size w5 ((w5.alloc (.cells #[.int .u64 0, .int .i64 0, .int .u64 0, .int .i64 0, .slice none 0 0] 29)).alloc (.cells #[.slice B1 s.con.length d1, .slice B2 s.ord.length d2, .int .i64 s.next, .int .u64 s.high.n, .int .i64 s.high.p] 38)) := (below_alloc1 _ _).alloc (by simp) _
      have hB := HB5.out.trans (hb6.mono HB5.out.size)
      have hM := below_blk hB HM.out
      have hN := alloc_blk (heap_alloc_new w5 (.cells #[.int .u64 0, .int .i64 0, .int .u64 0, .int .i64 0, .slice none 0 0] 29)) (.cells #[.slice B1 s.con.length d1, .slice B2 s.ord.length d2, .int .i64 s.next, .int .u64 s.high.n, .int .i64 s.high.p] 38)
      have hO := heap_alloc_new (w5.alloc (.cells #[.int .u64 0, .int .i64 0, .int .u64 0, .int .i64 0, .slice none 0 0] 29)) (.cells #[.slice B1 s.con.length d1, .slice B2 s.ord.length d2, .int .i64 s.next, .int .u64 s.high.n, .int .i64 s.high.p] 38)
      rw [World.size_alloc] at hO
      have rp := HR5.out.below hb6
      have k1 := HV1.out.below hb6
      have k2 := HV2.out.below hb6
      have k3 := HX.out.below hB
      have k4 := HY.out.below hB
      generalize ((w5.alloc (.cells #[.int .u64 0, .int .i64 0, .int .u64 0, .int .i64 0, .slice none 0 0] 29)).alloc (.cells #[.slice B1 s.con.length d1, .slice B2 s.ord.length d2, .int .i64 s.next, .int .u64 s.high.n, .int .i64 s.high.p] 38)) = U at hB hM hN hO rp k1 k2 k3 k4 ⊢
      generalize w5.heap.size = z at hN hO k1 k2 ⊢
      have HBV := Lib.hid hB
      have heq := fun W => lab_eql ⟨0, 0, 0, 0⟩ ⟨0, 0, 0, 0⟩ W
      rw [decide_eq_true rfl] at heq
      have hst := str_toList
      have HK : Hid (∀ W, Below U.heap.size U W → (W.cell? ⟨w.heap.size, 0, none⟩ = some (.slice A1 s.con.length c1) ∧ W.cell? ⟨w.heap.size, 1, none⟩ = some (.slice A2 s.ord.length c2) ∧ W.cell? ⟨w.heap.size, 2, none⟩ = some (.int .i64 s.next) ∧ W.cell? ⟨w.heap.size, 3, none⟩ = some (.int .u64 s.high.n) ∧ W.cell? ⟨w.heap.size, 4, none⟩ = some (.int .i64 s.high.p) ∧
        W.cell? ⟨z, 0, none⟩ = some (.int .u64 0) ∧ W.cell? ⟨z, 1, none⟩ = some (.int .i64 0) ∧ W.cell? ⟨z, 2, none⟩ = some (.int .u64 0) ∧ W.cell? ⟨z, 3, none⟩ = some (.int .i64 0) ∧ W.cell? ⟨z, 4, none⟩ = some (.slice none 0 0) ∧
        W.cell? ⟨z + 1, 0, none⟩ = some (.slice B1 s.con.length d1) ∧ W.cell? ⟨z + 1, 1, none⟩ = some (.slice B2 s.ord.length d2) ∧ W.cell? ⟨z + 1, 2, none⟩ = some (.int .i64 s.next) ∧ W.cell? ⟨z + 1, 3, none⟩ = some (.int .u64 s.high.n) ∧ W.cell? ⟨z + 1, 4, none⟩ = some (.int .i64 s.high.p) ∧
        (convert 27 9 (.slice A3 (P.length + 1) c3)).run Try.prog W = .ok (.string (str (2 :: P))) W)) := Lib.hid (fun W hb => by
        obtain ⟨d0, d1, d2, d3, d4⟩ := cells5 (below_blk hb hM)
        obtain ⟨e0, e1, e2, e3, e4⟩ := cells5 (below_blk hb hN)
        obtain ⟨f0, f1, f2, f3, f4⟩ := cells5 (below_blk hb hO)
        have hcv := convert_str (c := c3) (rp.below hb)
        rw [List.length_cons] at hcv
        exact ⟨d0, d1, d2, d3, d4, e0, e1, e2, e3, e4, f0, f1, f2, f3, f4, hcv⟩)
      have HOV := Lib.hid (fun (W : World) (hb : Below U.heap.size U W) => HO1.out W (hB.trans (hb.mono hB.size)))
      have HAL := Lib.hid (fun (W : World) (hb : Below U.heap.size U W) => ref15_Alike (c1 := d1) (c2 := d2) (d1 := c1) (d2 := c2) (s := s) (t := s) ((k1.below hb).mono (J := fun _ => True) (fun _ _ => trivial)) ((k2.below hb).mono (J := fun _ => True) (fun _ _ => trivial)) ((k3.below hb).mono (J := fun _ => True) (fun _ _ => trivial)) ((k4.below hb).mono (J := fun _ => True) (fun _ _ => trivial)))
      simp only [decide_true] at HAL
      clear hb6 hB hM hN hO rp k1 k2 k3 k4 HR5 HV1 HV2 HB5 HDEC HR4 HB4 HR3 HB3 HE HO1 HRF HM2 HB2 HX1 HY1 HM1 HB1 b0 b1 b2 b3 b4 HX HY HM
      go_region_held (fun W => W.cell? ⟨w.heap.size, 0, none⟩ = some (.slice A1 s.con.length c1) ∧ W.cell? ⟨w.heap.size, 1, none⟩ = some (.slice A2 s.ord.length c2) ∧ W.cell? ⟨w.heap.size, 2, none⟩ = some (.int .i64 s.next) ∧ W.cell? ⟨w.heap.size, 3, none⟩ = some (.int .u64 s.high.n) ∧ W.cell? ⟨w.heap.size, 4, none⟩ = some (.int .i64 s.high.p) ∧
        W.cell? ⟨z, 0, none⟩ = some (.int .u64 0) ∧ W.cell? ⟨z, 1, none⟩ = some (.int .i64 0) ∧ W.cell? ⟨z, 2, none⟩ = some (.int .u64 0) ∧ W.cell? ⟨z, 3, none⟩ = some (.int .i64 0) ∧ W.cell? ⟨z, 4, none⟩ = some (.slice none 0 0) ∧
        W.cell? ⟨z + 1, 0, none⟩ = some (.slice B1 s.con.length d1) ∧ W.cell? ⟨z + 1, 1, none⟩ = some (.slice B2 s.ord.length d2) ∧ W.cell? ⟨z + 1, 2, none⟩ = some (.int .i64 s.next) ∧ W.cell? ⟨z + 1, 3, none⟩ = some (.int .u64 s.high.n) ∧ W.cell? ⟨z + 1, 4, none⟩ = some (.int .i64 s.high.p) ∧
        (convert 27 9 (.slice A3 (P.length + 1) c3)).run Try.prog W = .ok (.string (str (2 :: P))) W)
        (first
          | exact HK.out _ (Below.refl _ _).drew
          | exact HK.out _ (Below.refl _ _)
          | exact HK.out _ (Below.trans (Below.refl _ _).drew hb5)
          | exact HK.out _ (Below.trans (Below.trans (Below.refl _ _).drew hb5) (hb6.mono hb5.size)))
        (first
        | (go_simp
           go_at_call 18
           refine (HOV.out _ (Below.refl _ _).drew).mono ?_
           rintro e w5 ⟨v5, rfl, ho5, hb5⟩
           obtain ⟨A5, c5, e5, hc5, hr5⟩ := M.Own.sv ho5
           have hq5 := convert_str (c := c5) hr5
           rw [List.length_cons] at hq5 e5
           subst e5
           clear ho5 hr5)
        | (go_simp
           go_at_call 13
           refine (HAL.out _ (Below.trans (Below.refl _ _).drew hb5)).mono ?_
           rintro e w6 ⟨rfl, hb6⟩))
      all_goals go_wp2
      all_goals
        go_ret
        exact ⟨rfl, HB.out.trans ((HBV.out.trans ((Below.trans (Below.refl _ _).drew (hb5.trans (hb6.mono hb5.size))).mono HBV.out.size)).mono HB.out.size)⟩
  · have hm' : (200 : Int) < (s.con.length : Int) + s.ord.length := by omega
    go_wp2_with fail
    refine (HA.out _).mono ?_
    rintro e w2 ⟨rfl, hb2⟩
    go_wp2
    go_ret
    exact ⟨rfl, HB.out.trans ((HB1.out.trans (hb2.mono HB1.out.size)).mono HB.out.size)⟩
end Go.Proofs.Ytdgdiikijjlnnaa
