/- content.EncodeAll: a right summary as bytes. -/
import Derived.Test.YtdgdiikijjlnnaaTw
namespace Go.Proofs.Ytdgdiikijjlnnaa
open Go.RowKit Go.Sort M
set_option maxHeartbeats 1000000 in
theorem content_EncodeAll_no {I : Nat → Prop} {A1 A2 : Option Addr} {c1 c2 : Nat} {s : Sum} {w : World} (h1 : Row kEnt I w A1 s.con) (h2 : Row kLab I w A2 s.ord) (hc2 : s.ord.length ≤ c2) (hol : s.ord.length ≤ 1000000) (hr : ¬ s.Right) :
    Calls Try.prog 17 #[.agg #[.slice A1 s.con.length c1, .slice A2 s.ord.length c2, .int .i64 s.next, .int .u64 s.high.n, .int .i64 s.high.p]] w fun e w' => e = .returned (.tuple #[.slice none 0 0, .int .i64 3]) ∧ Below w.heap.size w w' := by
  have HB := Lib.hid (below_alloc1 w (.cells #[.slice A1 s.con.length c1, .slice A2 s.ord.length c2, .int .i64 s.next, .int .u64 s.high.n, .int .i64 s.high.p] 38))
  have HG := Lib.hid (content_Right (c1 := c1) twice_says (h1.below HB.out) (h2.below HB.out) hc2 hol false (by simp [hr]))
  clear h1 h2 hr
  go_enter Try.func17, Try.ntmps17
  go_wp2_with fail
  refine HG.out.mono ?_
  rintro e w1 ⟨rfl, hb1⟩
  have HB1 := Lib.hid (HB.out.trans (hb1.mono HB.out.size))
  clear hb1
  go_wp2
  go_ret2
  exact ⟨rfl, HB1.out⟩
set_option maxRecDepth 100000 in
set_option maxHeartbeats 4000000 in
theorem content_EncodeAll {I : Nat → Prop} {A1 A2 : Option Addr} {c1 c2 : Nat} {s : Sum} {w : World} (h1 : Row kEnt I w A1 s.con) (h2 : Row kLab I w A2 s.ord) (hc2 : s.ord.length ≤ c2) (hv : s.high.ok) (hcl : s.con.length ≤ 1000000) (hol : s.ord.length ≤ 1000000) (hr : s.Right) :
    Calls Try.prog 17 #[.agg #[.slice A1 s.con.length c1, .slice A2 s.ord.length c2, .int .i64 s.next, .int .u64 s.high.n, .int .i64 s.high.p]] w fun e w' => ∃ v, e = .returned (.tuple #[v, .int .i64 0]) ∧ OwnB w' w.heap.size v (sEnc s) ∧ Below w.heap.size w w' := by
  have HB := Lib.hid (below_alloc1 w (.cells #[.slice A1 s.con.length c1, .slice A2 s.ord.length c2, .int .i64 s.next, .int .u64 s.high.n, .int .i64 s.high.p] 38))
  have HM := Lib.hid (heap_alloc_new w (.cells #[.slice A1 s.con.length c1, .slice A2 s.ord.length c2, .int .i64 s.next, .int .u64 s.high.n, .int .i64 s.high.p] 38))
  have HX := Lib.hid (h1.bound.below HB.out)
  have HY := Lib.hid (h2.bound.below HB.out)
  have HG := Lib.hid (content_Right (c1 := c1) twice_says HX.out HY.out hc2 hol true (by simp [hr]))
  have HS := Lib.hid (sEnc.eq_1 s)
  have HR := Lib.hid hr
  clear h1 h2 hr
  go_enter Try.func17, Try.ntmps17
  go_wp2_with fail
  have hV : (w.alloc (.cells #[.slice A1 s.con.length c1, .slice A2 s.ord.length c2, .int .i64 s.next, .int .u64 s.high.n, .int .i64 s.high.p] 38)).heap.size = w.heap.size + 1 := by simp
  generalize w.alloc (.cells #[.slice A1 s.con.length c1, .slice A2 s.ord.length c2, .int .i64 s.next, .int .u64 s.high.n, .int .i64 s.high.p] 38) = V at HB HM HX HY HG hV ⊢
  have hmb := fun (W : World) (hb : Below (w.heap.size + 1) V W) => cells5 ((hb.block w.heap.size (by omega)).trans HM.out)
  have HMB := Lib.hid hmb
  have HXB := Lib.hid (fun (W : World) (hb : Below (w.heap.size + 1) V W) => HX.out.below (below_mono' hb hV))
  have HYB := Lib.hid (fun (W : World) (hb : Below (w.heap.size + 1) V W) => HY.out.below (below_mono' hb hV))
  clear hmb
  refine HG.out.mono ?_
  rintro e w1 ⟨rfl, hb1⟩
  rw [hV] at hb1
  have HB1 := Lib.hid hb1
  have hz1 := hb1.size
  rw [hV] at hz1
  obtain ⟨b0, b1, b2, b3, b4⟩ := HMB.out _ hb1
  have HO0 := Lib.hid (own_lit1 w1 (w.heap.size + 1) hz1 2 2 rfl)
  have HB0 := Lib.hid (hb1.trans ((below_alloc1 w1 (.cells #[.int .u8 2] 5)).mono hz1))
  have HFC := Lib.hid HR.out.1
  have HFO := Lib.hid HR.out.2.2.1
  have HKC := Lib.hid (row_ok HX.out)
  have HKO := Lib.hid (row_okl HY.out)
  have hz0 : w.heap.size < w1.heap.size := by omega
  clear hb1
  go_wp2_with fail
  refine (code_Uint (n := s.con.length) HO0.out (by simp; omega) (by simp) (by omega)).mono ?_
  rintro e w2 ⟨v2, rfl, ho2, hg2⟩
  have HO2 := Lib.hid ho2
  have HB2 := Lib.hid (HB0.out.trans (hg2.base (by simp; omega) (fun k hk => (HO0.out.lt k hk).1)))
  have h10 := uEnc_len10 (n := s.con.length) (by omega)
  have h10o := uEnc_len10 (n := s.ord.length) (by omega)
  clear ho2 hg2 HO0 HB0 HB1 b0 b1 b2 b3 b4
  obtain ⟨b0, b1, b2, b3, b4⟩ := HMB.out _ HB2.out
  go_wp2
  clear b0 b1 b2 b3 b4
  go_loopw [4, 21] (fun p k W => ∃ i : Nat, k = .int .i64 i ∧ i ≤ s.con.length ∧ OwnB W (w.heap.size + 1) p (2 :: uEnc s.con.length ++ (s.con.take i).flatMap eEnc) ∧ Below (w.heap.size + 1) V W) (fun _ k _ => (s.con.length - intOf k).toNat)
  case atStart => exact ⟨0, rfl, by omega, by simpa using HO2.out, HB2.out⟩
  case round =>
    clear HO2 HB2
    obtain ⟨i, rfl, hi, ho, hb⟩ := hrel
    have HO := Lib.hid ho
    have HW := Lib.hid hb
    have hz := hb.size
    rw [hV] at hz
    obtain ⟨b0, b1, b2, b3, b4⟩ := HMB.out _ hb
    have hfl := flat_len (f := eEnc) (B := 96) (fun x hx => eEnc_len (HKC.out x hx) (HFC.out x hx)) i
    clear ho hb
    by_cases hlt : i < s.con.length
    · obtain ⟨b, o, rfl, _, hcx⟩ := Row.ent (HXB.out _ HW.out) (by intro hh; rw [hh] at hlt; simp at hlt)
      have ex := List.getElem?_eq_getElem (l := s.con) (i := i) hlt
      generalize s.con[i] = x at ex
      obtain ⟨B, c, hok, x0, x1, x2, x3, x4, hlc, hrx⟩ := hcx i x ex
      have hlt' : (i : Int) < s.con.length := by omega
      have hfx := HFC.out x (List.mem_of_getElem? ex)
      have hfx' : x.l.form = true ∧ x.m.length ≤ 64 := by simpa [Ent.form] using hfx
      have h64 := hfx'.2
      have HEX := Lib.hid (flat_next (f := eEnc) ex)
      have HEE := Lib.hid (eEnc.eq_1 x)
      have hxl := lEnc_len hok
      have HRX := Lib.hid hrx
      have HA := Lib.hid (HO.out.below (below_alloc1 wr (.cells #[.int .u64 x.l.n, .int .i64 x.l.p, .int .u64 x.l.s, .int .i64 x.l.q, .slice B x.m.length c] 29)))
      have HBA := Lib.hid (HW.out.trans ((below_alloc1 wr (.cells #[.int .u64 x.l.n, .int .i64 x.l.p, .int .u64 x.l.s, .int .i64 x.l.q, .slice B x.m.length c] 29)).mono hz))
      have HMA := Lib.hid (heap_alloc_new wr (.cells #[.int .u64 x.l.n, .int .i64 x.l.p, .int .u64 x.l.s, .int .i64 x.l.q, .slice B x.m.length c] 29))
      have HLE := Lib.hid (label_Encode (x := x.l) HA.out (by simp; omega) (by simp only [List.length_cons, List.length_append]; omega) hok hfx'.1)
      clear ex hcx hrx hfx hfx'
      go_wp2_with fail
      refine HLE.out.mono ?_
      rintro e w3 ⟨v3, rfl, ho3, hg3⟩
      have hma := mod_blk hg3.mod HMA.out (fun hk => by have := (HO.out.lt _ hk).2; omega)
      have HO3 := Lib.hid ho3
      have HB3 := Lib.hid (HBA.out.trans (hg3.base (by simp; omega) (fun k hk => (HA.out.lt k hk).1)))
      have hz3 := HB3.out.size
      rw [hV] at hz3
      obtain ⟨d0, d1, d2, d3, d4⟩ := cells5 hma
      have HRY := Lib.hid (HRX.out.step (w' := w3) (fun k hk _ => (HB3.out.block k (by have := hk.2; omega)).trans (HW.out.block k (by have := hk.2; omega)).symm))
      clear ho3 hg3 hma
      go_wp2_with fail
      refine (code_Bytes HO3.out hz3 (by simp only [List.length_cons, List.length_append]; omega) HRY.out hlc (fun k hk e => by have := (HO3.out.lt _ e).1; have := hk.2; omega) (by omega)).mono ?_
      rintro e w4 ⟨v4, rfl, ho4, hg4⟩
      have HO4 := Lib.hid ho4
      have HB4 := Lib.hid (HB3.out.trans (hg4.base hz3 (fun k hk => (HO3.out.lt k hk).1)))
      clear ho4 hg4
      go_wp2
      go_roundw
      case rel => exact ⟨i + 1, by go_num, by omega, by rw [HEX.out, HEE.out]; simpa using HO4.out, HB4.out⟩
      case measure => simp [intOf]; omega
    · have hlt' : ¬ (i : Int) < s.con.length := by omega
      have ho2 := HO.out
      rw [List.take_of_length_le (by omega)] at ho2
      have HO2 := Lib.hid ho2
      have hl2 : (s.con.flatMap eEnc).length ≤ 96000000 := by
        have := flat_len (f := eEnc) (B := 96) (fun x hx => eEnc_len (HKC.out x hx) (HFC.out x hx)) s.con.length
        rw [List.take_length] at this
        omega
      clear ho2 HO
      go_wp2_with fail
      refine (code_Uint (n := s.ord.length) HO2.out hz (by simp only [List.length_cons, List.length_append]; omega) (by omega)).mono ?_
      rintro e w2 ⟨v2, rfl, ho2, hg2⟩
      have HO3 := Lib.hid ho2
      have HB3 := Lib.hid (HW.out.trans (hg2.base hz (fun k hk => (HO2.out.lt k hk).1)))
      clear ho2 hg2 HO2 HW hfl b0 b1 b2 b3 b4
      obtain ⟨b0, b1, b2, b3, b4⟩ := HMB.out _ HB3.out
      go_wp2
      clear b0 b1 b2 b3 b4
      go_loopw [4, 46] (fun p k W => ∃ i : Nat, k = .int .i64 i ∧ i ≤ s.ord.length ∧ OwnB W (w.heap.size + 1) p (2 :: uEnc s.con.length ++ s.con.flatMap eEnc ++ uEnc s.ord.length ++ (s.ord.take i).flatMap lEnc) ∧ Below (w.heap.size + 1) V W) (fun _ k _ => (s.ord.length - intOf k).toNat)
      case atStart => exact ⟨0, rfl, by omega, by simpa using HO3.out, HB3.out⟩
      case round =>
        clear HO3 HB3
        obtain ⟨i2, rfl, hi2, ho, hb⟩ := hrel
        have HO := Lib.hid ho
        have HW := Lib.hid hb
        have hz := hb.size
        rw [hV] at hz
        obtain ⟨b0, b1, b2, b3, b4⟩ := HMB.out _ hb
        have hfl := flat_len (f := lEnc) (B := 22) (fun x hx => lEnc_len (HKO.out x hx)) i2
        clear ho hb
        by_cases hlt : i2 < s.ord.length
        · obtain ⟨b, o, rfl, _, hcx⟩ := Row.lab (HYB.out _ HW.out) (by intro hh; rw [hh] at hlt; simp at hlt)
          have ex := List.getElem?_eq_getElem (l := s.ord) (i := i2) hlt
          generalize s.ord[i2] = x at ex
          obtain ⟨hok, x0, x1, x2, x3⟩ := hcx i2 x ex
          have hlt' : (i2 : Int) < s.ord.length := by omega
          have HEX := Lib.hid (flat_next (f := lEnc) ex)
          have hxl := lEnc_len hok
          have HA := Lib.hid (HO.out.below (below_alloc1 wr (.cells #[.int .u64 x.n, .int .i64 x.p, .int .u64 x.s, .int .i64 x.q] 26)))
          have HBA := Lib.hid (HW.out.trans ((below_alloc1 wr (.cells #[.int .u64 x.n, .int .i64 x.p, .int .u64 x.s, .int .i64 x.q] 26)).mono hz))
          have HLE := Lib.hid (label_Encode (x := x) HA.out (by simp; omega) (by simp only [List.length_cons, List.length_append]; omega) hok (HFO.out x (List.mem_of_getElem? ex)))
          clear ex hcx
          go_wp2_with fail
          refine HLE.out.mono ?_
          rintro e w3 ⟨v3, rfl, ho3, hg3⟩
          have HO3 := Lib.hid ho3
          have HB3 := Lib.hid (HBA.out.trans (hg3.base (by simp; omega) (fun k hk => (HA.out.lt k hk).1)))
          clear ho3 hg3
          go_wp2
          go_roundw
          case rel => exact ⟨i2 + 1, by go_num, by omega, by rw [HEX.out]; simpa using HO3.out, HB3.out⟩
          case measure => simp [intOf]; omega
        · have hlt' : ¬ (i2 : Int) < s.ord.length := by omega
          have ho2 := HO.out
          rw [List.take_of_length_le (by omega)] at ho2
          have HO2 := Lib.hid ho2
          have hl3 : (s.ord.flatMap lEnc).length ≤ 22000000 := by
            have := flat_len (f := lEnc) (B := 22) (fun x hx => lEnc_len (HKO.out x hx)) s.ord.length
            rw [List.take_length] at this
            omega
          have hn1 := HR.out.2.2.2.2.1
          have hn2 := HR.out.2.2.2.2.2.1
          have HFH := Lib.hid HR.out.2.2.2.2.2.2
          obtain ⟨nx, hnx⟩ := Int.eq_ofNat_of_zero_le (a := s.next) (by omega)
          have HNX := Lib.hid hnx
          rw [hnx] at b2 hn1 hn2
          have h10n := uEnc_len10 (n := nx) (by omega)
          clear ho2 HO hnx
          go_wp2_with fail
          refine (code_Uint (n := nx) HO2.out hz (by simp only [List.length_cons, List.length_append]; omega) (by omega)).mono ?_
          rintro e w1 ⟨v1, rfl, ho1, hg1⟩
          have HO1 := Lib.hid ho1
          have HB1 := Lib.hid (HW.out.trans (hg1.base hz (fun k hk => (HO2.out.lt k hk).1)))
          have hz1 := HB1.out.size
          rw [hV] at hz1
          clear ho1 hg1 b0 b1 b2 b3 b4
          obtain ⟨b0, b1, b2, b3, b4⟩ := HMB.out _ HB1.out
          go_wp2_with fail
          refine (ident_Encode HO1.out hz1 (by simp only [List.length_cons, List.length_append]; omega) hv HFH.out).mono ?_
          rintro e w2 ⟨v2, rfl, ho2, hg2⟩
          have HO3 := Lib.hid ho2
          have HB3 := Lib.hid (HB1.out.trans (hg2.base hz1 (fun k hk => (HO1.out.lt k hk).1)))
          clear ho2 hg2
          go_wp2
          go_ret2
          refine ⟨_, rfl, ?_, HB.out.trans (HB3.out.mono (by omega))⟩
          rw [HS.out, HNX.out]
          exact Own.lower (b0 := w.heap.size) (by simpa using HO3.out) (by omega)
end Go.Proofs.Ytdgdiikijjlnnaa
