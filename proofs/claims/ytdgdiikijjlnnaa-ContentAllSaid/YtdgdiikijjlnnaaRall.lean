/- The reference: how a right summary is written. -/
import Derived.Test.YtdgdiikijjlnnaaRright
import Derived.Test.YtdgdiikijjlnnaaRefB
namespace Go.Proofs.Ytdgdiikijjlnnaa
open Go.RowKit M
namespace M
/-- A summary as bytes. -/
def sEnc (s : Sum) : List UInt8 := 2 :: uEnc s.con.length ++ s.con.flatMap eEnc ++ uEnc s.ord.length ++ s.ord.flatMap lEnc ++ uEnc s.next.toNat ++ vEnc s.high
theorem eEnc_len {x : Ent} (h : x.l.ok) (hf : x.form = true) : (eEnc x).length ≤ 96 := by
  have h64 : x.l.form = true ∧ x.m.length ≤ 64 := by simpa [Ent.form] using hf
  have hl := lEnc_len h
  have h10 := uEnc_len10 (n := x.m.length) (by omega)
  simp [eEnc]
  omega
theorem flat_len {α : Type} {f : α → List UInt8} {B : Nat} {l : List α} (h : ∀ x ∈ l, (f x).length ≤ B) (k : Nat) : ((l.take k).flatMap f).length ≤ k * B := by
  induction l generalizing k with
  | nil => simp
  | cons x l ih =>
    cases k with
    | zero => simp
    | succ k =>
      have h1 := h x (List.mem_cons_self ..)
      have h2 := ih (fun y hy => h y (List.mem_cons_of_mem _ hy)) k
      simp only [List.take_succ_cons, List.flatMap_cons, List.length_append, Nat.add_mul, Nat.one_mul]
      omega
theorem flat_next {α : Type} {f : α → List UInt8} {l : List α} {k : Nat} {x : α} (hx : l[k]? = some x) : (l.take (k + 1)).flatMap f = (l.take k).flatMap f ++ f x := by
  rw [List.take_add_one, hx]
  simp
/-- What lies in a row is of the kind's bounds. -/
theorem row_ok {I : Nat → Prop} {w : World} {A : Option Addr} {xs : List Ent} (h : Row kEnt I w A xs) : ∀ x ∈ xs, x.l.ok := by
  intro x hx
  obtain ⟨j, hj⟩ := List.getElem?_of_mem hx
  obtain ⟨b, o, _, _, hc⟩ := h.2 (by rintro rfl; simp at hx)
  obtain ⟨cs, ⟨v, _, hok, _⟩, _⟩ := hc j x hj
  exact hok
theorem row_okl {I : Nat → Prop} {w : World} {A : Option Addr} {xs : List Lab} (h : Row kLab I w A xs) : ∀ x ∈ xs, x.ok := by
  intro x hx
  obtain ⟨j, hj⟩ := List.getElem?_of_mem hx
  obtain ⟨b, o, _, _, hc⟩ := h.2 (by rintro rfl; simp at hx)
  obtain ⟨cs, ⟨_, hok⟩, _⟩ := hc j x hj
  exact hok
end M
theorem below_mono' {w w1 : World} {B : Nat} (h : Below B w w1) (hB : w.heap.size = B) : Below w.heap.size w w1 := hB ▸ h
set_option maxRecDepth 100000 in
set_option maxHeartbeats 4000000 in
theorem ref15_All {I : Nat → Prop} {A1 A2 : Option Addr} {c1 c2 : Nat} {s : Sum} {w : World} (h1 : Row kEnt I w A1 s.con) (h2 : Row kLab I w A2 s.ord) (hv : s.high.ok) (hcl : s.con.length ≤ 1000000) (hol : s.ord.length ≤ 1000000) (hr : s.Right) :
    Calls Try.prog 18 #[.agg #[.slice A1 s.con.length c1, .slice A2 s.ord.length c2, .int .i64 s.next, .int .u64 s.high.n, .int .i64 s.high.p]] w fun e w' => ∃ v, e = .returned v ∧ OwnB w' w.heap.size v (sEnc s) ∧ Below w.heap.size w w' := by
  have HB := Lib.hid (below_alloc1 w (.cells #[.slice A1 s.con.length c1, .slice A2 s.ord.length c2, .int .i64 s.next, .int .u64 s.high.n, .int .i64 s.high.p] 38))
  have HM := Lib.hid (heap_alloc_new w (.cells #[.slice A1 s.con.length c1, .slice A2 s.ord.length c2, .int .i64 s.next, .int .u64 s.high.n, .int .i64 s.high.p] 38))
  have HX := Lib.hid (h1.below HB.out)
  have HY := Lib.hid (h2.below HB.out)
  have HS := Lib.hid (sEnc.eq_1 s)
  have HR := Lib.hid hr
  have HU := Lib.hid (fun (n : Nat) (hn : n < 18446744073709551616) W => ref02_Uint (n := n) (w := W) hn)
  clear h1 h2 hr
  go_enter Try.func18, Try.ntmps18
  go_wp2_with fail
  have hV : (w.alloc (.cells #[.slice A1 s.con.length c1, .slice A2 s.ord.length c2, .int .i64 s.next, .int .u64 s.high.n, .int .i64 s.high.p] 38)).heap.size = w.heap.size + 1 := by simp
  generalize w.alloc (.cells #[.slice A1 s.con.length c1, .slice A2 s.ord.length c2, .int .i64 s.next, .int .u64 s.high.n, .int .i64 s.high.p] 38) = V at HB HM HX HY hV ⊢
  have hol0 := own_lit1 V V.heap.size (Nat.le_refl _) 2 2 rfl
  rw [hV] at hol0
  have HO0 := Lib.hid hol0
  have hbv : Below (w.heap.size + 1) V (V.alloc (.cells #[.int .u8 2] 5)) := (below_alloc1 V _).mono (by omega)
  have HB0 := Lib.hid hbv
  have hmb := fun (W : World) (hb : Below (w.heap.size + 1) V W) => cells5 ((hb.block w.heap.size (by omega)).trans HM.out)
  have HMB := Lib.hid hmb
  have HXB := Lib.hid (fun (W : World) (hb : Below (w.heap.size + 1) V W) => HX.out.below (below_mono' hb hV))
  have HYB := Lib.hid (fun (W : World) (hb : Below (w.heap.size + 1) V W) => HY.out.below (below_mono' hb hV))
  clear hol0 hbv hmb
  refine (HU.out _ (by omega) _).mono ?_
  rintro e w1 ⟨v1, rfl, ho1, hb1⟩
  have HO1 := Lib.hid (HO0.out.below hb1)
  have HS1 := Lib.hid (Own.own ho1)
  have hz0 := HB0.out.size
  rw [hV] at hz0
  have HB1 := Lib.hid (HB0.out.trans (hb1.mono hz0))
  have hz1 := HB1.out.size
  have h10 := uEnc_len10 (n := s.con.length) (by omega)
  have h10o := uEnc_len10 (n := s.ord.length) (by omega)
  rw [hV] at hz1
  clear ho1 hb1
  go_wp2_with (at_builtin; refine arm_bytes rfl (w.heap.size + 1) _ _ rfl _ rfl HO1.out v1 rfl HS1.out ?hl hz1 (Grew.refl _ w1) ?_; (case hl => simp; omega); intro v2 w2 ho2 hg2 hz2)
  have HO2 := Lib.hid ho2
  have HB2 := Lib.hid (HB1.out.trans (hg2.base hz1 (fun k hk => (HO1.out.lt k hk).1)))
  clear ho2 hg2 HO1 HS1 HB1 HO0 HB0
  have HFC := Lib.hid HR.out.1
  have HFO := Lib.hid HR.out.2.2.1
  have HKC := Lib.hid (row_ok HX.out)
  have HKO := Lib.hid (row_okl HY.out)
  go_loopw [3, 4] (fun p k W => ∃ i : Nat, k = .int .i64 i ∧ i ≤ s.con.length ∧ OwnB W (w.heap.size + 1) p (2 :: uEnc s.con.length ++ (s.con.take i).flatMap eEnc) ∧ Below (w.heap.size + 1) V W) (fun _ k _ => (s.con.length - intOf k).toNat)
  case atStart => exact ⟨0, rfl, by omega, by simpa using HO2.out, HB2.out⟩
  case round =>
    clear HO2 HB2
    obtain ⟨i, rfl, hi, ho, hb⟩ := hrel
    have HO := Lib.hid ho
    have HW := Lib.hid hb
    have hz := hb.size
    rw [hV] at hz
    obtain ⟨b0, b1, b2, b3, b4⟩ := HMB.out _ hb
    have hfl := flat_len (f := eEnc) (B := 96) (fun x hx => eEnc_len (HKC.out x hx) (HFC.out x hx)) i
    clear ho hb
    by_cases hlt : i < s.con.length
    · obtain ⟨b, o, rfl, _, hcx⟩ := Row.ent (HXB.out _ HW.out) (by intro hh; rw [hh] at hlt; simp at hlt)
      have ex := List.getElem?_eq_getElem (l := s.con) (i := i) hlt
      generalize s.con[i] = x at ex
      obtain ⟨B, c, hok, x0, x1, x2, x3, x4, hlc, hrx⟩ := hcx i x ex
      have HF := Lib.hid (ref15_one (c := c) (w := wr) x hok hrx hlc (HFC.out x (List.mem_of_getElem? ex)))
      have HEX := Lib.hid (flat_next (f := eEnc) ex)
      have hxl := eEnc_len hok (HFC.out x (List.mem_of_getElem? ex))
      clear ex hcx hrx
      go_wp2_with fail
      refine HF.out.mono ?_
      rintro e w3 ⟨v3, rfl, ho3, hb3⟩
      have HO3 := Lib.hid (HO.out.below hb3)
      have HS3 := Lib.hid (Own.own ho3)
      have HB3 := Lib.hid (HW.out.trans (hb3.mono hz))
      have hz3 := HB3.out.size
      rw [hV] at hz3
      clear ho3 hb3
      go_wp2_with (at_builtin; refine arm_bytes rfl (w.heap.size + 1) _ _ rfl _ rfl HO3.out v3 rfl HS3.out ?hl hz3 (Grew.refl _ w3) ?_; (case hl => simp only [List.length_cons, List.length_append]; omega); intro v4 w4 ho4 hg4 hz4)
      go_roundw
      case rel => exact ⟨i + 1, by go_num, by omega, by rw [HEX.out]; simpa using ho4, HB3.out.trans (hg4.base hz3 (fun k hk => (HO3.out.lt k hk).1))⟩
      case measure => simp [intOf]; omega
    · have hlt' : ¬ (i : Int) < s.con.length := by omega
      have ho2 := HO.out
      rw [List.take_of_length_le (by omega)] at ho2
      have HO2 := Lib.hid ho2
      have hl2 : (s.con.flatMap eEnc).length ≤ 96000000 := by
        have := flat_len (f := eEnc) (B := 96) (fun x hx => eEnc_len (HKC.out x hx) (HFC.out x hx)) s.con.length
        rw [List.take_length] at this
        omega
      clear ho2 HO
      go_wp2_with fail
      refine (HU.out _ (by omega) _).mono ?_
      rintro e w1 ⟨v1, rfl, ho1, hb1⟩
      have HO1 := Lib.hid (HO2.out.below hb1)
      have HS1 := Lib.hid (Own.own ho1)
      have HB1 := Lib.hid (HW.out.trans (hb1.mono hz))
      have hz1 := HB1.out.size
      rw [hV] at hz1
      clear ho1 hb1
      go_wp2_with (at_builtin; refine arm_bytes rfl (w.heap.size + 1) _ _ rfl _ rfl HO1.out v1 rfl HS1.out ?hl hz1 (Grew.refl _ w1) ?_; (case hl => simp only [List.length_cons, List.length_append]; omega); intro v2 w2 ho2 hg2 hz2)
      have HO2 := Lib.hid ho2
      have HB2 := Lib.hid (HB1.out.trans (hg2.base hz1 (fun k hk => (HO1.out.lt k hk).1)))
      clear ho2 hg2 HO1 HS1 HB1 HW hfl b0 b1 b2 b3 b4
      go_loopw [3, 5] (fun p k W => ∃ i : Nat, k = .int .i64 i ∧ i ≤ s.ord.length ∧ OwnB W (w.heap.size + 1) p (2 :: uEnc s.con.length ++ s.con.flatMap eEnc ++ uEnc s.ord.length ++ (s.ord.take i).flatMap lEnc) ∧ Below (w.heap.size + 1) V W) (fun _ k _ => (s.ord.length - intOf k).toNat)
      case atStart => exact ⟨0, rfl, by omega, by simpa using HO2.out, HB2.out⟩
      case round =>
        clear HO2 HB2
        obtain ⟨i2, rfl, hi2, ho, hb⟩ := hrel
        have HO := Lib.hid ho
        have HW := Lib.hid hb
        have hz := hb.size
        rw [hV] at hz
        obtain ⟨b0, b1, b2, b3, b4⟩ := HMB.out _ hb
        have hfl := flat_len (f := lEnc) (B := 22) (fun x hx => lEnc_len (HKO.out x hx)) i2
        clear ho hb
        by_cases hlt : i2 < s.ord.length
        · obtain ⟨b, o, rfl, _, hcx⟩ := Row.lab (HYB.out _ HW.out) (by intro hh; rw [hh] at hlt; simp at hlt)
          have ex := List.getElem?_eq_getElem (l := s.ord) (i := i2) hlt
          generalize s.ord[i2] = x at ex
          obtain ⟨hok, x0, x1, x2, x3⟩ := hcx i2 x ex
          have HF := Lib.hid (ref05_Encode (w := wr) hok (HFO.out x (List.mem_of_getElem? ex)))
          have HEX := Lib.hid (flat_next (f := lEnc) ex)
          have hxl := lEnc_len hok
          clear ex hcx
          go_wp2_with fail
          refine HF.out.mono ?_
          rintro e w3 ⟨v3, rfl, ho3, hb3⟩
          have HO3 := Lib.hid (HO.out.below hb3)
          have HS3 := Lib.hid (Own.own ho3)
          have HB3 := Lib.hid (HW.out.trans (hb3.mono hz))
          have hz3 := HB3.out.size
          rw [hV] at hz3
          clear ho3 hb3
          go_wp2_with (at_builtin; refine arm_bytes rfl (w.heap.size + 1) _ _ rfl _ rfl HO3.out v3 rfl HS3.out ?hl hz3 (Grew.refl _ w3) ?_; (case hl => simp only [List.length_cons, List.length_append]; omega); intro v4 w4 ho4 hg4 hz4)
          go_roundw
          case rel => exact ⟨i2 + 1, by go_num, by omega, by rw [HEX.out]; simpa using ho4, HB3.out.trans (hg4.base hz3 (fun k hk => (HO3.out.lt k hk).1))⟩
          case measure => simp [intOf]; omega
        · have hlt' : ¬ (i2 : Int) < s.ord.length := by omega
          have ho2 := HO.out
          rw [List.take_of_length_le (by omega)] at ho2
          have HO2 := Lib.hid ho2
          have hl3 : (s.ord.flatMap lEnc).length ≤ 22000000 := by
            have := flat_len (f := lEnc) (B := 22) (fun x hx => lEnc_len (HKO.out x hx)) s.ord.length
            rw [List.take_length] at this
            omega
          have hn1 := HR.out.2.2.2.2.1
          have hn2 := HR.out.2.2.2.2.2.1
          have HFH := Lib.hid HR.out.2.2.2.2.2.2
          obtain ⟨nx, hnx⟩ := Int.eq_ofNat_of_zero_le (a := s.next) (by omega)
          have HNX := Lib.hid hnx
          rw [hnx] at b2 hn1 hn2
          have h10n := uEnc_len10 (n := nx) (by omega)
          clear ho2 HO hnx
          go_wp2_with fail
          refine (HU.out nx (by omega) _).mono ?_
          rintro e w1 ⟨v1, rfl, ho1, hb1⟩
          have HO1 := Lib.hid (HO2.out.below hb1)
          have HS1 := Lib.hid (Own.own ho1)
          have HB1 := Lib.hid (HW.out.trans (hb1.mono hz))
          have hz1 := HB1.out.size
          rw [hV] at hz1
          clear ho1 hb1 b0 b1 b2 b3 b4
          go_wp2_with (at_builtin; refine arm_bytes rfl (w.heap.size + 1) _ _ rfl _ rfl HO1.out v1 rfl HS1.out ?hl hz1 (Grew.refl _ w1) ?_; (case hl => simp only [List.length_cons, List.length_append]; omega); intro v2 w2 ho2 hg2 hz2; have HO4 := Lib.hid ho2; have HB4 := Lib.hid (HB1.out.trans (hg2.base hz1 (fun k hk => (HO1.out.lt k hk).1))); have hmb := HMB.out _ HB4.out; obtain ⟨_, _, _, b3, b4⟩ := hmb; clear ho2 hg2 HO1 HS1 HB1)
          refine (ref04_Encode hv HFH.out).mono ?_
          rintro e w5 ⟨v5, rfl, ho5, hb5⟩
          have HO5 := Lib.hid (HO4.out.below hb5)
          have HS5 := Lib.hid (Own.own ho5)
          have HB5 := Lib.hid (HB4.out.trans (hb5.mono hz2))
          have hz5 := HB5.out.size
          have hvl := vEnc_len hv
          rw [hV] at hz5
          clear ho5 hb5
          go_wp2_with (at_builtin; refine arm_bytes rfl (w.heap.size + 1) _ _ rfl _ rfl HO5.out v5 rfl HS5.out ?hl hz5 (Grew.refl _ w5) ?_; (case hl => simp only [List.length_cons, List.length_append]; omega); intro v6 w6 ho6 hg6 hz6)
          go_ret
          refine ⟨_, rfl, ?_, HB.out.trans ((HB5.out.trans (hg6.base hz5 (fun k hk => (HO5.out.lt k hk).1))).mono (by omega))⟩
          rw [HS.out, HNX.out]
          exact Own.lower (b0 := w.heap.size) (by simpa using ho6) (by omega)
end Go.Proofs.Ytdgdiikijjlnnaa
