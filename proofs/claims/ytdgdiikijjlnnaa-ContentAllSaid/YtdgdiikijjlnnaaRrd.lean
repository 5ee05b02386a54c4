/- The reference's reader. -/
import Derived.Test.YtdgdiikijjlnnaaRnum
import Derived.Test.YtdgdiikijjlnnaaRefB
import Derived.Test.YtdgdiikijjlnnaaRefC
import Derived.Deep.RegionHeld
import Derived.Lib.SlBytesRow
namespace Go.Proofs.Ytdgdiikijjlnnaa
open Go.RowKit M
namespace M
/-- The next number from place k on. -/
def rRU (P : List UInt8) (k : Nat) (bad : Bool) : Nat × Nat × Bool := if bad then (0, k, true) else match rg1 (P.drop k) with
  | some (n, j) => (n, k + j, false)
  | none => (0, k, true)
end M
/-- The reference's reader g stands at place k of P; behind a fault it is below 0. -/
def Rfr (I : Nat → Prop) (W : World) (g : Nat) (P : List UInt8) (k : Nat) (bad : Bool) : Prop :=
  ¬ I g ∧ P.length ≤ 140737488355328 ∧ k ≤ P.length ∧ ∃ A c, W.heap[g]? = some (.cells #[.slice A P.length c, .int .i64 (if bad then -1 else (k : Int))] 79 (0, 0)) ∧ P.length ≤ c ∧ Row kByte I W A P
theorem ref_Uint_bad {I : Nat → Prop} {g k : Nat} {P : List UInt8} {w : World} (h : Rfr I w g P k true) :
    Calls Try.prog 69 #[.pointer (some ⟨g, 0, none⟩)] w fun e w' => e = .returned (.int .u64 0) ∧ w' = w := by
  obtain ⟨_, _, _, A, c, hb, _, _⟩ := h
  have h1 := blk_cell hb 1
  simp at h1
  clear hb
  go_enter Try.func69, Try.ntmps69
  go_wp2
  go_ret
  exact ⟨rfl, rfl⟩
theorem rg_last {i n : Nat} {b : UInt8} {r : List UInt8} (hi : i < 10) (h : ¬ 127 < b.toNat) : rg i n (b :: r) = some ((n + b.toNat % 128 * 2 ^ (7 * i)) % 18446744073709551616, i + 1) := by
  unfold rg
  rw [if_neg (by omega), if_neg h]
theorem rg_next {i n : Nat} {b : UInt8} {r : List UInt8} (hi : i < 10) (h : 127 < b.toNat) : rg i n (b :: r) = rg (i + 1) ((n + b.toNat % 128 * 2 ^ (7 * i)) % 18446744073709551616) r := by
  rw [rg, if_neg (by omega), if_pos h]
theorem rg_ten {n : Nat} {l : List UInt8} : rg 10 n l = none := by
  cases l <;> simp [rg]
/-- Behind a fault. -/
theorem rfr_fault {I : Nat → Prop} {g k : Nat} {v : Value} {A : Option Addr} {c : Nat} {P : List UInt8} {w : World} (hI : ¬ I g) (hm : P.length ≤ 140737488355328) (hkP : k ≤ P.length) (hb : w.heap[g]? = some (.cells #[.slice A P.length c, v] 79 (0, 0))) (hc : P.length ≤ c) (hr : Row kByte I w A P) :
    Rfr I (w.setCell ⟨g, 1, none⟩ (.int .i64 (-1))) g P k true ∧ Mod (· = g) w (w.setCell ⟨g, 1, none⟩ (.int .i64 (-1))) := by
  have hM : Mod (· = g) w (w.setCell ⟨g, 1, none⟩ (.int .i64 (-1))) := (Mod.refl (fun x => x = g) w).setCell (p := ⟨g, 1, none⟩) (.inl rfl) _
  exact ⟨⟨hI, hm, hkP, A, c, by simpa using blk_set hb 1 (.int .i64 (-1)), hc, hr.step (hM.agr (fun j hj e => hI (e ▸ hj)))⟩, hM⟩
theorem Rfr.drewN {I : Nat → Prop} {g k : Nat} {P : List UInt8} {bad : Bool} {w : World} (h : Rfr I w g P k bad) (n : Nat) : Rfr I (w.drewN n) g P k bad := by
  obtain ⟨h1, h2, h3, A, c, h4, h5, h6⟩ := h
  exact ⟨h1, h2, h3, A, c, h4, h5, h6.below (below_drewN (Below.refl _ _) n)⟩
set_option maxRecDepth 100000 in
set_option maxHeartbeats 4000000 in
theorem ref_Uint {I : Nat → Prop} {g k : Nat} {P : List UInt8} {w : World} (h : Rfr I w g P k false) :
    Calls Try.prog 69 #[.pointer (some ⟨g, 0, none⟩)] w fun e w' => e = .returned (.int .u64 (rRU P k false).1) ∧ Rfr I w' g P (rRU P k false).2.1 (rRU P k false).2.2 ∧ Mod (· = g) w w' := by
  obtain ⟨hI, hm, hkP, A, c, hb, hc, hr⟩ := h
  have h1 := blk_cell hb 1
  have h0 := blk_cell hb 0
  have f1 := blk_free hb 1
  simp at h1 h0
  have HB := Lib.hid hb
  have HF := Lib.hid (rfr_fault hI hm hkP hb hc hr)
  have hno : rg 0 0 (P.drop k) = none → rRU P k false = (0, k, true) := fun e => by
    unfold rRU rg1
    rw [e]
    rfl
  clear hb
  go_enter Try.func69, Try.ntmps69
  go_wp2
  go_loopw [3, 4] (fun n i W => ∃ j m : Nat, j ≤ 10 ∧ k + j ≤ P.length ∧ i = .int .i64 j ∧ n = .int .u64 m ∧ m < 18446744073709551616 ∧ rg 0 0 (P.drop k) = rg j m (P.drop (k + j)) ∧ Quiet w W) (fun _ i _ => 10 - (intOf i).toNat)
  case atStart => exact ⟨0, 0, by omega, by omega, rfl, rfl, by omega, by simp, Quiet.refl _⟩
  case round =>
    obtain ⟨j, m, hj, hkj, rfl, rfl, hm2, hrg, q, rfl⟩ := hrel
    by_cases hj10 : j < 10
    · have hj10' : (j : Int) < 10 := by omega
      by_cases hlt : k + j < P.length
      · have hlt' : (k : Int) + j < P.length := by omega
        obtain ⟨b0, o, rfl, _, hcell⟩ := Row.byte hr (by rintro rfl; simp at hlt)
        have hcb := hcell (k + j) hlt
        obtain ⟨x, ex, hdr⟩ : ∃ x, P[k + j]? = some x ∧ P.drop (k + j) = x :: P.drop (k + j + 1) := ⟨_, List.getElem?_eq_getElem hlt, get_drop hlt⟩
        rw [ex, Option.getD_some] at hcb
        have hx := x.toNat_lt
        have hw8 : IntKind.u64.wrap (x.toNat : Int) = (x.toNat : Int) := by rw [IntKind.wrap_u64]; omega
        obtain ⟨n', hn'⟩ : ∃ n', n' = (m + x.toNat % 128 * 2 ^ (7 * j)) % 18446744073709551616 := ⟨_, rfl⟩
        have hnl : n' < 18446744073709551616 := by rw [hn']; exact Nat.mod_lt _ (by decide)
        have hv : IntKind.u64.wrap ((m : Int) + IntKind.u64.wrap ((x.toNat : Int) % 128 * 2 ^ (7 * j))) = (n' : Int) := by
          rw [hn']
          have e : (x.toNat : Int) % 128 * 2 ^ (7 * j) = ((x.toNat % 128 * 2 ^ (7 * j) : Nat) : Int) := by norm_cast
          rw [IntKind.wrap_u64, IntKind.wrap_u64, e]
          generalize x.toNat % 128 * 2 ^ (7 * j) = y
          omega
        clear hcell
        have EX := Lib.hid ex
        have HN' := Lib.hid hn'
        clear ex hn'
        by_cases h127 : 127 < x.toNat
        · have h127' : (127 : Int) < (x.toNat : Int) := by omega
          go_wp2_with fail
          go_quiet (fail)
          go_wp2_with fail
          go_quiet (fail)
          go_wp2_with fail
          go_roundw
          case rel => exact ⟨j + 1, n', by omega, by omega, by go_num, (by first | rfl | rw [hv]), hnl, by rw [hrg, hdr, rg_next hj10 h127, HN'.out]; rfl, (Quiet.refl _).drewN _⟩
          case measure => simp [intOf]; omega
        · have h127' : ¬ (127 : Int) < (x.toNat : Int) := by omega
          go_wp2_with fail
          go_quiet (fail)
          go_wp2_with fail
          go_quiet (fail)
          go_wp2_with fail
          have hrgl : rg 0 0 (P.drop k) = some (n', j + 1) := by rw [hrg, hdr, rg_last hj10 h127, HN'.out]
          have HRG := Lib.hid hrgl
          have hwn : Row kByte I w (some ⟨b0, o + k, none⟩) ((P.drop k).take (j + 1)) := by
            have := (hr.drop k).take (j + 1)
            simpa [kByte] using this
          have hwl : ((P.drop k).take (j + 1)).length = j + 1 := by simp; omega
          have HW := Lib.hid hwn
          have hsl : ∀ W : World, (Instr.slice 27 (.slice (some ⟨b0, o, none⟩) P.length c) (some (.int .i64 (k : Int))) (some (.int .i64 ((k : Int) + j + 1))) none).run Try.prog W = .ok (.slice (some ⟨b0, o + k, none⟩) (j + 1) (c - k)) W := fun W => by
            have := Lib.run_slice_window (P := Try.prog) W 27 5 Try.underlying27 (fun w => by
              obtain ⟨i, hi, hq⟩ := Option.map_eq_some_iff.1 infoByte
              simp only [Prod.mk.injEq] at hq
              simp [sizeOf, typeInfo, hi, hq.2.1]) b0 o P.length c k (k + j + 1) (by omega) (by omega)
            rw [show k + j + 1 - k = j + 1 by omega] at this
            simpa using this
          have hst := str_toList
          have hU := Lib.hid (fun W => ref02_Uint (n := n') (w := W) hnl)
          have HK : Hid (∀ W, Below w.heap.size w W → (W.cell? ⟨g, 0, none⟩ = some (.slice (some ⟨b0, o, none⟩) P.length c) ∧ W.cell? ⟨g, 1, none⟩ = some (.int .i64 (k : Int)) ∧
              (convert 27 9 (.slice (some ⟨b0, o + k, none⟩) (j + 1) (c - k))).run Try.prog W = .ok (.string (str ((P.drop k).take (j + 1)))) W)) := Lib.hid (fun W hb => by
            have := convert_str (c := c - k) (HW.out.below hb)
            rw [hwl] at this
            exact ⟨pw_cell hb h0, pw_cell hb h1, this⟩)
          generalize hd : w.drewN _ = V
          have hBV : Below w.heap.size w V := hd ▸ below_drewN (Below.refl _ _) _
          have HBV := Lib.hid hBV
          clear hd hBV hv hrg hdr hcb hwn
          have HR := Lib.hid hr
          clear hr
          have hk0 : (0 : Int) ≤ (k : Int) := by omega
          have hk1 : (k : Int) ≤ (k : Int) + j + 1 := by omega
          have hk2 : (k : Int) + j + 1 ≤ (c : Int) := by omega
          have hk3 : ¬ c = k := by omega
          have hk4 : ((k : Int) + j + 1).toNat = k + j + 1 := by omega
          have hk5 : k + j + 1 - k = j + 1 := by omega
          have hk6 : IntKind.i64.wrap ((k : Int) + j) = (k : Int) + j := by rw [IntKind.wrap_i64]; omega
          have hk7 : IntKind.i64.wrap ((k : Int) + j + 1) = (k : Int) + j + 1 := by rw [IntKind.wrap_i64]; omega
          by_cases heq : uEnc n' = (P.drop k).take (j + 1)
          · have heq' : (uEnc n' == (P.drop k).take (j + 1)) = true := by simp [heq]
            have HQ := Lib.hid heq
            clear heq
            go_region_held (fun W => W.cell? ⟨g, 0, none⟩ = some (.slice (some ⟨b0, o, none⟩) P.length c) ∧ W.cell? ⟨g, 1, none⟩ = some (.int .i64 (k : Int)) ∧
              (convert 27 9 (.slice (some ⟨b0, o + k, none⟩) (j + 1) (c - k))).run Try.prog W = .ok (.string (str ((P.drop k).take (j + 1)))) W)
              (first
                | exact HK.out _ (HBV.out.drew)
                | exact HK.out _ HBV.out
                | exact HK.out _ (HBV.out.drew.trans (hb5.mono HBV.out.drew.size)))
              (first
                | (go_simp
                   go_at_call 53
                   refine (hU.out _).mono ?_
                   rintro e w5 ⟨v5, rfl, ho5, hb5⟩
                   obtain ⟨A5, c5, rfl, hc5, hr5⟩ := M.Own.sv ho5
                   have hq5 := convert_str (c := c5) hr5
                   clear ho5 hr5))
            have hbw : Below w.heap.size w w5 := HBV.out.drew.trans (hb5.mono HBV.out.drew.size)
            have hgl := blk_lt HB.out
            have hf5 : w5.frozen? ⟨g, 1, none⟩ = false := mod_free (Mod.of_below hbw) (S := fun _ => False) (fun x => x) hgl f1
            have HB5 := Lib.hid (below_blk hbw HB.out)
            go_wp2_with fail
            go_ret
            have hR : rRU P k false = (n', k + (j + 1), false) := by
              unfold rRU rg1
              rw [HRG.out]
              simp [HQ.out]
            rw [hR]
            have hM : Mod (· = g) w (w5.setCell ⟨g, 1, none⟩ (.int .i64 ((k : Int) + ((j : Int) + 1)))) := (Mod.of_below (S := fun x => x = g) hbw).setCell (p := ⟨g, 1, none⟩) (.inl rfl) _
            exact ⟨rfl, ⟨hI, hm, (by show k + (j + 1) ≤ P.length; omega), _, _, by simpa using blk_set HB5.out 1 _, hc, HR.out.step (hM.agr (fun j hj e => hI (e ▸ hj)))⟩, hM⟩
          · have heq' : (uEnc n' == (P.drop k).take (j + 1)) = false := by simp [heq]
            have HQ := Lib.hid heq
            clear heq
            go_region_held (fun W => W.cell? ⟨g, 0, none⟩ = some (.slice (some ⟨b0, o, none⟩) P.length c) ∧ W.cell? ⟨g, 1, none⟩ = some (.int .i64 (k : Int)) ∧
              (convert 27 9 (.slice (some ⟨b0, o + k, none⟩) (j + 1) (c - k))).run Try.prog W = .ok (.string (str ((P.drop k).take (j + 1)))) W)
              (first
                | exact HK.out _ (HBV.out.drew)
                | exact HK.out _ HBV.out
                | exact HK.out _ (HBV.out.drew.trans (hb5.mono HBV.out.drew.size)))
              (first
                | (go_simp
                   go_at_call 53
                   refine (hU.out _).mono ?_
                   rintro e w5 ⟨v5, rfl, ho5, hb5⟩
                   obtain ⟨A5, c5, rfl, hc5, hr5⟩ := M.Own.sv ho5
                   have hq5 := convert_str (c := c5) hr5
                   clear ho5 hr5))
            have hbw : Below w.heap.size w w5 := HBV.out.drew.trans (hb5.mono HBV.out.drew.size)
            have hgl := blk_lt HB.out
            have hf5 : w5.frozen? ⟨g, 1, none⟩ = false := mod_free (Mod.of_below hbw) (S := fun _ => False) (fun x => x) hgl f1
            have HB5 := Lib.hid (below_blk hbw HB.out)
            go_wp2_with fail
            go_ret
            have hR : rRU P k false = (0, k, true) := by
              unfold rRU rg1
              rw [HRG.out]
              simp [HQ.out]
            rw [hR]
            have hfl := rfr_fault hI hm hkP HB5.out hc (HR.out.below hbw)
            exact ⟨rfl, hfl.1, (Mod.of_below hbw).trans hfl.2⟩
      · have hlt' : ¬ (k : Int) + j < P.length := by omega
        have hlt2 : decide ((k : Int) + j < P.length) = false := decide_eq_false hlt'
        have HN := Lib.hid (hno (by rw [hrg, List.drop_eq_nil_of_le (by omega)]; rfl))
        clear hrg hno
        go_wp2_with fail
        go_quiet (fail)
        go_wp2_with fail
        go_ret
        rw [HN.out]
        exact ⟨rfl, (HF.out.1).drewN _, HF.out.2.drewN _⟩
    · have hj10' : ¬ (j : Int) < 10 := by omega
      have hj2 : decide ((j : Int) < 10) = false := decide_eq_false hj10'
      have HN := Lib.hid (hno (by rw [hrg, show j = 10 by omega, rg_ten]))
      clear hrg hno
      go_wp2_with fail
      go_quiet (fail)
      go_wp2_with fail
      go_ret
      rw [HN.out]
      exact ⟨rfl, (HF.out.1).drewN _, HF.out.2.drewN _⟩
end Go.Proofs.Ytdgdiikijjlnnaa
