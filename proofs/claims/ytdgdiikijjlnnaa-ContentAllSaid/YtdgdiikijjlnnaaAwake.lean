/- The document's example of layer 15. -/
import Derived.Test.YtdgdiikijjlnnaaRefC
import Derived.Test.YtdgdiikijjlnnaaCon
import Derived.Lib.SlBytesConst
namespace Go.Proofs.Ytdgdiikijjlnnaa
open Go.RowKit M
theorem uEnc1 : uEnc 1 = [1] := uEnc_small (by decide)
theorem awake_bytes : (1 : UInt8) :: eEnc ⟨⟨1, 0, 1, 0⟩, [97]⟩ = [1, 1, 0, 1, 0, 1, 97] := by
  have h : uEnc (Int.toNat 1) = [1] := uEnc1
  simp [eEnc, lEnc, vEnc, Lab.vid, h, uEnc1]
set_option maxRecDepth 100000 in
set_option maxHeartbeats 4000000 in
theorem awake15 (w : World) : Calls Try.prog 7 #[] w fun e w' => e = .returned (.bool true) ∧ Below w.heap.size w w' := by
  have HR := Lib.hid (row1 (heap_alloc_new w (.cells #[.int .u8 97] 5 (1, 2))) (x := 97) rfl)
  have HE := Lib.hid (content_EncodeOne (A := some ⟨w.heap.size, 0, none⟩) (c := 1) ⟨⟨1, 0, 1, 0⟩, [97]⟩ (w.alloc (.cells #[.int .u8 97] 5 (1, 2))) (by unfold Lab.ok; decide) HR.out (by decide) (by decide))
  rw [awake_bytes] at HE
  have hst : (({ data := #[1, 1, 0, 1, 0, 1, 97] } : ByteArray)).toList = [1, 1, 0, 1, 0, 1, 97] := by
    rw [ByteArray.toList_eq]
  have hst2 := str_toList
  have hcb := Lib.run_convert_bytes_const w 27 5 #[.int .u8 97] 1 1 Try.underlying27 Try.underlying5
  simp only [List.size_toArray, List.length_cons, List.length_nil] at hcb
  go_enter Try.func7, Try.ntmps7
  go_wp2_with fail
  refine HE.out.mono ?_
  rintro e w1 ⟨v, rfl, ho, hb⟩
  obtain ⟨A, c, rfl, hc, hr⟩ := M.Own.sv ho
  have hcv := convert_str (c := c) hr
  simp only [List.length_cons, List.length_nil] at hcv
  have HB := Lib.hid ((below_alloc1 w (.cells #[.int .u8 97] 5 (1, 2))).trans (hb.mono (by simp)))
  clear ho hb hr
  go_wp2
  go_ret
  exact ⟨rfl, HB.out⟩
