/- The reference: an entry is read, or nothing (folkmootref15.Decode, where the first byte is not 2). -/
import Derived.Test.YtdgdiikijjlnnaaRdall
namespace Go.Proofs.Ytdgdiikijjlnnaa
open Go.RowKit Go.Sort M
set_option maxRecDepth 100000 in
set_option maxHeartbeats 4000000 in
theorem ref15_Decode_nil {A : Option Addr} {c : Nat} {w : World} :
    Calls Try.prog 14 #[.slice A 0 c] w fun e w' => e = .returned (.tuple #[.int .u8 0, .agg #[.int .u64 0, .int .i64 0, .int .u64 0, .int .i64 0, .slice none 0 0], .agg #[.slice none 0 0, .slice none 0 0, .int .i64 0, .int .u64 0, .int .i64 0]]) ∧ Below w.heap.size w w' := by
  have m0 : (((w.alloc (.cells #[.int .u64 0, .int .i64 0, .int .u64 0, .int .i64 0, .slice none 0 0] 29)).alloc (.cells #[.slice none 0 0, .slice none 0 0, .int .i64 0, .int .u64 0, .int .i64 0] 38)).alloc (.cells #[.int .u64 0, .int .i64 0, .int .u64 0, .int .i64 0, .slice none 0 0] 29)).heap[w.heap.size]? = some (.cells #[.int .u64 0, .int .i64 0, .int .u64 0, .int .i64 0, .slice none 0 0] 29 (0, 0)) := alloc_blk (alloc_blk (heap_alloc_new w _) _) _
  have m1 : (((w.alloc (.cells #[.int .u64 0, .int .i64 0, .int .u64 0, .int .i64 0, .slice none 0 0] 29)).alloc (.cells #[.slice none 0 0, .slice none 0 0, .int .i64 0, .int .u64 0, .int .i64 0] 38)).alloc (.cells #[.int .u64 0, .int .i64 0, .int .u64 0, .int .i64 0, .slice none 0 0] 29)).heap[w.heap.size + 1]? = some (.cells #[.slice none 0 0, .slice none 0 0, .int .i64 0, .int .u64 0, .int .i64 0] 38 (0, 0)) := alloc_blk (by simpa using heap_alloc_new (w.alloc (.cells #[.int .u64 0, .int .i64 0, .int .u64 0, .int .i64 0, .slice none 0 0] 29)) (.cells #[.slice none 0 0, .slice none 0 0, .int .i64 0, .int .u64 0, .int .i64 0] 38)) _
  have m2 : (((w.alloc (.cells #[.int .u64 0, .int .i64 0, .int .u64 0, .int .i64 0, .slice none 0 0] 29)).alloc (.cells #[.slice none 0 0, .slice none 0 0, .int .i64 0, .int .u64 0, .int .i64 0] 38)).alloc (.cells #[.int .u64 0, .int .i64 0, .int .u64 0, .int .i64 0, .slice none 0 0] 29)).heap[w.heap.size + 1 + 1]? = some (.cells #[.int .u64 0, .int .i64 0, .int .u64 0, .int .i64 0, .slice none 0 0] 29 (0, 0)) := by simpa using heap_alloc_new ((w.alloc (.cells #[.int .u64 0, .int .i64 0, .int .u64 0, .int .i64 0, .slice none 0 0] 29)).alloc (.cells #[.slice none 0 0, .slice none 0 0, .int .i64 0, .int .u64 0, .int .i64 0] 38)) (.cells #[.int .u64 0, .int .i64 0, .int .u64 0, .int .i64 0, .slice none 0 0] 29)
  have HB3 := Lib.hid (show Below w.heap.size w (((w.alloc (.cells #[.int .u64 0, .int .i64 0, .int .u64 0, .int .i64 0, .slice none 0 0] 29)).alloc (.cells #[.slice none 0 0, .slice none 0 0, .int .i64 0, .int .u64 0, .int .i64 0] 38)).alloc (.cells #[.int .u64 0, .int .i64 0, .int .u64 0, .int .i64 0, .slice none 0 0] 29)) from ((below_alloc1 w _).alloc (by simp) _).alloc (by simp; omega) _)
  have HM0 := Lib.hid m0
  have HM1 := Lib.hid m1
  have HM2 := Lib.hid m2
  clear m0 m1 m2
  go_enter Try.func14, Try.ntmps14
  go_wp2_with fail
  generalize (((w.alloc (.cells #[.int .u64 0, .int .i64 0, .int .u64 0, .int .i64 0, .slice none 0 0] 29)).alloc (.cells #[.slice none 0 0, .slice none 0 0, .int .i64 0, .int .u64 0, .int .i64 0] 38)).alloc (.cells #[.int .u64 0, .int .i64 0, .int .u64 0, .int .i64 0, .slice none 0 0] 29)) = V at HB3 HM0 HM1 HM2 ⊢
  obtain ⟨t0, t1, t2, t3, t4⟩ := cells5 HM0.out
  obtain ⟨x0, x1, x2, x3, x4⟩ := cells5 HM1.out
  obtain ⟨n0, n1, n2, n3, n4⟩ := cells5 HM2.out
  have f0 := blk_free HM0.out 0
  have f1 := blk_free HM0.out 1
  have f2 := blk_free HM0.out 2
  have f3 := blk_free HM0.out 3
  have f4 := blk_free HM0.out 4
  have g0 := blk_free HM1.out 0
  have g1 := blk_free HM1.out 1
  have g2 := blk_free HM1.out 2
  have g3 := blk_free HM1.out 3
  have g4 := blk_free HM1.out 4
  have nz : w.heap.size + 1 ≠ w.heap.size := by omega
  go_region
  all_goals go_wp2
  all_goals
    refine bodyPost_ret (v := .tuple #[.int .u8 0, .agg #[.int .u64 0, .int .i64 0, .int .u64 0, .int .i64 0, .slice none 0 0], .agg #[.slice none 0 0, .slice none 0 0, .int .i64 0, .int .u64 0, .int .i64 0]]) (by simp [results, Try.results14, go_sem, t0, t1, t2, t3, t4, x0, x1, x2, x3, x4]) rfl ?_
    exact ⟨rfl, (ten5 (S := fun _ => False) (Mod.of_below HB3.out) (Nat.le_refl _) (Nat.le_succ _)).drew.to_below⟩
set_option maxRecDepth 100000 in
set_option maxHeartbeats 4000000 in
theorem ref15_Decode_none {I : Nat → Prop} {A : Option Addr} {c : Nat} {P : List UInt8} {x : UInt8} {w : World} (hr : Row kByte I w A P) (hc : P.length ≤ c) (hm : P.length ≤ 3000) (h0 : P[0]? = some x) (h1 : x ≠ 1) (h2 : x ≠ 2) :
    Calls Try.prog 14 #[.slice A P.length c] w fun e w' => e = .returned (.tuple #[.int .u8 0, .agg #[.int .u64 0, .int .i64 0, .int .u64 0, .int .i64 0, .slice none 0 0], .agg #[.slice none 0 0, .slice none 0 0, .int .i64 0, .int .u64 0, .int .i64 0]]) ∧ Below w.heap.size w w' := by
  obtain ⟨b, o, rfl, _, hcell⟩ := Row.byte hr (by rintro rfl; simp at h0)
  have hb0 := hcell 0 (by have := (List.getElem?_eq_some_iff.1 h0).1; omega)
  rw [h0] at hb0
  simp at hb0
  have hpos : ¬ (P.length : Int) = 0 := by have := (List.getElem?_eq_some_iff.1 h0).1; omega
  have hpb : ((P.length : Int) == 0) = false := by simpa using hpos
  have hx1 : ((x.toNat : Int) == 1) = false := by rw [beq_eq_false_iff_ne]; intro hh; exact h1 (UInt8.toNat_inj.1 (by show x.toNat = 1; omega))
  have hx2 : ((x.toNat : Int) != 2) = true := by rw [bne_iff_ne]; intro hh; exact h2 (UInt8.toNat_inj.1 (by show x.toNat = 2; omega))
  have B4 : Below w.heap.size w ((((w.alloc (.cells #[.int .u64 0, .int .i64 0, .int .u64 0, .int .i64 0, .slice none 0 0] 29)).alloc (.cells #[.slice none 0 0, .slice none 0 0, .int .i64 0, .int .u64 0, .int .i64 0] 38)).alloc (.cells #[.int .u64 0, .int .i64 0, .int .u64 0, .int .i64 0, .slice none 0 0] 29)).alloc (.cells #[.slice (some ⟨b, o, none⟩) P.length c, .int .i64 1] 79)) := (((below_alloc1 w _).alloc (by simp) _).alloc (by simp; omega) _).alloc (by simp; omega) _
  have q4 := pw_cell B4 hb0
  have B5 : Below w.heap.size w (((((w.alloc (.cells #[.int .u64 0, .int .i64 0, .int .u64 0, .int .i64 0, .slice none 0 0] 29)).alloc (.cells #[.slice none 0 0, .slice none 0 0, .int .i64 0, .int .u64 0, .int .i64 0] 38)).alloc (.cells #[.int .u64 0, .int .i64 0, .int .u64 0, .int .i64 0, .slice none 0 0] 29)).alloc (.cells #[.slice (some ⟨b, o, none⟩) P.length c, .int .i64 1] 79)).alloc (.cells #[.slice none 0 0, .slice none 0 0, .int .i64 0, .int .u64 0, .int .i64 0] 38)) := B4.alloc B4.size _
  have q5 := pw_cell B5 hb0
  have m0 : (((((w.alloc (.cells #[.int .u64 0, .int .i64 0, .int .u64 0, .int .i64 0, .slice none 0 0] 29)).alloc (.cells #[.slice none 0 0, .slice none 0 0, .int .i64 0, .int .u64 0, .int .i64 0] 38)).alloc (.cells #[.int .u64 0, .int .i64 0, .int .u64 0, .int .i64 0, .slice none 0 0] 29)).alloc (.cells #[.slice (some ⟨b, o, none⟩) P.length c, .int .i64 1] 79)).alloc (.cells #[.slice none 0 0, .slice none 0 0, .int .i64 0, .int .u64 0, .int .i64 0] 38)).heap[w.heap.size]? = some (.cells #[.int .u64 0, .int .i64 0, .int .u64 0, .int .i64 0, .slice none 0 0] 29 (0, 0)) := alloc_blk (alloc_blk (alloc_blk (alloc_blk (heap_alloc_new w _) _) _) _) _
  have m1 : (((((w.alloc (.cells #[.int .u64 0, .int .i64 0, .int .u64 0, .int .i64 0, .slice none 0 0] 29)).alloc (.cells #[.slice none 0 0, .slice none 0 0, .int .i64 0, .int .u64 0, .int .i64 0] 38)).alloc (.cells #[.int .u64 0, .int .i64 0, .int .u64 0, .int .i64 0, .slice none 0 0] 29)).alloc (.cells #[.slice (some ⟨b, o, none⟩) P.length c, .int .i64 1] 79)).alloc (.cells #[.slice none 0 0, .slice none 0 0, .int .i64 0, .int .u64 0, .int .i64 0] 38)).heap[w.heap.size + 1]? = some (.cells #[.slice none 0 0, .slice none 0 0, .int .i64 0, .int .u64 0, .int .i64 0] 38 (0, 0)) := alloc_blk (alloc_blk (alloc_blk (by simpa using heap_alloc_new (w.alloc (.cells #[.int .u64 0, .int .i64 0, .int .u64 0, .int .i64 0, .slice none 0 0] 29)) (.cells #[.slice none 0 0, .slice none 0 0, .int .i64 0, .int .u64 0, .int .i64 0] 38)) _) _) _
  have m2 : (((((w.alloc (.cells #[.int .u64 0, .int .i64 0, .int .u64 0, .int .i64 0, .slice none 0 0] 29)).alloc (.cells #[.slice none 0 0, .slice none 0 0, .int .i64 0, .int .u64 0, .int .i64 0] 38)).alloc (.cells #[.int .u64 0, .int .i64 0, .int .u64 0, .int .i64 0, .slice none 0 0] 29)).alloc (.cells #[.slice (some ⟨b, o, none⟩) P.length c, .int .i64 1] 79)).alloc (.cells #[.slice none 0 0, .slice none 0 0, .int .i64 0, .int .u64 0, .int .i64 0] 38)).heap[w.heap.size + 1 + 1]? = some (.cells #[.int .u64 0, .int .i64 0, .int .u64 0, .int .i64 0, .slice none 0 0] 29 (0, 0)) := alloc_blk (alloc_blk (by simpa using heap_alloc_new ((w.alloc (.cells #[.int .u64 0, .int .i64 0, .int .u64 0, .int .i64 0, .slice none 0 0] 29)).alloc (.cells #[.slice none 0 0, .slice none 0 0, .int .i64 0, .int .u64 0, .int .i64 0] 38)) (.cells #[.int .u64 0, .int .i64 0, .int .u64 0, .int .i64 0, .slice none 0 0] 29)) _) _
  have m4 : (((((w.alloc (.cells #[.int .u64 0, .int .i64 0, .int .u64 0, .int .i64 0, .slice none 0 0] 29)).alloc (.cells #[.slice none 0 0, .slice none 0 0, .int .i64 0, .int .u64 0, .int .i64 0] 38)).alloc (.cells #[.int .u64 0, .int .i64 0, .int .u64 0, .int .i64 0, .slice none 0 0] 29)).alloc (.cells #[.slice (some ⟨b, o, none⟩) P.length c, .int .i64 1] 79)).alloc (.cells #[.slice none 0 0, .slice none 0 0, .int .i64 0, .int .u64 0, .int .i64 0] 38)).heap[w.heap.size + 1 + 1 + 1 + 1]? = some (.cells #[.slice none 0 0, .slice none 0 0, .int .i64 0, .int .u64 0, .int .i64 0] 38 (0, 0)) := by simpa using heap_alloc_new ((((w.alloc (.cells #[.int .u64 0, .int .i64 0, .int .u64 0, .int .i64 0, .slice none 0 0] 29)).alloc (.cells #[.slice none 0 0, .slice none 0 0, .int .i64 0, .int .u64 0, .int .i64 0] 38)).alloc (.cells #[.int .u64 0, .int .i64 0, .int .u64 0, .int .i64 0, .slice none 0 0] 29)).alloc (.cells #[.slice (some ⟨b, o, none⟩) P.length c, .int .i64 1] 79)) (.cells #[.slice none 0 0, .slice none 0 0, .int .i64 0, .int .u64 0, .int .i64 0] 38)
  have HB5 := Lib.hid B5
  have HM0 := Lib.hid m0
  have HM1 := Lib.hid m1
  have HM2 := Lib.hid m2
  have HM4 := Lib.hid m4
  clear hr hcell B4 B5 m0 m1 m2 m4
  go_enter Try.func14, Try.ntmps14
  go_wp2_with fail
  clear q4 q5
  generalize (((((w.alloc (.cells #[.int .u64 0, .int .i64 0, .int .u64 0, .int .i64 0, .slice none 0 0] 29)).alloc (.cells #[.slice none 0 0, .slice none 0 0, .int .i64 0, .int .u64 0, .int .i64 0] 38)).alloc (.cells #[.int .u64 0, .int .i64 0, .int .u64 0, .int .i64 0, .slice none 0 0] 29)).alloc (.cells #[.slice (some ⟨b, o, none⟩) P.length c, .int .i64 1] 79)).alloc (.cells #[.slice none 0 0, .slice none 0 0, .int .i64 0, .int .u64 0, .int .i64 0] 38)) = V at HB5 HM0 HM1 HM2 HM4 ⊢
  obtain ⟨t0, t1, t2, t3, t4⟩ := cells5 HM0.out
  obtain ⟨x0, x1, x2, x3, x4⟩ := cells5 HM1.out
  obtain ⟨n0, n1, n2, n3, n4⟩ := cells5 HM2.out
  obtain ⟨d0, d1, d2, d3, d4⟩ := cells5 HM4.out
  have f0 := blk_free HM0.out 0
  have f1 := blk_free HM0.out 1
  have f2 := blk_free HM0.out 2
  have f3 := blk_free HM0.out 3
  have f4 := blk_free HM0.out 4
  have g0 := blk_free HM1.out 0
  have g1 := blk_free HM1.out 1
  have g2 := blk_free HM1.out 2
  have g3 := blk_free HM1.out 3
  have g4 := blk_free HM1.out 4
  have nz : w.heap.size + 1 ≠ w.heap.size := by omega
  go_region
  all_goals go_wp2
  all_goals
    refine bodyPost_ret (v := .tuple #[.int .u8 0, .agg #[.int .u64 0, .int .i64 0, .int .u64 0, .int .i64 0, .slice none 0 0], .agg #[.slice none 0 0, .slice none 0 0, .int .i64 0, .int .u64 0, .int .i64 0]]) (by simp [results, Try.results14, go_sem, t0, t1, t2, t3, t4, x0, x1, x2, x3, x4]) rfl ?_
    exact ⟨rfl, (ten5 (S := fun _ => False) (Mod.of_below HB5.out) (Nat.le_refl _) (Nat.le_succ _)).drew.to_below⟩
theorem rL_form (P : List UInt8) (k : Nat) (bad : Bool) (h : (rL P k bad).2.2 = false) : (rL P k bad).1.form = true := by
  unfold rL at h ⊢
  split
  · rename_i hh
    rw [if_pos hh] at h
    cases h
  · rename_i hh
    simp only [not_or, Bool.not_eq_true, Bool.not_eq_false] at hh
    exact hh.2
theorem rB_le (m : Nat) (P : List UInt8) (k : Nat) (bad : Bool) : (rRB m P k bad).1.length ≤ m := by
  unfold rRB
  split
  · simp
  · have := rI_le15 P k bad m
    simp
    omega
theorem rRB_bad (m : Nat) (P : List UInt8) (k : Nat) : (rRB m P k true).2.2 = true := by
  simp [rRB, rRI, rRU]
theorem rE_form (P : List UInt8) (k : Nat) (bad : Bool) (h : (rE P k bad).2.2 = false) : (rE P k bad).1.form = true := by
  unfold rE at h ⊢
  dsimp only at h ⊢
  have h1 : (rL P k bad).2.2 = false := by
    cases hh : (rL P k bad).2.2 with
    | false => rfl
    | true =>
      rw [hh, rRB_bad] at h
      cases h
  simp only [Ent.form, decide_eq_true_eq]
  exact ⟨rL_form P k bad h1, rB_le _ _ _ _⟩
namespace M
/-- An entry is told of bytes that begin with 1. -/
def rOneOk (P : List UInt8) : Prop := (rE P 1 false).2.2 = false ∧ (rE P 1 false).2.1 = P.length ∧ 1 :: eEnc (rE P 1 false).1 = P
end M
set_option maxRecDepth 100000 in
set_option maxHeartbeats 4000000 in
theorem ref15_Decode_one {I : Nat → Prop} {A : Option Addr} {c : Nat} {P : List UInt8} {w : World} (hr : Row kByte I w A P) (hc : P.length ≤ c) (hm : P.length ≤ 3000) (h2 : P[0]? = some 1) (ok : Bool) (hok : ok = true ↔ rOneOk P) (hbd : ∀ k, I k → k < w.heap.size) :
    Calls Try.prog 14 #[.slice A P.length c] w fun e w' => ∃ v, e = .returned (.tuple #[.int .u8 (if ok then 1 else 0), .agg #[.int .u64 (if ok then (rE P 1 false).1 else default).l.n, .int .i64 (if ok then (rE P 1 false).1 else default).l.p, .int .u64 (if ok then (rE P 1 false).1 else default).l.s, .int .i64 (if ok then (rE P 1 false).1 else default).l.q, v], .agg #[.slice none 0 0, .slice none 0 0, .int .i64 0, .int .u64 0, .int .i64 0]]) ∧
      SV kByte (fun k => I k ∨ w.heap.size ≤ k) w' v (if ok then (rE P 1 false).1 else default).m ∧ Below w.heap.size w w' := by
  obtain ⟨b, o, rfl, _, hcell⟩ := Row.byte hr (by rintro rfl; simp at h2)
  have hb0 := hcell 0 (by have := (List.getElem?_eq_some_iff.1 h2).1; omega)
  rw [h2] at hb0
  simp at hb0
  have hp1 : 1 ≤ P.length := by have := (List.getElem?_eq_some_iff.1 h2).1; omega
  have HR := Lib.hid hr
  have hpos : ¬ (P.length : Int) = 0 := by omega
  have hpb : ((P.length : Int) == 0) = false := by simpa using hpos
  have B4 : Below w.heap.size w ((((w.alloc (.cells #[.int .u64 0, .int .i64 0, .int .u64 0, .int .i64 0, .slice none 0 0] 29)).alloc (.cells #[.slice none 0 0, .slice none 0 0, .int .i64 0, .int .u64 0, .int .i64 0] 38)).alloc (.cells #[.int .u64 0, .int .i64 0, .int .u64 0, .int .i64 0, .slice none 0 0] 29)).alloc (.cells #[.slice (some ⟨b, o, none⟩) P.length c, .int .i64 1] 79)) := (((below_alloc1 w _).alloc (by simp) _).alloc (by simp; omega) _).alloc (by simp; omega) _
  have q4 := pw_cell B4 hb0
  have m0 : ((((w.alloc (.cells #[.int .u64 0, .int .i64 0, .int .u64 0, .int .i64 0, .slice none 0 0] 29)).alloc (.cells #[.slice none 0 0, .slice none 0 0, .int .i64 0, .int .u64 0, .int .i64 0] 38)).alloc (.cells #[.int .u64 0, .int .i64 0, .int .u64 0, .int .i64 0, .slice none 0 0] 29)).alloc (.cells #[.slice (some ⟨b, o, none⟩) P.length c, .int .i64 1] 79)).heap[w.heap.size]? = some (.cells #[.int .u64 0, .int .i64 0, .int .u64 0, .int .i64 0, .slice none 0 0] 29 (0, 0)) := alloc_blk (alloc_blk (alloc_blk (heap_alloc_new w _) _) _) _
  have m1 : ((((w.alloc (.cells #[.int .u64 0, .int .i64 0, .int .u64 0, .int .i64 0, .slice none 0 0] 29)).alloc (.cells #[.slice none 0 0, .slice none 0 0, .int .i64 0, .int .u64 0, .int .i64 0] 38)).alloc (.cells #[.int .u64 0, .int .i64 0, .int .u64 0, .int .i64 0, .slice none 0 0] 29)).alloc (.cells #[.slice (some ⟨b, o, none⟩) P.length c, .int .i64 1] 79)).heap[w.heap.size + 1]? = some (.cells #[.slice none 0 0, .slice none 0 0, .int .i64 0, .int .u64 0, .int .i64 0] 38 (0, 0)) := alloc_blk (alloc_blk (by simpa using heap_alloc_new (w.alloc (.cells #[.int .u64 0, .int .i64 0, .int .u64 0, .int .i64 0, .slice none 0 0] 29)) (.cells #[.slice none 0 0, .slice none 0 0, .int .i64 0, .int .u64 0, .int .i64 0] 38)) _) _
  have m2 : ((((w.alloc (.cells #[.int .u64 0, .int .i64 0, .int .u64 0, .int .i64 0, .slice none 0 0] 29)).alloc (.cells #[.slice none 0 0, .slice none 0 0, .int .i64 0, .int .u64 0, .int .i64 0] 38)).alloc (.cells #[.int .u64 0, .int .i64 0, .int .u64 0, .int .i64 0, .slice none 0 0] 29)).alloc (.cells #[.slice (some ⟨b, o, none⟩) P.length c, .int .i64 1] 79)).heap[w.heap.size + 1 + 1]? = some (.cells #[.int .u64 0, .int .i64 0, .int .u64 0, .int .i64 0, .slice none 0 0] 29 (0, 0)) := alloc_blk (by simpa using heap_alloc_new ((w.alloc (.cells #[.int .u64 0, .int .i64 0, .int .u64 0, .int .i64 0, .slice none 0 0] 29)).alloc (.cells #[.slice none 0 0, .slice none 0 0, .int .i64 0, .int .u64 0, .int .i64 0] 38)) (.cells #[.int .u64 0, .int .i64 0, .int .u64 0, .int .i64 0, .slice none 0 0] 29)) _
  have m3 : ((((w.alloc (.cells #[.int .u64 0, .int .i64 0, .int .u64 0, .int .i64 0, .slice none 0 0] 29)).alloc (.cells #[.slice none 0 0, .slice none 0 0, .int .i64 0, .int .u64 0, .int .i64 0] 38)).alloc (.cells #[.int .u64 0, .int .i64 0, .int .u64 0, .int .i64 0, .slice none 0 0] 29)).alloc (.cells #[.slice (some ⟨b, o, none⟩) P.length c, .int .i64 1] 79)).heap[w.heap.size + 1 + 1 + 1]? = some (.cells #[.slice (some ⟨b, o, none⟩) P.length c, .int .i64 1] 79 (0, 0)) := by simpa using heap_alloc_new (((w.alloc (.cells #[.int .u64 0, .int .i64 0, .int .u64 0, .int .i64 0, .slice none 0 0] 29)).alloc (.cells #[.slice none 0 0, .slice none 0 0, .int .i64 0, .int .u64 0, .int .i64 0] 38)).alloc (.cells #[.int .u64 0, .int .i64 0, .int .u64 0, .int .i64 0, .slice none 0 0] 29)) (.cells #[.slice (some ⟨b, o, none⟩) P.length c, .int .i64 1] 79)
  have hz4 : ((((w.alloc (.cells #[.int .u64 0, .int .i64 0, .int .u64 0, .int .i64 0, .slice none 0 0] 29)).alloc (.cells #[.slice none 0 0, .slice none 0 0, .int .i64 0, .int .u64 0, .int .i64 0] 38)).alloc (.cells #[.int .u64 0, .int .i64 0, .int .u64 0, .int .i64 0, .slice none 0 0] 29)).alloc (.cells #[.slice (some ⟨b, o, none⟩) P.length c, .int .i64 1] 79)).heap.size = w.heap.size + 4 := by simp
  have HR0 : Rfr I ((((w.alloc (.cells #[.int .u64 0, .int .i64 0, .int .u64 0, .int .i64 0, .slice none 0 0] 29)).alloc (.cells #[.slice none 0 0, .slice none 0 0, .int .i64 0, .int .u64 0, .int .i64 0] 38)).alloc (.cells #[.int .u64 0, .int .i64 0, .int .u64 0, .int .i64 0, .slice none 0 0] 29)).alloc (.cells #[.slice (some ⟨b, o, none⟩) P.length c, .int .i64 1] 79)) (w.heap.size + 1 + 1 + 1) P 1 false := ⟨fun hk => by have := hbd _ hk; omega, by omega, hp1, _, c, m3, hc, hr.below B4⟩
  have HRF := Lib.hid HR0
  have HB4 := Lib.hid B4
  have HM0 := Lib.hid m0
  have HM1 := Lib.hid m1
  have HM2 := Lib.hid m2
  clear hr hcell HR0 B4 m0 m1 m2 m3
  go_enter Try.func14, Try.ntmps14
  go_wp2_with fail
  refine (ref15_unone HRF.out).mono ?_
  rintro e w1 ⟨v, rfl, hv, hR1, hM1⟩
  have hdef := Lib.hid (show rOneOk P ↔ (rE P 1 false).2.2 = false ∧ (rE P 1 false).2.1 = P.length ∧ 1 :: eEnc (rE P 1 false).1 = P from Iff.rfl)
  have hxok := rE_ok P 1 false
  have hxf := rE_form P 1 false
  have HOK := Lib.hid hok
  clear q4 hok
  generalize ((((w.alloc (.cells #[.int .u64 0, .int .i64 0, .int .u64 0, .int .i64 0, .slice none 0 0] 29)).alloc (.cells #[.slice none 0 0, .slice none 0 0, .int .i64 0, .int .u64 0, .int .i64 0] 38)).alloc (.cells #[.int .u64 0, .int .i64 0, .int .u64 0, .int .i64 0, .slice none 0 0] 29)).alloc (.cells #[.slice (some ⟨b, o, none⟩) P.length c, .int .i64 1] 79)) = V at HRF HB4 HM0 HM1 HM2 hz4 hM1
  generalize hu : rE P 1 false = u at hdef hxok hxf hv hR1 ⊢
  obtain ⟨⟨⟨n, p, s, q⟩, m⟩, k, bad⟩ := u
  have HU := Lib.hid hu
  clear hu
  dsimp only at hdef hxok hxf hv hR1 ⊢
  obtain ⟨A', c', rfl, hc', hrow⟩ := hv
  have HMV := Lib.hid (hM1.alloc (.cells #[.int .u64 n, .int .i64 p, .int .u64 s, .int .i64 q, .slice A' m.length c'] 29))
  have HN := Lib.hid (heap_alloc_new w1 (.cells #[.int .u64 n, .int .i64 p, .int .u64 s, .int .i64 q, .slice A' m.length c'] 29))
  have HR1 := Lib.hid (hR1.alloc (.cells #[.int .u64 n, .int .i64 p, .int .u64 s, .int .i64 q, .slice A' m.length c'] 29))
  have HV := Lib.hid (hrow.below (below_alloc1 w1 (.cells #[.int .u64 n, .int .i64 p, .int .u64 s, .int .i64 q, .slice A' m.length c'] 29)))
  have hz1 : w.heap.size + 4 ≤ w1.heap.size := by have := hM1.size; omega
  clear hrow hR1 hM1
  go_wp2_with fail
  generalize w1.alloc (.cells #[.int .u64 n, .int .i64 p, .int .u64 s, .int .i64 q, .slice A' m.length c'] 29) = V5 at HMV HN HR1 HV ⊢
  obtain ⟨r1, _⟩ := HR1.out.cells
  have hat : ∃ a : Int, (if bad = true then -1 else (k : Int)) = a ∧ -1 ≤ a ∧ a ≤ 3000 := by
    have := HR1.out.2.2.1
    refine ⟨_, rfl, ?_⟩
    split <;> omega
  obtain ⟨at_, hat, hatl⟩ := hat
  rw [hat] at r1
  have HAT := Lib.hid hat
  clear hat
  have hat2 : at_ = P.length ∨ at_ ≠ P.length := Decidable.em _
  obtain ⟨d0, d1, d2, d3, d4⟩ := cells5 HN.out
  have HRP := Lib.hid (HR.out.step ((Mod.of_below (S := fun j => w.heap.size ≤ j) HB4.out).trans' HMV.out (fun j hj => .inl (by omega)) |>.agr (I := I) (fun j hj => by have := hbd _ hj; omega)))
  go_cut [42] (fun t W => t = .bool ok ∧ Below V5.heap.size V5 W)
  case rest =>
    obtain ⟨rfl, hb⟩ := hcut
    have hmv := HMV.out.below hb
    obtain ⟨t0, t1, t2, t3, t4⟩ := cells5 (mod_blk hmv HM0.out (by omega))
    obtain ⟨x0, x1, x2, x3, x4⟩ := cells5 (mod_blk hmv HM1.out (by omega))
    obtain ⟨n0, n1, n2, n3, n4⟩ := cells5 (mod_blk hmv HM2.out (by omega))
    have f0 := blk_free (mod_blk hmv HM0.out (by omega)) 0
    have f1 := blk_free (mod_blk hmv HM0.out (by omega)) 1
    have f2 := blk_free (mod_blk hmv HM0.out (by omega)) 2
    have f3 := blk_free (mod_blk hmv HM0.out (by omega)) 3
    have f4 := blk_free (mod_blk hmv HM0.out (by omega)) 4
    have g0 := blk_free (mod_blk hmv HM1.out (by omega)) 0
    have g1 := blk_free (mod_blk hmv HM1.out (by omega)) 1
    have g2 := blk_free (mod_blk hmv HM1.out (by omega)) 2
    have g3 := blk_free (mod_blk hmv HM1.out (by omega)) 3
    have g4 := blk_free (mod_blk hmv HM1.out (by omega)) 4
    obtain ⟨d0, d1, d2, d3, d4⟩ := cells5 (below_blk hb HN.out)
    have HB := Lib.hid hb
    have HMW := Lib.hid ((Mod.of_below (S := fun j => w.heap.size ≤ j) HB4.out).trans' hmv (fun j hj => .inl (by omega)))
    have nz : w.heap.size + 1 ≠ w.heap.size := by omega
    clear hb hmv r1 hat2
    cases ok
    · go_wp2_with fail
      go_region
      all_goals go_wp2
      all_goals
        refine bodyPost_ret (v := .tuple #[.int .u8 0, .agg #[.int .u64 0, .int .i64 0, .int .u64 0, .int .i64 0, .slice none 0 0], .agg #[.slice none 0 0, .slice none 0 0, .int .i64 0, .int .u64 0, .int .i64 0]]) (by simp [results, Try.results14, go_sem, t0, t1, t2, t3, t4, x0, x1, x2, x3, x4]) rfl ?_
        exact ⟨.slice none 0 0, rfl, SV.nil _ _ _, (ten5 HMW.out (Nat.le_refl _) (Nat.le_succ _)).drew.to_below' (fun _ hk => hk)⟩
    · go_wp2_with fail
      go_region
      all_goals go_wp2
      all_goals
        refine bodyPost_ret (v := .tuple #[.int .u8 1, .agg #[.int .u64 n, .int .i64 p, .int .u64 s, .int .i64 q, .slice A' m.length c'], .agg #[.slice none 0 0, .slice none 0 0, .int .i64 0, .int .u64 0, .int .i64 0]]) (by simp [results, Try.results14, go_sem, t0, t1, t2, t3, t4, x0, x1, x2, x3, x4]) rfl ?_
        simp only [HU.out]
        refine ⟨.slice A' m.length c', rfl, ⟨A', c', rfl, hc', ?_⟩, (ten5 HMW.out (Nat.le_refl _) (Nat.le_succ _)).drew.to_below' (fun _ hk => hk)⟩
        exact (((((HV.out.below HB.out).step (agr5 (fun hk => by have := hbd _ hk; omega))).step (agr5 (fun hk => by have := hbd _ hk; omega))).below (Below.refl _ _).drew)).mono (fun j hj => .inl hj)
  case first =>
    rcases hat2 with rfl | hat2
    · have hab : ((P.length : Int) == (P.length : Int)) = true := by simp
      have hbk : bad = false ∧ k = P.length := by
        have := HAT.out
        cases bad with
        | false =>
          rw [if_neg (by simp)] at this
          exact ⟨rfl, by omega⟩
        | true =>
          rw [if_pos rfl] at this
          omega
      obtain ⟨rfl, rfl⟩ := hbk
      have hxf' := hxf rfl
      have hst := str_toList
      have HOK2 := Lib.hid (show ok = decide (1 :: eEnc ⟨⟨n, p, s, q⟩, m⟩ = P) from by
        by_cases hh : 1 :: eEnc ⟨⟨n, p, s, q⟩, m⟩ = P
        · rw [decide_eq_true hh]
          exact HOK.out.2 (hdef.out.2 ⟨rfl, rfl, hh⟩)
        · rw [decide_eq_false hh]
          exact Bool.eq_false_iff.2 (fun h1 => hh (hdef.out.1 (HOK.out.1 h1)).2.2))
      have HK : Hid (∀ W, Below V5.heap.size V5 W → (W.cell? ⟨w1.heap.size, 0, none⟩ = some (.int .u64 n) ∧ W.cell? ⟨w1.heap.size, 1, none⟩ = some (.int .i64 p) ∧ W.cell? ⟨w1.heap.size, 2, none⟩ = some (.int .u64 s) ∧ W.cell? ⟨w1.heap.size, 3, none⟩ = some (.int .i64 q) ∧ W.cell? ⟨w1.heap.size, 4, none⟩ = some (.slice A' m.length c') ∧ W.cell? ⟨w.heap.size + 1 + 1 + 1, 1, none⟩ = some (.int .i64 (P.length : Int)) ∧
          (convert 27 9 (.slice (some ⟨b, o, none⟩) P.length c)).run Try.prog W = .ok (.string (str P)) W)) := Lib.hid (fun W hb => ⟨pw_cell hb d0, pw_cell hb d1, pw_cell hb d2, pw_cell hb d3, pw_cell hb d4, pw_cell hb r1, convert_str (HRP.out.below hb)⟩)
      have HON := Lib.hid (fun (W : World) (hb : Below V5.heap.size V5 W) => ref15_One (c := c') ⟨⟨n, p, s, q⟩, m⟩ hxok (HV.out.below hb) hc' hxf')
      generalize eEnc ⟨⟨n, p, s, q⟩, m⟩ = ee at HON HOK2
      have hee : (1 :: ee == P) = true ∧ 1 :: ee = P ∨ (1 :: ee == P) = false ∧ 1 :: ee ≠ P := by
        by_cases hh : 1 :: ee = P
        · exact .inl ⟨by simp [hh], hh⟩
        · exact .inr ⟨by simp [hh], hh⟩
      dsimp only at HON
      clear d0 d1 d2 d3 d4 r1 HOK hdef
      rcases hee with ⟨hb1, hb2⟩ | ⟨hb1, hb2⟩
      all_goals
        have HB2 := Lib.hid hb2
        clear hb2
        go_wp2_with fail
        go_region_held (fun W => W.cell? ⟨w1.heap.size, 0, none⟩ = some (.int .u64 n) ∧ W.cell? ⟨w1.heap.size, 1, none⟩ = some (.int .i64 p) ∧ W.cell? ⟨w1.heap.size, 2, none⟩ = some (.int .u64 s) ∧ W.cell? ⟨w1.heap.size, 3, none⟩ = some (.int .i64 q) ∧ W.cell? ⟨w1.heap.size, 4, none⟩ = some (.slice A' m.length c') ∧ W.cell? ⟨w.heap.size + 1 + 1 + 1, 1, none⟩ = some (.int .i64 (P.length : Int)) ∧
          (convert 27 9 (.slice (some ⟨b, o, none⟩) P.length c)).run Try.prog W = .ok (.string (str P)) W)
          (first
            | exact HK.out _ (Below.refl _ _).drew
            | exact HK.out _ (Below.refl _ _)
            | exact HK.out _ (Below.trans (Below.refl _ _).drew hb7))
          (first
            | (go_simp
               go_at_call 12
               refine (HON.out _ (Below.refl _ _).drew).mono ?_
               rintro e w7 ⟨v7, rfl, ho7, hb7⟩
               obtain ⟨A7, c7, e7, hc7, hr7⟩ := M.Own.sv ho7
               have hq7 := convert_str (c := c7) hr7
               rw [List.length_cons] at hq7 e7
               subst e7
               clear ho7 hr7))
        all_goals go_wp2_with fail
        all_goals go_meet
        all_goals exact ⟨by rw [HOK2.out]; simp [HB2.out], Below.trans (Below.refl _ _).drew hb7⟩
    · have hab : (at_ == (P.length : Int)) = false := by simp [hat2]
      have HNO := Lib.hid (show ok = false from Bool.eq_false_iff.2 (fun hh => hat2 (by have := hdef.out.1 (HOK.out.1 hh); rw [← HAT.out, this.1, if_neg (by simp), this.2.1])))
      clear hat2
      go_wp2_with fail
      go_quiet (fail)
      go_wp2_with fail
      go_meet
      exact ⟨by rw [HNO.out], below_drewN (Below.refl _ _) _⟩
end Go.Proofs.Ytdgdiikijjlnnaa
