/- content.Decode, where nothing is told. -/
import Derived.Test.YtdgdiikijjlnnaaDec2
namespace Go.Proofs.Ytdgdiikijjlnnaa
open Go.RowKit Go.Sort M
set_option maxRecDepth 100000 in
set_option maxHeartbeats 4000000 in
theorem decode_nil {A : Option Addr} {c : Nat} {w : World} :
    Calls Try.prog 11 #[.slice A 0 c] w fun e w' => e = .returned (.tuple #[.int .u8 0, .agg #[.int .u64 0, .int .i64 0, .int .u64 0, .int .i64 0, .slice none 0 0], .agg #[.slice none 0 0, .slice none 0 0, .int .i64 0, .int .u64 0, .int .i64 0], .int .i64 3]) ∧ Below w.heap.size w w' := by
  have HB0 := Lib.hid (((below_alloc1 w (.cells #[.int .u64 0, .int .i64 0, .int .u64 0, .int .i64 0, .slice none 0 0] 29)).alloc (by simp) (.cells #[.slice none 0 0, .slice none 0 0, .int .i64 0, .int .u64 0, .int .i64 0] 38)))
  go_enter Try.func11, Try.ntmps11
  go_wp2
  refine bodyPost_ret (v := .tuple #[.int .u8 0, .agg #[.int .u64 0, .int .i64 0, .int .u64 0, .int .i64 0, .slice none 0 0], .agg #[.slice none 0 0, .slice none 0 0, .int .i64 0, .int .u64 0, .int .i64 0], .int .i64 3]) (by simp [results, Try.results11, go_sem]) rfl ?_
  exact ⟨rfl, HB0.out⟩
set_option maxRecDepth 100000 in
set_option maxHeartbeats 4000000 in
theorem decode_none {I : Nat → Prop} {A : Option Addr} {c : Nat} {x : UInt8} {r : List UInt8} {w : World} (hr : Row kByte I w A (x :: r)) (hc : r.length + 1 ≤ c) (hm : r.length ≤ 3000) (h1 : x ≠ 1) (h2 : x ≠ 2) :
    Calls Try.prog 11 #[.slice A (r.length + 1) c] w fun e w' => e = .returned (.tuple #[.int .u8 0, .agg #[.int .u64 0, .int .i64 0, .int .u64 0, .int .i64 0, .slice none 0 0], .agg #[.slice none 0 0, .slice none 0 0, .int .i64 0, .int .u64 0, .int .i64 0], .int .i64 3]) ∧ Below w.heap.size w w' := by
  obtain ⟨b, o, rfl, _, hcell⟩ := Row.byte hr (by simp)
  have hb0 := hcell 0 (by simp)
  simp at hb0
  obtain ⟨A1, c1, hsl, hc1, hr1⟩ := tail_slice hr hc
  have hx1 : ((x.toNat : Int) == 1) = false := by rw [beq_eq_false_iff_ne]; intro hh; exact h1 (UInt8.toNat_inj.1 (by show x.toNat = 1; omega))
  have hx2 : ((x.toNat : Int) == 2) = false := by rw [beq_eq_false_iff_ne]; intro hh; exact h2 (UInt8.toNat_inj.1 (by show x.toNat = 2; omega))
  have HT' := Lib.hid hr1.bound
  have HN := Lib.hid (fun W (hW : Row kByte (fun k => I k ∧ k < w.heap.size) W A1 r) (hs : w.heap.size ≤ W.heap.size) => new_reader hW hc1 (by omega) (fun k hk h => by have := h.2; omega))
  have hb0l := World.block_lt_of_cell? w _ hb0
  dsimp only at hb0l
  have HB0 := Lib.hid (((below_alloc1 w (.cells #[.int .u64 0, .int .i64 0, .int .u64 0, .int .i64 0, .slice none 0 0] 29)).alloc (by simp) (.cells #[.slice none 0 0, .slice none 0 0, .int .i64 0, .int .u64 0, .int .i64 0] 38)))
  have h3 := alloc_blk (heap_alloc_new w (.cells #[.int .u64 0, .int .i64 0, .int .u64 0, .int .i64 0, .slice none 0 0] 29)) (.cells #[.slice none 0 0, .slice none 0 0, .int .i64 0, .int .u64 0, .int .i64 0] 38)
  have h4 := heap_alloc_new (w.alloc (.cells #[.int .u64 0, .int .i64 0, .int .u64 0, .int .i64 0, .slice none 0 0] 29)) (.cells #[.slice none 0 0, .slice none 0 0, .int .i64 0, .int .u64 0, .int .i64 0] 38)
  simp only [World.size_alloc] at h4
  have H3 := Lib.hid h3
  have H4 := Lib.hid h4
  clear hr hcell hr1 h3 h4
  go_enter Try.func11, Try.ntmps11
  go_wp2_with fail
  refine (HN.out _ (HT'.out.below HB0.out) HB0.out.size).mono ?_
  rintro e w1 ⟨g, rfl, hg, hR1, hb1⟩
  simp at hg
  have h31 := alloc_blk (below_blk hb1 H3.out) (.cells #[.slice none 0 0, .slice none 0 0, .int .i64 0, .int .u64 0, .int .i64 0] 38)
  have h41 := alloc_blk (below_blk hb1 H4.out) (.cells #[.slice none 0 0, .slice none 0 0, .int .i64 0, .int .u64 0, .int .i64 0] 38)
  have hc1' := pw_cell HB0.out hb0
  have hc2 := pw_cell hb1 hc1'
  have hc3 := (keepA (j := o) (o := (.cells #[.slice none 0 0, .slice none 0 0, .int .i64 0, .int .u64 0, .int .i64 0] 38)) (World.block_lt_of_cell? w1 _ hc2)).trans hc2
  have HB1 := Lib.hid ((HB0.out.trans (hb1.mono (by simp; omega))).alloc (by have := hb1.size; simp at this; omega) (.cells #[.slice none 0 0, .slice none 0 0, .int .i64 0, .int .u64 0, .int .i64 0] 38))
  have nz : w.heap.size + 1 ≠ w.heap.size := by omega
  obtain ⟨t0, t1, t2, t3, t4⟩ := cells5 h31
  obtain ⟨x0, x1, x2, x3, x4⟩ := cells5 h41
  have f0 := blk_free h31 0
  have f1 := blk_free h31 1
  have f2 := blk_free h31 2
  have f3 := blk_free h31 3
  have f4 := blk_free h31 4
  have g0 := blk_free h41 0
  have g1 := blk_free h41 1
  have g2 := blk_free h41 2
  have g3 := blk_free h41 3
  have g4 := blk_free h41 4
  clear hc1' hR1 hb1 h31 h41 hc2
  go_upto_region 28 with (fail)
  generalize w1.alloc (.cells #[.slice none 0 0, .slice none 0 0, .int .i64 0, .int .u64 0, .int .i64 0] 38) = V at HB1 t0 t1 t2 t3 t4 x0 x1 x2 x3 x4 f0 f1 f2 f3 f4 g0 g1 g2 g3 g4 ⊢
  clear hc3
  go_wp2
  refine bodyPost_ret (v := .tuple #[.int .u8 0, .agg #[.int .u64 0, .int .i64 0, .int .u64 0, .int .i64 0, .slice none 0 0], .agg #[.slice none 0 0, .slice none 0 0, .int .i64 0, .int .u64 0, .int .i64 0], .int .i64 3]) (by simp [results, Try.results11, go_sem, t0, t1, t2, t3, t4, x0, x1, x2, x3, x4]) rfl ?_
  exact ⟨rfl, (ten5 (S := fun _ => False) (Mod.of_below HB1.out) (Nat.le_refl _) (Nat.le_succ _)).to_below⟩
end Go.Proofs.Ytdgdiikijjlnnaa
