/- How a view's message that bears an entry is read (content.Decode, where the first byte is 1). -/
import Derived.Test.YtdgdiikijjlnnaaEntry
namespace Go.Proofs.Ytdgdiikijjlnnaa
open Go.RowKit M

namespace M
/-- What is told of bytes behind a 1. -/
def d1 (r : List UInt8) : Ent × Bool := if (eD r false).2.1 = true ∧ (eD r false).2.2.1.length = 0 then ((eD r false).1, true) else (⟨⟨0, 0, 0, 0⟩, []⟩, false)
def d1k (r : List UInt8) : Int := if (d1 r).2 then 1 else 0
def d1e (r : List UInt8) : Int := if (d1 r).2 then 0 else 3
end M
/-- Where a slice stands behind its first element. -/
theorem row_tail {I : Nat → Prop} {w : World} {A : Option Addr} {x : UInt8} {r : List UInt8} (h : Row kByte I w A (x :: r)) : Row kByte I w (A.map fun y => y.add 1) r := by
  have := h.dropA 1
  simpa [kByte] using this
/-- b[1:], as the walk comes to it. -/
theorem tail_slice {I : Nat → Prop} {w : World} {A : Option Addr} {c : Nat} {x : UInt8} {r : List UInt8} (h : Row kByte I w A (x :: r)) (hc : r.length + 1 ≤ c) :
    ∃ A1 c1, (∀ W : World, (Instr.slice 27 (.slice A (r.length + 1) c) (some (.int .i64 1)) none none).run Try.prog W = .ok (.slice A1 r.length c1) W) ∧ r.length ≤ c1 ∧ Row kByte I w A1 r := by
  obtain ⟨i, hi, hq⟩ := Option.map_eq_some_iff.1 infoByte
  simp only [Prod.mk.injEq] at hq
  have hrun : ∀ W : World, (Instr.slice 27 (.slice A (r.length + 1) c) (some (.int .i64 1)) none none).run Try.prog W = .ok (.slice (if c = 1 then A else A.map (·.add 1)) r.length (c - 1)) W := by
    intro W
    have hel : Try.prog.elem 27 = 5 := by simp [Program.elem, Try.underlying27]
    have hu : Try.prog.underlying 27 = some (.slice (Try.prog.elem 27)) := by rw [hel]; exact Try.underlying27
    rw [run_slice_l W 27 A (r.length + 1) c hu .i64 1 (by omega) (by omega), hel]
    simp [sizeOf, typeInfo, hi, hq.2.1, sliced, Result.andThen]
  refine ⟨_, _, hrun, by omega, ?_⟩
  split
  · rw [List.eq_nil_of_length_eq_zero (l := r) (by omega)]
    exact Row.nil _ _ _ _
  · exact row_tail h
theorem ten5 {S : Nat → Prop} {b d : Nat} {w w1 : World} {v0 v1 v2 v3 v4 u0 u1 u2 u3 u4 : Value} (hM : Mod S w w1) (hW : w.heap.size ≤ b) (hD : w.heap.size ≤ d) :
    Mod S w ((((((((((w1.setCell ⟨b, 0, none⟩ v0).setCell ⟨b, 1, none⟩ v1).setCell ⟨b, 2, none⟩ v2).setCell ⟨b, 3, none⟩ v3).setCell ⟨b, 4, none⟩ v4).setCell ⟨d, 0, none⟩ u0).setCell ⟨d, 1, none⟩ u1).setCell ⟨d, 2, none⟩ u2).setCell ⟨d, 3, none⟩ u3).setCell ⟨d, 4, none⟩ u4) :=
  mod5 (mod5 hM hW) hD
theorem ten5_agr {I : Nat → Prop} {b d : Nat} {w : World} {o : Obj} {v0 v1 v2 v3 v4 u0 u1 u2 u3 u4 : Value} (hb : ¬ I b) (hd : ¬ I d) :
    Agr I w (((((((((((w.alloc o).setCell ⟨b, 0, none⟩ v0).setCell ⟨b, 1, none⟩ v1).setCell ⟨b, 2, none⟩ v2).setCell ⟨b, 3, none⟩ v3).setCell ⟨b, 4, none⟩ v4).setCell ⟨d, 0, none⟩ u0).setCell ⟨d, 1, none⟩ u1).setCell ⟨d, 2, none⟩ u2).setCell ⟨d, 3, none⟩ u3).setCell ⟨d, 4, none⟩ u4) := fun k hk hlt => by
  have h1 : k < (w.alloc o).heap.size := by simp; omega
  have h2 := agr5 (w := w.alloc o) (v0 := v0) (v1 := v1) (v2 := v2) (v3 := v3) (v4 := v4) hb k hk h1
  have h3 := agr5 (w := ((((((w.alloc o).setCell ⟨b, 0, none⟩ v0).setCell ⟨b, 1, none⟩ v1).setCell ⟨b, 2, none⟩ v2).setCell ⟨b, 3, none⟩ v3).setCell ⟨b, 4, none⟩ v4)) (v0 := u0) (v1 := u1) (v2 := u2) (v3 := u3) (v4 := u4) hd k hk (by simp [World.setCell]; simp at h1; omega)
  exact h3.trans (h2.trans (Below.heap_alloc w o k hlt))
set_option maxRecDepth 100000 in
set_option maxHeartbeats 4000000 in
theorem decode_one {I : Nat → Prop} {A : Option Addr} {c : Nat} {r : List UInt8} {w : World} (hr : Row kByte I w A (1 :: r)) (hc : r.length + 1 ≤ c) (hm : r.length ≤ 140737488355327) :
    Calls Try.prog 11 #[.slice A (r.length + 1) c] w fun e w' => ∃ v, e = .returned (.tuple #[.int .u8 (d1k r), .agg #[.int .u64 (d1 r).1.l.n, .int .i64 (d1 r).1.l.p, .int .u64 (d1 r).1.l.s, .int .i64 (d1 r).1.l.q, v], .agg #[.slice none 0 0, .slice none 0 0, .int .i64 0, .int .u64 0, .int .i64 0], .int .i64 (d1e r)]) ∧
      SV kByte (fun k => w.heap.size ≤ k) w' v (d1 r).1.m ∧ Below w.heap.size w w' := by
  obtain ⟨b, o, rfl, _, hcell⟩ := Row.byte hr (by simp)
  have hb0 := hcell 0 (by simp)
  simp at hb0
  obtain ⟨A1, c1, hsl, hc1, hr1⟩ := tail_slice hr hc
  have HT := Lib.hid hr1.bound
  have HE := Lib.hid (d1.eq_1 r)
  have HN := Lib.hid (fun W (hW : Row kByte (fun k => I k ∧ k < w.heap.size) W A1 r) (hs : w.heap.size ≤ W.heap.size) => new_reader hW hc1 (by omega) (fun k hk h => by have := h.2; omega))
  have HC := Lib.hid (fun (J : Nat → Prop) W g (hW : Rdr J W g r false) => content_entry hW)
  have hok : (eD r false).2.1 = true → (eD r false).2.2.2 = false := by
    unfold eD
    simp
  generalize eD r false = ed at HE HC hok
  obtain ⟨x, ok, l1, b1⟩ := ed
  obtain ⟨⟨n, p, s, q⟩, m⟩ := x
  dsimp only at HE HC hok
  have hb0l := World.block_lt_of_cell? w _ hb0
  dsimp only at hb0l
  have HB0 := Lib.hid (((below_alloc1 w (.cells #[.int .u64 0, .int .i64 0, .int .u64 0, .int .i64 0, .slice none 0 0] 29)).alloc (by simp) (.cells #[.slice none 0 0, .slice none 0 0, .int .i64 0, .int .u64 0, .int .i64 0] 38)))
  have h3 := alloc_blk (heap_alloc_new w (.cells #[.int .u64 0, .int .i64 0, .int .u64 0, .int .i64 0, .slice none 0 0] 29)) (.cells #[.slice none 0 0, .slice none 0 0, .int .i64 0, .int .u64 0, .int .i64 0] 38)
  have h4 := heap_alloc_new (w.alloc (.cells #[.int .u64 0, .int .i64 0, .int .u64 0, .int .i64 0, .slice none 0 0] 29)) (.cells #[.slice none 0 0, .slice none 0 0, .int .i64 0, .int .u64 0, .int .i64 0] 38)
  simp only [World.size_alloc] at h4
  have H3 := Lib.hid h3
  have H4 := Lib.hid h4
  clear hr hcell hr1 h3 h4
  have hcs : ok = false ∨ (ok = true ∧ b1 = false ∧ l1.length ≠ 0) ∨ (ok = true ∧ b1 = false ∧ l1.length = 0) := by
    cases ok
    · exact .inl rfl
    · have := hok rfl
      by_cases h : l1.length = 0
      · exact .inr (.inr ⟨rfl, this, h⟩)
      · exact .inr (.inl ⟨rfl, this, h⟩)
  clear hok
  go_enter Try.func11, Try.ntmps11
  go_wp2_with fail
  refine (HN.out _ (HT.out.below HB0.out) HB0.out.size).mono ?_
  rintro e w1 ⟨g, rfl, hg, hR1, hb1⟩
  simp at hg
  have h31 := below_blk hb1 H3.out
  have h41 := below_blk hb1 H4.out
  have hc1 := pw_cell HB0.out hb0
  have hc2 := pw_cell hb1 hc1
  have hc3 := (keepA (j := o) (o := .cells #[.slice none 0 0, .slice none 0 0, .int .i64 0, .int .u64 0, .int .i64 0] 38) (World.block_lt_of_cell? w1 _ hc2)).trans hc2
  have hz1 := hb1.size
  have hgl := hR1.lt
  simp at hz1
  have HR1 := Lib.hid (hR1.alloc (.cells #[.slice none 0 0, .slice none 0 0, .int .i64 0, .int .u64 0, .int .i64 0] 38))
  have HB1 := Lib.hid (HB0.out.trans (hb1.mono (by simp; omega)))
  have H31 := Lib.hid (alloc_blk h31 (.cells #[.slice none 0 0, .slice none 0 0, .int .i64 0, .int .u64 0, .int .i64 0] 38))
  have H41 := Lib.hid (alloc_blk h41 (.cells #[.slice none 0 0, .slice none 0 0, .int .i64 0, .int .u64 0, .int .i64 0] 38))
  have h71 := heap_alloc_new w1 (.cells #[.slice none 0 0, .slice none 0 0, .int .i64 0, .int .u64 0, .int .i64 0] 38)
  have H71 := Lib.hid h71
  clear hb0 hc1 hc2 hR1 hb1 h31 h41 h71
  go_wp2_with fail
  refine (HC.out _ _ _ HR1.out).mono ?_
  rintro e w2 ⟨v, rfl, hv, hR2, hM2⟩
  have h32 := mod_blk hM2 H31.out (by omega)
  have h42 := mod_blk hM2 H41.out (by omega)
  have h72 := mod_blk hM2 H71.out (by omega)
  have hz2 := hM2.size
  simp at hz2
  obtain ⟨A2, c2, rfl, hle2, hrow⟩ := hv
  have HV := Lib.hid hrow
  have HM2 := Lib.hid (((Mod.of_below HB1.out).alloc (.cells #[.slice none 0 0, .slice none 0 0, .int .i64 0, .int .u64 0, .int .i64 0] 38)).trans hM2)
  have HR2 := Lib.hid (hR2.alloc (.cells #[.int .u64 n, .int .i64 p, .int .u64 s, .int .i64 q, .slice A2 m.length c2] 29))
  have h33 := alloc_blk h32 (.cells #[.int .u64 n, .int .i64 p, .int .u64 s, .int .i64 q, .slice A2 m.length c2] 29)
  have h43 := alloc_blk h42 (.cells #[.int .u64 n, .int .i64 p, .int .u64 s, .int .i64 q, .slice A2 m.length c2] 29)
  have h73 := alloc_blk h72 (.cells #[.int .u64 n, .int .i64 p, .int .u64 s, .int .i64 q, .slice A2 m.length c2] 29)
  have h83 := heap_alloc_new w2 (.cells #[.int .u64 n, .int .i64 p, .int .u64 s, .int .i64 q, .slice A2 m.length c2] 29)
  obtain ⟨t0, t1, t2, t3, t4⟩ := cells5 h33
  obtain ⟨u0, u1, u2, u3, u4⟩ := cells5 h43
  obtain ⟨x0, x1, x2, x3, x4⟩ := cells5 h73
  obtain ⟨y0, y1, y2, y3, y4⟩ := cells5 h83
  have f0 := blk_free h33 0
  have f1 := blk_free h33 1
  have f2 := blk_free h33 2
  have f3 := blk_free h33 3
  have f4 := blk_free h33 4
  have g0 := blk_free h43 0
  have g1 := blk_free h43 1
  have g2 := blk_free h43 2
  have g3 := blk_free h43 3
  have g4 := blk_free h43 4
  have n1 : w.heap.size + 1 ≠ w.heap.size := by omega
  clear hR2 hM2 hrow h32 h42 h72 h33 h43 h73 h83
  rcases hcs with rfl | ⟨rfl, rfl, hl⟩ | ⟨rfl, rfl, hl⟩
  · go_wp2_with fail
    go_region
    go_wp2
    refine bodyPost_ret (v := .tuple #[.int .u8 0, .agg #[.int .u64 0, .int .i64 0, .int .u64 0, .int .i64 0, .slice none 0 0], .agg #[.slice none 0 0, .slice none 0 0, .int .i64 0, .int .u64 0, .int .i64 0], .int .i64 3]) (by simp [results, Try.results11, go_sem, t0, t1, t2, t3, t4, u0, u1, u2, u3, u4]) rfl ?_
    refine ⟨.slice none 0 0, by unfold d1k d1e; rw [HE.out]; simp, ?_, ?_⟩
    · rw [HE.out]
      exact SV.nil _ _ _
    · exact (ten5 (HM2.out.alloc _) (Nat.le_refl _) (by omega)).drew.to_below' (fun k hk => by rw [hk]; omega)
  · go_wp2_with fail
    refine (reader_Left HR2.out).mono ?_
    rintro e w3 ⟨rfl, rfl⟩
    have hl2 : (0 : Int) < l1.length := by omega
    go_wp2_with fail
    go_region
    go_wp2
    refine bodyPost_ret (v := .tuple #[.int .u8 0, .agg #[.int .u64 0, .int .i64 0, .int .u64 0, .int .i64 0, .slice none 0 0], .agg #[.slice none 0 0, .slice none 0 0, .int .i64 0, .int .u64 0, .int .i64 0], .int .i64 3]) (by simp [results, Try.results11, go_sem, t0, t1, t2, t3, t4, u0, u1, u2, u3, u4]) rfl ?_
    refine ⟨.slice none 0 0, by unfold d1k d1e; rw [HE.out]; simp[hl], ?_, ?_⟩
    · rw [HE.out]
      rw [if_neg (by simp [hl])]
      exact SV.nil _ _ _
    · exact (ten5 (HM2.out.alloc _) (Nat.le_refl _) (by omega)).drew.to_below' (fun k hk => by rw [hk]; omega)
  · go_wp2_with fail
    refine (reader_Left HR2.out).mono ?_
    rintro e w3 ⟨rfl, rfl⟩
    have hl2 : ¬ (0 : Int) < l1.length := by omega
    go_wp2_with fail
    go_region
    go_wp2
    refine bodyPost_ret (v := .tuple #[.int .u8 1, .agg #[.int .u64 n, .int .i64 p, .int .u64 s, .int .i64 q, .slice A2 m.length c2], .agg #[.slice none 0 0, .slice none 0 0, .int .i64 0, .int .u64 0, .int .i64 0], .int .i64 0]) (by simp [results, Try.results11, go_sem, t0, t1, t2, t3, t4, u0, u1, u2, u3, u4]) rfl ?_
    refine ⟨.slice A2 m.length c2, by unfold d1k d1e; rw [HE.out]; simp [hl], ?_, ?_⟩
    · rw [HE.out, if_pos (by simp [hl])]
      refine ⟨A2, c2, rfl, hle2, ((HV.out.step (ten5_agr ?_ ?_)).mono (fun k (hk : (w1.alloc _).heap.size ≤ k) => ?_)).below (Below.refl _ _).drew⟩
      · simp; omega
      · simp; omega
      · simp at hk; omega
    · exact (ten5 (HM2.out.alloc _) (Nat.le_refl _) (by omega)).drew.to_below' (fun k hk => by rw [hk]; omega)
