/- How an entry is read (content.entry). -/
import Derived.Test.YtdgdiikijjlnnaaCon
import Derived.Test.YtdgdiikijjlnnaaLab2
namespace Go.Proofs.Ytdgdiikijjlnnaa
open Go.RowKit M
namespace M
/-- The next entry. -/
def eD (l : List UInt8) (bad : Bool) : Ent × Bool × List UInt8 × Bool :=
  (⟨(dL l bad).1, (rB 64 (dL l bad).2.2.1 (dL l bad).2.2.2).1⟩, (dL l bad).2.1 && !(rB 64 (dL l bad).2.2.1 (dL l bad).2.2.2).2.2, (rB 64 (dL l bad).2.2.1 (dL l bad).2.2.2).2)
end M
theorem far5 {I : Nat → Prop} {g b : Nat} {l : List UInt8} {bad : Bool} {w : World} {v0 v1 v2 v3 v4 : Value} (hR : Rdr I w g l bad) (hg : g ≠ b) (hI : ¬ I b) : Rdr I (((((w.setCell ⟨b, 0, none⟩ v0).setCell ⟨b, 1, none⟩ v1).setCell ⟨b, 2, none⟩ v2).setCell ⟨b, 3, none⟩ v3).setCell ⟨b, 4, none⟩ v4) g l bad :=
  (far4 hR hg hI).far (a := ⟨b, 4, none⟩) hg hI _
theorem mod5 {S : Nat → Prop} {b : Nat} {w w1 : World} {v0 v1 v2 v3 v4 : Value} (hM : Mod S w w1) (hW : w.heap.size ≤ b) : Mod S w (((((w1.setCell ⟨b, 0, none⟩ v0).setCell ⟨b, 1, none⟩ v1).setCell ⟨b, 2, none⟩ v2).setCell ⟨b, 3, none⟩ v3).setCell ⟨b, 4, none⟩ v4) :=
  (mod4 hM hW).setCell (p := ⟨b, 4, none⟩) (.inr hW) _
theorem agr5 {I : Nat → Prop} {b : Nat} {w : World} {v0 v1 v2 v3 v4 : Value} (hI : ¬ I b) : Agr I w (((((w.setCell ⟨b, 0, none⟩ v0).setCell ⟨b, 1, none⟩ v1).setCell ⟨b, 2, none⟩ v2).setCell ⟨b, 3, none⟩ v3).setCell ⟨b, 4, none⟩ v4) := fun k hk _ => by
  have hn : k ≠ b := fun e => hI (e ▸ hk)
  rw [Below.heap_setCell _ _ _ _ hn, Below.heap_setCell _ _ _ _ hn, Below.heap_setCell _ _ _ _ hn, Below.heap_setCell _ _ _ _ hn, Below.heap_setCell _ _ _ _ hn]
theorem entry_end {I : Nat → Prop} {g B c : Nat} {A : Option Addr} {l : List UInt8} {bad : Bool} {w w2 : World} {m : List UInt8} {v0 v1 v2 v3 : Value} (hR : Rdr I w2 g l bad) (hM : Mod (· = g) w w2) (hv : Row kByte (fun k => B ≤ k) w2 A m) (hc : m.length ≤ c) (hg : g ≠ w.heap.size) (hI : ¬ I w.heap.size) (hB : w.heap.size < B) :
    SV kByte (fun k => w.heap.size ≤ k) (((((w2.setCell ⟨w.heap.size, 0, none⟩ v0).setCell ⟨w.heap.size, 1, none⟩ v1).setCell ⟨w.heap.size, 2, none⟩ v2).setCell ⟨w.heap.size, 3, none⟩ v3).setCell ⟨w.heap.size, 4, none⟩ (.slice A m.length c)).drew (.slice A m.length c) m ∧
    Rdr I (((((w2.setCell ⟨w.heap.size, 0, none⟩ v0).setCell ⟨w.heap.size, 1, none⟩ v1).setCell ⟨w.heap.size, 2, none⟩ v2).setCell ⟨w.heap.size, 3, none⟩ v3).setCell ⟨w.heap.size, 4, none⟩ (.slice A m.length c)).drew g l bad ∧
    Mod (· = g) w (((((w2.setCell ⟨w.heap.size, 0, none⟩ v0).setCell ⟨w.heap.size, 1, none⟩ v1).setCell ⟨w.heap.size, 2, none⟩ v2).setCell ⟨w.heap.size, 3, none⟩ v3).setCell ⟨w.heap.size, 4, none⟩ (.slice A m.length c)).drew :=
  ⟨⟨A, c, rfl, hc, ((hv.step (agr5 (Nat.not_le_of_gt hB))).mono (fun k (hk : B ≤ k) => Nat.le_of_lt (Nat.lt_of_lt_of_le hB hk))).below (Below.refl _ _).drew⟩, (far5 hR hg hI).drew, (mod5 hM (Nat.le_refl _)).drew⟩
set_option maxRecDepth 100000 in
set_option maxHeartbeats 4000000 in
theorem content_entry_b {I : Nat → Prop} {g : Nat} {l : List UInt8} {bad : Bool} {w : World} (h : Rdr I w g l bad) (hbd : ∀ k, I k → k < w.heap.size) :
    Calls Try.prog 33 #[.pointer (some ⟨g, 0, none⟩)] w fun e w' => ∃ v, e = .returned (.tuple #[.agg #[.int .u64 (eD l bad).1.l.n, .int .i64 (eD l bad).1.l.p, .int .u64 (eD l bad).1.l.s, .int .i64 (eD l bad).1.l.q, v], .bool (eD l bad).2.1]) ∧
      SV kByte (fun k => w.heap.size ≤ k) w' v (eD l bad).1.m ∧ Rdr I w' g (eD l bad).2.2.1 (eD l bad).2.2.2 ∧ Mod (· = g) w w' := by
  have hlt := h.lt
  have HE := Lib.hid (eD.eq_1 l bad)
  have HD := Lib.hid (fun W (hW : Rdr I W g l bad) => label_Decode hW)
  generalize dL l bad = v at HE HD
  obtain ⟨x, vo, l0, b0⟩ := v
  have HU := Lib.hid (fun W (hW : Rdr I W g l0 b0) => reader_Bytes hW (most := 64) (by omega))
  dsimp only at HE HD
  generalize rB 64 l0 b0 = u at HE HU
  obtain ⟨m, l1, b1⟩ := u
  obtain ⟨n, p, s, q⟩ := x
  dsimp only at HE HU HD
  have HR0 := Lib.hid (h.alloc (.cells #[.int .u64 0, .int .i64 0, .int .u64 0, .int .i64 0, .slice none 0 0] 29))
  have HB0 := Lib.hid (below_alloc1 w (.cells #[.int .u64 0, .int .i64 0, .int .u64 0, .int .i64 0, .slice none 0 0] 29))
  cases vo
  all_goals
    go_enter Try.func33, Try.ntmps33
    go_wp2_with fail
    refine (HD.out _ HR0.out).mono ?_
    rintro e w1 ⟨rfl, hR1, hM1⟩
    have hm1 := mod_new hM1 hlt
    have hz1 := hM1.size
    simp at hz1
    have HR1 := Lib.hid (hR1.alloc (.cells #[.int .u64 n, .int .i64 p, .int .u64 s, .int .i64 q] 26))
    have hm1' := alloc_blk hm1 (.cells #[.int .u64 n, .int .i64 p, .int .u64 s, .int .i64 q] 26)
    have hn1 := heap_alloc_new w1 (.cells #[.int .u64 n, .int .i64 p, .int .u64 s, .int .i64 q] 26)
    have HM1 := Lib.hid (((Mod.of_below HB0.out).trans hM1).alloc (.cells #[.int .u64 n, .int .i64 p, .int .u64 s, .int .i64 q] 26))
    have HT1 := Lib.hid hm1'
    have HN1 := Lib.hid hn1
    clear hR1 hM1 hm1 hm1' hn1
    go_wp2_with fail
    refine (HU.out _ HR1.out).mono ?_
    rintro e w2 ⟨v, rfl, hv, hR2, hM2⟩
    have ht2 := mod_blk hM2 HT1.out (by omega)
    have hn2 := mod_blk hM2 HN1.out (by omega)
    have hz2 := hM2.size
    simp at hz2
    obtain ⟨A, c, rfl, hc, hrow⟩ := hv
    obtain ⟨t0, t1, t2, t3, t4⟩ := cells5 ht2
    obtain ⟨n0, n1, n2, n3⟩ := cells4 hn2
    have f0 := blk_free ht2 0
    have f1 := blk_free ht2 1
    have f2 := blk_free ht2 2
    have f3 := blk_free ht2 3
    have f4 := blk_free ht2 4
    have HR2 := Lib.hid hR2
    have HM2 := Lib.hid (HM1.out.trans hM2)
    have HV := Lib.hid hrow
    clear hR2 hM2 hrow ht2 hn2
    go_wp2_with fail
  · go_region
    go_wp2
    refine bodyPost_ret (v := .tuple #[.agg #[.int .u64 n, .int .i64 p, .int .u64 s, .int .i64 q, .slice A m.length c], .bool false]) (by simp [results, Try.results33, go_sem, t0, t1, t2, t3, t4]) rfl ?_
    rw [HE.out]
    exact ⟨_, rfl, entry_end HR2.out HM2.out HV.out hc (by omega) (fun hk => by have := hbd _ hk; omega) (by simp; omega)⟩
  · go_region_with (go_at_call 64; refine (reader_Bad HR2.out.drew).mono ?_; rintro e w3 ⟨rfl, rfl⟩)
    all_goals go_wp2
    all_goals
      refine bodyPost_ret (v := .tuple #[.agg #[.int .u64 n, .int .i64 p, .int .u64 s, .int .i64 q, .slice A m.length c], .bool (!b1)]) (by simp [results, Try.results33, go_sem, t0, t1, t2, t3, t4]) rfl ?_
      rw [HE.out]
      exact ⟨_, rfl, entry_end HR2.out HM2.out HV.out hc (by omega) (fun hk => by have := hbd _ hk; omega) (by simp; omega)⟩
theorem content_entry {I : Nat → Prop} {g : Nat} {l : List UInt8} {bad : Bool} {w : World} (h : Rdr I w g l bad) :
    Calls Try.prog 33 #[.pointer (some ⟨g, 0, none⟩)] w fun e w' => ∃ v, e = .returned (.tuple #[.agg #[.int .u64 (eD l bad).1.l.n, .int .i64 (eD l bad).1.l.p, .int .u64 (eD l bad).1.l.s, .int .i64 (eD l bad).1.l.q, v], .bool (eD l bad).2.1]) ∧
      SV kByte (fun k => w.heap.size ≤ k) w' v (eD l bad).1.m ∧ Rdr I w' g (eD l bad).2.2.1 (eD l bad).2.2.2 ∧ Mod (· = g) w w' :=
  (content_entry_b h.bound (fun _ hk => hk.2)).mono fun _ _ ⟨v, h1, h2, h3, h4⟩ => ⟨v, h1, h2, h3.mono (fun _ hk => hk.1) h.out, h4⟩
