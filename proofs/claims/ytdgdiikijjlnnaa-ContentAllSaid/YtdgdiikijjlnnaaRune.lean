/- The reference: the next entry. -/
import Derived.Test.YtdgdiikijjlnnaaRdec
namespace Go.Proofs.Ytdgdiikijjlnnaa
open Go.RowKit M
namespace M
/-- The next entry, as the reference reads it. -/
def rE (P : List UInt8) (k : Nat) (bad : Bool) : Ent × Nat × Bool := (⟨(rL P k bad).1, (rRB 64 P (rL P k bad).2.1 (rL P k bad).2.2).1⟩, (rRB 64 P (rL P k bad).2.1 (rL P k bad).2.2).2)
end M
theorem five_ref {I : Nat → Prop} {g b k : Nat} {P : List UInt8} {bad : Bool} {w : World} {v0 v1 v2 v3 v4 : Value} (hR : Rfr I w g P k bad) (hg : g ≠ b) (hI : ¬ I b) : Rfr I (((((w.setCell ⟨b, 0, none⟩ v0).setCell ⟨b, 1, none⟩ v1).setCell ⟨b, 2, none⟩ v2).setCell ⟨b, 3, none⟩ v3).setCell ⟨b, 4, none⟩ v4) g P k bad :=
  (four_ref hR hg hI).far (a := ⟨b, 4, none⟩) hg hI _
theorem set_agr {I : Nat → Prop} {a : Addr} {v : Value} {w : World} (h : ¬ I a.block) : Agr I w (w.setCell a v) := fun k hk _ => Below.heap_setCell _ _ _ _ (fun e => h (e ▸ hk))
set_option maxRecDepth 100000 in
set_option maxHeartbeats 4000000 in
theorem ref15_unone_b {I : Nat → Prop} {g k : Nat} {P : List UInt8} {bad : Bool} {w : World} (h : Rfr I w g P k bad) (hbd : ∀ k, I k → k < w.heap.size) :
    Calls Try.prog 40 #[.pointer (some ⟨g, 0, none⟩)] w fun e w' => ∃ v, e = .returned (.agg #[.int .u64 (rE P k bad).1.l.n, .int .i64 (rE P k bad).1.l.p, .int .u64 (rE P k bad).1.l.s, .int .i64 (rE P k bad).1.l.q, v]) ∧ SV kByte I w' v (rE P k bad).1.m ∧ Rfr I w' g P (rE P k bad).2.1 (rE P k bad).2.2 ∧ Mod (· = g) w w' := by
  have hlt := h.lt
  have HE := Lib.hid (rE.eq_1 P k bad)
  have HV := Lib.hid (fun W (hW : Rfr I W g P k bad) => ref05_Decode hW)
  generalize rL P k bad = u at HE HV
  obtain ⟨⟨n, p, s, q⟩, k0, b0⟩ := u
  dsimp only at HE HV
  have HU := Lib.hid (fun W (hW : Rfr I W g P k0 b0) => ref_Bytes (most := 64) hW (by omega))
  generalize rRB 64 P k0 b0 = u at HE HU
  obtain ⟨m, k1, b1⟩ := u
  dsimp only at HE HU
  have HR0 := Lib.hid (h.alloc (.cells #[.int .u64 0, .int .i64 0, .int .u64 0, .int .i64 0, .slice none 0 0] 29))
  have HB0 := Lib.hid (below_alloc1 w (.cells #[.int .u64 0, .int .i64 0, .int .u64 0, .int .i64 0, .slice none 0 0] 29))
  go_enter Try.func40, Try.ntmps40
  go_wp2_with fail
  refine (HV.out _ HR0.out).mono ?_
  rintro e w1 ⟨rfl, hR1, hM1⟩
  have hm1 := mod_new hM1 hlt
  have hs1 := hM1.size
  simp at hs1
  have HR1 := Lib.hid (hR1.alloc (.cells #[.int .u64 n, .int .i64 p, .int .u64 s, .int .i64 q, .slice none 0 0] 29))
  have HM1 := Lib.hid (((Mod.of_below HB0.out).trans hM1).alloc (.cells #[.int .u64 n, .int .i64 p, .int .u64 s, .int .i64 q, .slice none 0 0] 29))
  have HT1 := Lib.hid (alloc_blk hm1 (.cells #[.int .u64 n, .int .i64 p, .int .u64 s, .int .i64 q, .slice none 0 0] 29))
  have HN1 := Lib.hid (heap_alloc_new w1 (.cells #[.int .u64 n, .int .i64 p, .int .u64 s, .int .i64 q, .slice none 0 0] 29))
  clear hR1 hM1 hm1
  go_wp2_with fail
  refine (HU.out _ HR1.out).mono ?_
  rintro e w2 ⟨v, rfl, hv, hR2, hM2⟩
  have ht2 := mod_blk hM2 HT1.out (by omega)
  have hn2 := mod_blk hM2 HN1.out (by omega)
  have hs2 := hM2.size
  simp at hs2
  have hgz : g ≠ w.heap.size := by omega
  have hgz1 : g ≠ w1.heap.size := by omega
  have hnI : ¬ I w1.heap.size := fun hk => by have := hbd _ hk; omega
  have hnI0 : ¬ I w.heap.size := fun hk => by have := hbd _ hk; omega
  obtain ⟨A, c, rfl, hc, hrow⟩ := hv
  obtain ⟨n0, n1, n2, n3, n4⟩ := cells5 hn2
  have g4 := blk_free hn2 4
  obtain ⟨t0, t1, t2, t3, t4⟩ := cells5 ht2
  have f0 := blk_free ht2 0
  have f1 := blk_free ht2 1
  have f2 := blk_free ht2 2
  have f3 := blk_free ht2 3
  have f4 := blk_free ht2 4
  have HR2 := Lib.hid (hR2.far (a := ⟨w1.heap.size, 4, none⟩) hgz1 hnI (.slice A m.length c))
  have HM2 := Lib.hid ((HM1.out.trans hM2).setCell (p := ⟨w1.heap.size, 4, none⟩) (.inr (by dsimp only; omega)) (.slice A m.length c))
  have HV2 := Lib.hid (hrow.step (set_agr (a := ⟨w1.heap.size, 4, none⟩) (v := .slice A m.length c) hnI))
  clear hR2 hM2 ht2 hn2 hrow
  go_wp2_with fail
  refine bodyPost_ret (v := .agg #[.int .u64 n, .int .i64 p, .int .u64 s, .int .i64 q, .slice A m.length c]) (by simp [results, Try.results40, go_sem, t0, t1, t2, t3, t4]) rfl ?_
  rw [HE.out]
  exact ⟨_, rfl, ⟨A, c, rfl, hc, HV2.out.step (agr5 hnI0)⟩, five_ref HR2.out hgz hnI0, mod5 HM2.out (Nat.le_refl _)⟩
theorem ref15_unone {I : Nat → Prop} {g k : Nat} {P : List UInt8} {bad : Bool} {w : World} (h : Rfr I w g P k bad) :
    Calls Try.prog 40 #[.pointer (some ⟨g, 0, none⟩)] w fun e w' => ∃ v, e = .returned (.agg #[.int .u64 (rE P k bad).1.l.n, .int .i64 (rE P k bad).1.l.p, .int .u64 (rE P k bad).1.l.s, .int .i64 (rE P k bad).1.l.q, v]) ∧ SV kByte I w' v (rE P k bad).1.m ∧ Rfr I w' g P (rE P k bad).2.1 (rE P k bad).2.2 ∧ Mod (· = g) w w' :=
  (ref15_unone_b h.bound (fun _ hk => hk.2)).mono fun _ _ ⟨v, h0, h1, h2, h3⟩ => ⟨v, h0, h1.mono (fun _ hk => hk.1), h2.mono (fun _ hk => hk.1) h.out, h3⟩
end Go.Proofs.Ytdgdiikijjlnnaa
