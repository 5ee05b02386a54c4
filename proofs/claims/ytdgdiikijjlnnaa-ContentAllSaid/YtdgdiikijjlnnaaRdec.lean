/- The references' decoders of a view's number, of a label, of an entry. -/
import Derived.Test.YtdgdiikijjlnnaaRrd2
import Derived.Test.YtdgdiikijjlnnaaLab2
import Derived.Test.YtdgdiikijjlnnaaEntry
namespace Go.Proofs.Ytdgdiikijjlnnaa
open Go.RowKit M
theorem Rfr.step {I : Nat → Prop} {g k : Nat} {P : List UInt8} {bad : Bool} {w w1 : World} (h : Rfr I w g P k bad) (hb : Below w.heap.size w w1) : Rfr I w1 g P k bad := by
  obtain ⟨h1, h2, h3, A, c, h4, h5, h6⟩ := h
  exact ⟨h1, h2, h3, A, c, below_blk hb h4, h5, h6.below hb⟩
theorem Rfr.alloc {I : Nat → Prop} {g k : Nat} {P : List UInt8} {bad : Bool} {w : World} (h : Rfr I w g P k bad) (o : Obj) : Rfr I (w.alloc o) g P k bad := h.step (below_alloc1 w o)
theorem Rfr.out {I : Nat → Prop} {g k : Nat} {P : List UInt8} {bad : Bool} {w : World} (h : Rfr I w g P k bad) : ¬ I g := h.1
theorem Rfr.lt {I : Nat → Prop} {g k : Nat} {P : List UInt8} {bad : Bool} {w : World} (h : Rfr I w g P k bad) : g < w.heap.size := by
  obtain ⟨_, _, _, A, c, h4, _, _⟩ := h
  exact blk_lt h4
theorem Rfr.bound {I : Nat → Prop} {g k : Nat} {P : List UInt8} {bad : Bool} {w : World} (h : Rfr I w g P k bad) : Rfr (fun k => I k ∧ k < w.heap.size) w g P k bad := by
  obtain ⟨h1, h2, h3, A, c, h4, h5, h6⟩ := h
  exact ⟨fun hk => h1 hk.1, h2, h3, A, c, h4, h5, h6.bound⟩
theorem Rfr.mono {I J : Nat → Prop} {g k : Nat} {P : List UInt8} {bad : Bool} {w : World} (h : Rfr I w g P k bad) (hI : ∀ k, I k → J k) (hg : ¬ J g) : Rfr J w g P k bad := by
  obtain ⟨_, h2, h3, A, c, h4, h5, h6⟩ := h
  exact ⟨hg, h2, h3, A, c, h4, h5, h6.mono hI⟩
theorem Rfr.far {I : Nat → Prop} {g k : Nat} {P : List UInt8} {bad : Bool} {w : World} (h : Rfr I w g P k bad) {a : Addr} (ha : g ≠ a.block) (hI : ¬ I a.block) (v : Value) : Rfr I (w.setCell a v) g P k bad := by
  obtain ⟨h1, h2, h3, A, c, h4, h5, h6⟩ := h
  exact ⟨h1, h2, h3, A, c, set_blk h4 ha v, h5, h6.step (fun j hj _ => Below.heap_setCell _ _ _ _ (fun e => hI (e ▸ hj)))⟩
theorem Rfr.cells {I : Nat → Prop} {g k : Nat} {P : List UInt8} {bad : Bool} {w : World} (h : Rfr I w g P k bad) :
    w.cell? ⟨g, 1, none⟩ = some (.int .i64 (if bad then -1 else (k : Int))) ∧ w.frozen? ⟨g, 1, none⟩ = false := by
  obtain ⟨_, _, _, A, c, hb, _, _⟩ := h
  exact ⟨blk_cell hb 1, blk_free hb 1⟩
theorem Rfr.fault {I : Nat → Prop} {g k : Nat} {P : List UInt8} {bad : Bool} {w : World} (h : Rfr I w g P k bad) : Rfr I (w.setCell ⟨g, 1, none⟩ (.int .i64 (-1))) g P k true := by
  obtain ⟨h1, h2, h3, A, c, hb, h5, h6⟩ := h
  exact (rfr_fault h1 h2 h3 hb h5 h6).1
namespace M
/-- The next view's number, as the reference reads it. -/
def rV (P : List UInt8) (k : Nat) (bad : Bool) : Vid × Nat × Bool :=
  if (rRI 15 P (rRU P k bad).2.1 (rRU P k bad).2.2).2.2 = true ∨ Vid.form ⟨(rRU P k bad).1, (rRI 15 P (rRU P k bad).2.1 (rRU P k bad).2.2).1⟩ = false
  then (⟨0, 0⟩, (rRI 15 P (rRU P k bad).2.1 (rRU P k bad).2.2).2.1, true)
  else (⟨(rRU P k bad).1, (rRI 15 P (rRU P k bad).2.1 (rRU P k bad).2.2).1⟩, (rRI 15 P (rRU P k bad).2.1 (rRU P k bad).2.2).2.1, false)
end M
theorem rU_lt64 (P : List UInt8) (k : Nat) (bad : Bool) : (rRU P k bad).1 < 18446744073709551616 := by
  unfold rRU
  split
  · exact (by decide : (0 : Nat) < 18446744073709551616)
  · split
    · rename_i n j e
      unfold rg1 at e
      split at e
      · rename_i n' k' e2
        split at e
        · simp only [Option.some.injEq, Prod.mk.injEq] at e
          have := (rg_lt e2).1
          omega
        · cases e
      · cases e
    · exact (by decide : (0 : Nat) < 18446744073709551616)
set_option maxRecDepth 100000 in
set_option maxHeartbeats 4000000 in
theorem ref04_Decode_b {I : Nat → Prop} {g k : Nat} {P : List UInt8} {bad : Bool} {w : World} (h : Rfr I w g P k bad) (hbd : ∀ k, I k → k < w.heap.size) :
    Calls Try.prog 43 #[.pointer (some ⟨g, 0, none⟩)] w fun e w' => e = .returned (.agg #[.int .u64 (rV P k bad).1.n, .int .i64 (rV P k bad).1.p]) ∧ Rfr I w' g P (rV P k bad).2.1 (rV P k bad).2.2 ∧ Mod (· = g) w w' := by
  have hlt := h.lt
  have hn := rU_lt64 P k bad
  have HE := Lib.hid (rV.eq_1 P k bad)
  have HU := Lib.hid (fun W (hW : Rfr I W g P k bad) => ref_Uint_any hW)
  generalize rRU P k bad = u at HE HU hn
  obtain ⟨n, k1, b1⟩ := u
  have HI := Lib.hid (fun W (hW : Rfr I W g P k1 b1) => ref_Int hW (most := 15) (by omega))
  have hp : (rRI 15 P k1 b1).1 ≤ 15 := by
    unfold rRI
    split
    · exact Nat.zero_le _
    · rename_i hh
      simp at hh
      omega
  dsimp only at HE hn
  generalize rRI 15 P k1 b1 = i at HE HI hp
  obtain ⟨p, k2, b2⟩ := i
  dsimp only at HE hp
  have HV := Lib.hid (fun W => ref04_Form ⟨n, p⟩ (by unfold Vid.ok; dsimp only; omega) W)
  generalize Vid.form ⟨(n : Int), (p : Int)⟩ = f at HE HV
  have HR0 := Lib.hid (h.alloc (.cells #[.int .u64 0, .int .i64 0] 24))
  have HB0 := Lib.hid (below_alloc1 w (.cells #[.int .u64 0, .int .i64 0] 24))
  cases b2 with
  | true =>
    go_enter Try.func43, Try.ntmps43
    go_wp2_with fail
    refine (HU.out _ HR0.out).mono ?_
    rintro e w1 ⟨rfl, hR1, hM1⟩
    have hm1 := mod_new hM1 hlt
    have hs1 := hM1.size
    simp at hs1
    have HR1 := Lib.hid (hR1.alloc (.cells #[.int .u64 n, .int .i64 0] 24))
    have HM1 := Lib.hid (((Mod.of_below HB0.out).trans hM1).alloc (.cells #[.int .u64 n, .int .i64 0] 24))
    have HT1 := Lib.hid (alloc_blk hm1 (.cells #[.int .u64 n, .int .i64 0] 24))
    have HN1 := Lib.hid (heap_alloc_new w1 (.cells #[.int .u64 n, .int .i64 0] 24))
    clear hR1 hM1 hm1
    go_wp2_with fail
    refine (HI.out _ HR1.out).mono ?_
    rintro e w2 ⟨rfl, hR2, hM2⟩
    have ht2 := mod_blk hM2 HT1.out (by omega)
    have hn2 := mod_blk hM2 HN1.out (by omega)
    have hs2 := hM2.size
    simp at hs2
    obtain ⟨t0, t1⟩ := cells2 ht2
    obtain ⟨n0, n1⟩ := cells2 hn2
    have f0 := blk_free ht2 0
    have f1 := blk_free ht2 1
    have g0 := blk_free hn2 0
    have g1 := blk_free hn2 1
    obtain ⟨r1, q1⟩ := hR2.cells
    simp only [if_true] at r1
    have HR2 := Lib.hid hR2
    have HM2 := Lib.hid (HM1.out.trans hM2)
    have hgz : g ≠ w.heap.size := by omega
    have hgz1 : g ≠ w1.heap.size := by omega
    clear hR2 hM2 ht2 hn2
    go_wp2_with fail
    refine bodyPost_ret (v := .agg #[.int .u64 0, .int .i64 0]) (by simp [results, Try.results43, go_sem, t0, t1]) rfl ?_
    rw [HE.out, if_pos (by simp)]
    refine ⟨rfl, ?_, ?_⟩
    · exact ((HR2.out.far (a := ⟨w1.heap.size, 1, none⟩) hgz1 (fun hk => by have := hbd _ hk; dsimp only at this; omega) _).fault.far (a := ⟨w.heap.size, 0, none⟩) hgz (fun hk => by have := hbd _ hk; simp at this) _).far (a := ⟨w.heap.size, 1, none⟩) hgz (fun hk => by have := hbd _ hk; simp at this) _
    · exact (((HM2.out.setCell (p := ⟨w1.heap.size, 1, none⟩) (.inr (by dsimp only; omega)) _).setCell (p := ⟨g, 1, none⟩) (.inl rfl) _).setCell (p := ⟨w.heap.size, 0, none⟩) (.inr (Nat.le_refl _)) _).setCell (p := ⟨w.heap.size, 1, none⟩) (.inr (Nat.le_refl _)) _
  | false =>
    cases f
    all_goals
      go_enter Try.func43, Try.ntmps43
      go_wp2_with fail
      refine (HU.out _ HR0.out).mono ?_
      rintro e w1 ⟨rfl, hR1, hM1⟩
      have hm1 := mod_new hM1 hlt
      have hs1 := hM1.size
      simp at hs1
      have HR1 := Lib.hid (hR1.alloc (.cells #[.int .u64 n, .int .i64 0] 24))
      have HM1 := Lib.hid (((Mod.of_below HB0.out).trans hM1).alloc (.cells #[.int .u64 n, .int .i64 0] 24))
      have HT1 := Lib.hid (alloc_blk hm1 (.cells #[.int .u64 n, .int .i64 0] 24))
      have HN1 := Lib.hid (heap_alloc_new w1 (.cells #[.int .u64 n, .int .i64 0] 24))
      clear hR1 hM1 hm1
      go_wp2_with fail
      refine (HI.out _ HR1.out).mono ?_
      rintro e w2 ⟨rfl, hR2, hM2⟩
      have ht2 := mod_blk hM2 HT1.out (by omega)
      have hn2 := mod_blk hM2 HN1.out (by omega)
      have hs2 := hM2.size
      simp at hs2
      obtain ⟨t0, t1⟩ := cells2 ht2
      obtain ⟨n0, n1⟩ := cells2 hn2
      have f0 := blk_free ht2 0
      have f1 := blk_free ht2 1
      have g0 := blk_free hn2 0
      have g1 := blk_free hn2 1
      obtain ⟨r1, q1⟩ := hR2.cells
      simp only [Bool.false_eq_true, if_false] at r1
      have HR2 := Lib.hid hR2
      have HM2 := Lib.hid (HM1.out.trans hM2)
      have hgz : g ≠ w.heap.size := by omega
      have hgz1 : g ≠ w1.heap.size := by omega
      have HT2 := Lib.hid ht2
      have HN2 := Lib.hid hn2
      clear hR2 hM2 ht2 hn2
      go_wp2_with fail
      refine (HV.out _).mono ?_
      rintro e w3 ⟨rfl, hb3⟩
      have hR3 := (HR2.out.far (a := ⟨w1.heap.size, 1, none⟩) hgz1 (fun hk => by have := hbd _ hk; dsimp only at this; omega) (.int .i64 (p : Int))).step hb3
      have hM3 := (HM2.out.setCell (p := ⟨w1.heap.size, 1, none⟩) (.inr (by dsimp only; omega)) (.int .i64 (p : Int))).below hb3
      have ht3 := below_blk hb3 (set_blk HT2.out (a := ⟨w1.heap.size, 1, none⟩) (by dsimp only; omega) (.int .i64 (p : Int)))
      have hn3 := below_blk hb3 (by simpa using blk_set HN2.out 1 (.int .i64 (p : Int)))
      have hs3 := hM3.size
      obtain ⟨t0, t1⟩ := cells2 ht3
      obtain ⟨n0, n1⟩ := cells2 hn3
      have f0 := blk_free ht3 0
      have f1 := blk_free ht3 1
      obtain ⟨r1, q1⟩ := hR3.cells
      simp only [Bool.false_eq_true, if_false] at r1
      have HR3 := Lib.hid hR3
      have HM3 := Lib.hid hM3
      clear hR3 hM3 ht3 hn3 hb3
      go_wp2
    · refine bodyPost_ret (v := .agg #[.int .u64 0, .int .i64 0]) (by simp [results, Try.results43, go_sem, t0, t1]) rfl ?_
      rw [HE.out, if_pos (by simp)]
      refine ⟨rfl, ?_, ?_⟩
      · exact (HR3.out.fault.far (a := ⟨w.heap.size, 0, none⟩) hgz (fun hk => by have := hbd _ hk; simp at this) _).far (a := ⟨w.heap.size, 1, none⟩) hgz (fun hk => by have := hbd _ hk; simp at this) _
      · exact ((HM3.out.setCell (p := ⟨g, 1, none⟩) (.inl rfl) _).setCell (p := ⟨w.heap.size, 0, none⟩) (.inr (Nat.le_refl _)) _).setCell (p := ⟨w.heap.size, 1, none⟩) (.inr (Nat.le_refl _)) _
    · refine bodyPost_ret (v := .agg #[.int .u64 n, .int .i64 p]) (by simp [results, Try.results43, go_sem, t0, t1]) rfl ?_
      rw [HE.out, if_neg (by simp)]
      refine ⟨rfl, ?_, ?_⟩
      · exact (HR3.out.far (a := ⟨w.heap.size, 0, none⟩) hgz (fun hk => by have := hbd _ hk; simp at this) _).far (a := ⟨w.heap.size, 1, none⟩) hgz (fun hk => by have := hbd _ hk; simp at this) _
      · exact (HM3.out.setCell (p := ⟨w.heap.size, 0, none⟩) (.inr (Nat.le_refl _)) _).setCell (p := ⟨w.heap.size, 1, none⟩) (.inr (Nat.le_refl _)) _
theorem ref04_Decode {I : Nat → Prop} {g k : Nat} {P : List UInt8} {bad : Bool} {w : World} (h : Rfr I w g P k bad) :
    Calls Try.prog 43 #[.pointer (some ⟨g, 0, none⟩)] w fun e w' => e = .returned (.agg #[.int .u64 (rV P k bad).1.n, .int .i64 (rV P k bad).1.p]) ∧ Rfr I w' g P (rV P k bad).2.1 (rV P k bad).2.2 ∧ Mod (· = g) w w' :=
  (ref04_Decode_b h.bound (fun _ hk => hk.2)).mono fun _ _ ⟨h1, h2, h3⟩ => ⟨h1, h2.mono (fun _ hk => hk.1) h.out, h3⟩
namespace M
/-- The next label, as the reference reads it. -/
def rL (P : List UInt8) (k : Nat) (bad : Bool) : Lab × Nat × Bool :=
  if (rRI 15 P (rRU P (rV P k bad).2.1 (rV P k bad).2.2).2.1 (rRU P (rV P k bad).2.1 (rV P k bad).2.2).2.2).2.2 = true ∨ Lab.form ⟨(rV P k bad).1.n, (rV P k bad).1.p, (rRU P (rV P k bad).2.1 (rV P k bad).2.2).1, (rRI 15 P (rRU P (rV P k bad).2.1 (rV P k bad).2.2).2.1 (rRU P (rV P k bad).2.1 (rV P k bad).2.2).2.2).1⟩ = false
  then (⟨0, 0, 0, 0⟩, (rRI 15 P (rRU P (rV P k bad).2.1 (rV P k bad).2.2).2.1 (rRU P (rV P k bad).2.1 (rV P k bad).2.2).2.2).2.1, true)
  else (⟨(rV P k bad).1.n, (rV P k bad).1.p, (rRU P (rV P k bad).2.1 (rV P k bad).2.2).1, (rRI 15 P (rRU P (rV P k bad).2.1 (rV P k bad).2.2).2.1 (rRU P (rV P k bad).2.1 (rV P k bad).2.2).2.2).1⟩, (rRI 15 P (rRU P (rV P k bad).2.1 (rV P k bad).2.2).2.1 (rRU P (rV P k bad).2.1 (rV P k bad).2.2).2.2).2.1, false)
end M
theorem rI_le15 (P : List UInt8) (k : Nat) (bad : Bool) (m : Nat) : (rRI m P k bad).1 ≤ m := by
  unfold rRI
  split
  · exact Nat.zero_le _
  · rename_i hh
    simp at hh
    omega
theorem rV_ok (P : List UInt8) (k : Nat) (bad : Bool) : (rV P k bad).1.ok := by
  have h1 := rU_lt64 P k bad
  have h2 := rI_le15 P (rRU P k bad).2.1 (rRU P k bad).2.2 15
  unfold rV
  split
  · unfold Vid.ok
    dsimp only
    omega
  · unfold Vid.ok
    dsimp only
    omega
theorem four_ref {I : Nat → Prop} {g b k : Nat} {P : List UInt8} {bad : Bool} {w : World} {v0 v1 v2 v3 : Value} (hR : Rfr I w g P k bad) (hg : g ≠ b) (hI : ¬ I b) : Rfr I ((((w.setCell ⟨b, 0, none⟩ v0).setCell ⟨b, 1, none⟩ v1).setCell ⟨b, 2, none⟩ v2).setCell ⟨b, 3, none⟩ v3) g P k bad :=
  (((hR.far (a := ⟨b, 0, none⟩) hg hI _).far (a := ⟨b, 1, none⟩) hg hI _).far (a := ⟨b, 2, none⟩) hg hI _).far (a := ⟨b, 3, none⟩) hg hI _
set_option maxRecDepth 100000 in
set_option maxHeartbeats 4000000 in
theorem ref05_Decode_b {I : Nat → Prop} {g k : Nat} {P : List UInt8} {bad : Bool} {w : World} (h : Rfr I w g P k bad) (hbd : ∀ k, I k → k < w.heap.size) :
    Calls Try.prog 42 #[.pointer (some ⟨g, 0, none⟩)] w fun e w' => e = .returned (.agg #[.int .u64 (rL P k bad).1.n, .int .i64 (rL P k bad).1.p, .int .u64 (rL P k bad).1.s, .int .i64 (rL P k bad).1.q]) ∧ Rfr I w' g P (rL P k bad).2.1 (rL P k bad).2.2 ∧ Mod (· = g) w w' := by
  have hlt := h.lt
  have hv := rV_ok P k bad
  have HE := Lib.hid (rL.eq_1 P k bad)
  have HV := Lib.hid (fun W (hW : Rfr I W g P k bad) => ref04_Decode hW)
  generalize rV P k bad = u at HE HV hv
  obtain ⟨⟨vn, vp⟩, k0, b0⟩ := u
  dsimp only at HE HV hv
  have HU := Lib.hid (fun W (hW : Rfr I W g P k0 b0) => ref_Uint_any hW)
  have hn := rU_lt64 P k0 b0
  generalize rRU P k0 b0 = u at HE HU hn
  obtain ⟨n, k1, b1⟩ := u
  dsimp only at HE hn
  have HI := Lib.hid (fun W (hW : Rfr I W g P k1 b1) => ref_Int hW (most := 15) (by omega))
  have hp := rI_le15 P k1 b1 15
  generalize rRI 15 P k1 b1 = i at HE HI hp
  obtain ⟨p, k2, b2⟩ := i
  dsimp only at HE hp
  have HF := Lib.hid (fun W => ref05_Form ⟨vn, vp, n, p⟩ (by unfold Lab.ok; unfold Vid.ok at hv; dsimp only at hv ⊢; omega) W)
  generalize Lab.form ⟨vn, vp, (n : Int), (p : Int)⟩ = f at HE HF
  have HR0 := Lib.hid (h.alloc (.cells #[.int .u64 0, .int .i64 0, .int .u64 0, .int .i64 0] 26))
  have HB0 := Lib.hid (below_alloc1 w (.cells #[.int .u64 0, .int .i64 0, .int .u64 0, .int .i64 0] 26))
  have hcs : b2 = true ∨ b2 = false ∧ f = false ∨ b2 = false ∧ f = true := by cases b2 <;> cases f <;> simp
  go_enter Try.func42, Try.ntmps42
  go_wp2_with fail
  refine (HV.out _ HR0.out).mono ?_
  rintro e w1 ⟨rfl, hR1, hM1⟩
  have hm1 := mod_new hM1 hlt
  have hs1 := hM1.size
  simp at hs1
  have HR1 := Lib.hid (hR1.alloc (.cells #[.int .u64 vn, .int .i64 vp, .int .u64 0, .int .i64 0] 26))
  have HM1 := Lib.hid (((Mod.of_below HB0.out).trans hM1).alloc (.cells #[.int .u64 vn, .int .i64 vp, .int .u64 0, .int .i64 0] 26))
  have HT1 := Lib.hid (alloc_blk hm1 (.cells #[.int .u64 vn, .int .i64 vp, .int .u64 0, .int .i64 0] 26))
  have HN1 := Lib.hid (heap_alloc_new w1 (.cells #[.int .u64 vn, .int .i64 vp, .int .u64 0, .int .i64 0] 26))
  clear hR1 hM1 hm1
  go_wp2_with fail
  refine (HU.out _ HR1.out).mono ?_
  rintro e w2 ⟨rfl, hR2, hM2⟩
  have ht2 := mod_blk hM2 HT1.out (by omega)
  have hn2 := mod_blk hM2 HN1.out (by omega)
  have hs2 := hM2.size
  simp at hs2
  have hgz : g ≠ w.heap.size := by omega
  have hgz1 : g ≠ w1.heap.size := by omega
  have hnI : ¬ I w1.heap.size := fun hk => by have := hbd _ hk; omega
  have hnI0 : ¬ I w.heap.size := fun hk => by have := hbd _ hk; omega
  have g2 := blk_free hn2 2
  have HR2 := Lib.hid (hR2.far (a := ⟨w1.heap.size, 2, none⟩) hgz1 hnI (.int .u64 (n : Int)))
  have HM2 := Lib.hid ((HM1.out.trans hM2).setCell (p := ⟨w1.heap.size, 2, none⟩) (.inr (by dsimp only; omega)) (.int .u64 (n : Int)))
  have HT2 := Lib.hid (set_blk ht2 (a := ⟨w1.heap.size, 2, none⟩) (by dsimp only; omega) (.int .u64 (n : Int)))
  have HN2 := Lib.hid (show (w2.setCell ⟨w1.heap.size, 2, none⟩ (.int .u64 (n : Int))).heap[w1.heap.size]? = _ by simpa using blk_set hn2 2 (.int .u64 (n : Int)))
  have c2 := (cells4 hn2).2.2.1
  clear hR2 hM2 ht2 hn2
  go_wp2_with fail
  refine (HI.out _ HR2.out).mono ?_
  rintro e w3 ⟨rfl, hR3, hM3⟩
  have ht3 := mod_blk hM3 HT2.out (by omega)
  have hn3 := mod_blk hM3 HN2.out (by omega)
  have hs3 := hM3.size
  simp [World.setCell] at hs3
  have c3 := (cells4 hn3).2.2.2
  have g3 := blk_free hn3 3
  obtain ⟨d0, d1, d2, _⟩ := cells4 hn3
  have HR3 := Lib.hid (hR3.far (a := ⟨w1.heap.size, 3, none⟩) hgz1 hnI (.int .i64 (p : Int)))
  have HM3 := Lib.hid ((HM2.out.trans hM3).setCell (p := ⟨w1.heap.size, 3, none⟩) (.inr (by dsimp only; omega)) (.int .i64 (p : Int)))
  have HT3 := Lib.hid (set_blk ht3 (a := ⟨w1.heap.size, 3, none⟩) (by dsimp only; omega) (.int .i64 (p : Int)))
  have HN3 := Lib.hid (show (w3.setCell ⟨w1.heap.size, 3, none⟩ (.int .i64 (p : Int))).heap[w1.heap.size]? = _ by simpa using blk_set hn3 3 (.int .i64 (p : Int)))
  obtain ⟨r1, q1⟩ := hR3.cells
  obtain ⟨t0, t1, t2, t3⟩ := cells4 ht3
  have f0 := blk_free ht3 0
  have f1 := blk_free ht3 1
  have f2 := blk_free ht3 2
  have f3 := blk_free ht3 3
  clear hR3 hM3 ht3 hn3
  rcases hcs with rfl | ⟨rfl, rfl⟩ | ⟨rfl, rfl⟩
  · simp only [if_true] at r1
    go_wp2_with fail
    refine bodyPost_ret (v := .agg #[.int .u64 0, .int .i64 0, .int .u64 0, .int .i64 0]) (by simp [results, Try.results42, go_sem, t0, t1, t2, t3]) rfl ?_
    rw [HE.out, if_pos (by simp)]
    exact ⟨rfl, four_ref HR3.out.fault hgz hnI0, mod4 (HM3.out.setCell (p := ⟨g, 1, none⟩) (.inl rfl) _) (Nat.le_refl _)⟩
  all_goals
    simp only [Bool.false_eq_true, if_false] at r1
    clear t0 t1 t2 t3 f0 f1 f2 f3
    go_wp2_with fail
    refine (HF.out _).mono ?_
    rintro e w4 ⟨rfl, hb4⟩
    have ht4 := below_blk hb4 HT3.out
    have hn4 := below_blk hb4 HN3.out
    have hR4 := HR3.out.step hb4
    have HM4 := Lib.hid (HM3.out.below hb4)
    have hs4 := hb4.size
    simp [World.setCell] at hs4
    obtain ⟨t0, t1, t2, t3⟩ := cells4 ht4
    obtain ⟨n0, n1, n2, n3⟩ := cells4 hn4
    have f0 := blk_free ht4 0
    have f1 := blk_free ht4 1
    have f2 := blk_free ht4 2
    have f3 := blk_free ht4 3
    obtain ⟨r2, q2⟩ := hR4.cells
    have HR4 := Lib.hid hR4
    clear r1 q1 c2 c3 g2 g3 d0 d1 d2 hR4 hb4 ht4 hn4
    go_wp2
  · refine bodyPost_ret (v := .agg #[.int .u64 0, .int .i64 0, .int .u64 0, .int .i64 0]) (by simp [results, Try.results42, go_sem, t0, t1, t2, t3]) rfl ?_
    rw [HE.out, if_pos (by simp)]
    exact ⟨rfl, four_ref HR4.out.fault hgz hnI0, mod4 (HM4.out.setCell (p := ⟨g, 1, none⟩) (.inl rfl) _) (Nat.le_refl _)⟩
  · refine bodyPost_ret (v := .agg #[.int .u64 vn, .int .i64 vp, .int .u64 n, .int .i64 p]) (by simp [results, Try.results42, go_sem, t0, t1, t2, t3]) rfl ?_
    rw [HE.out, if_neg (by simp)]
    exact ⟨rfl, four_ref HR4.out hgz hnI0, mod4 HM4.out (Nat.le_refl _)⟩
theorem ref05_Decode {I : Nat → Prop} {g k : Nat} {P : List UInt8} {bad : Bool} {w : World} (h : Rfr I w g P k bad) :
    Calls Try.prog 42 #[.pointer (some ⟨g, 0, none⟩)] w fun e w' => e = .returned (.agg #[.int .u64 (rL P k bad).1.n, .int .i64 (rL P k bad).1.p, .int .u64 (rL P k bad).1.s, .int .i64 (rL P k bad).1.q]) ∧ Rfr I w' g P (rL P k bad).2.1 (rL P k bad).2.2 ∧ Mod (· = g) w w' :=
  (ref05_Decode_b h.bound (fun _ hk => hk.2)).mono fun _ _ ⟨h1, h2, h3⟩ => ⟨h1, h2.mono (fun _ hk => hk.1) h.out, h3⟩
end Go.Proofs.Ytdgdiikijjlnnaa
