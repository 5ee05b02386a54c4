/- How a label is read (label.Decode). -/
import Derived.Test.YtdgdiikijjlnnaaLab
import Derived.Deep.RegionHeld3
import Derived.Deep.DeepCutAuto
import Derived.Deep.CutBlock
namespace Go.Proofs.Ytdgdiikijjlnnaa
open Go.RowKit M
namespace M
/-- The next label. -/
def dL (l : List UInt8) (bad : Bool) : Lab × Bool × List UInt8 × Bool :=
  if (dV l bad).2.1 = true ∧ (rI 15 (rU (dV l bad).2.2.1 (dV l bad).2.2.2).2.1 (rU (dV l bad).2.2.1 (dV l bad).2.2.2).2.2).2.2 = false ∧
    Lab.form ⟨(dV l bad).1.n, (dV l bad).1.p, (rU (dV l bad).2.2.1 (dV l bad).2.2.2).1, (rI 15 (rU (dV l bad).2.2.1 (dV l bad).2.2.2).2.1 (rU (dV l bad).2.2.1 (dV l bad).2.2.2).2.2).1⟩ = true
  then (⟨(dV l bad).1.n, (dV l bad).1.p, (rU (dV l bad).2.2.1 (dV l bad).2.2.2).1, (rI 15 (rU (dV l bad).2.2.1 (dV l bad).2.2.2).2.1 (rU (dV l bad).2.2.1 (dV l bad).2.2.2).2.2).1⟩, true, (rI 15 (rU (dV l bad).2.2.1 (dV l bad).2.2.2).2.1 (rU (dV l bad).2.2.1 (dV l bad).2.2.2).2.2).2)
  else (⟨0, 0, 0, 0⟩, false, (rI 15 (rU (dV l bad).2.2.1 (dV l bad).2.2.2).2.1 (rU (dV l bad).2.2.1 (dV l bad).2.2.2).2.2).2)
end M
theorem four_set {I : Nat → Prop} {g b t : Nat} {l : List UInt8} {bad : Bool} {W1 w3 : World} {z0 z1 z2 z3 v0 v1 v2 v3 : Value} (hR : Rdr I w3 g l bad) (hM : Mod (· = g) W1 w3) (hb : w3.heap[b]? = some (.cells #[z0, z1, z2, z3] t (0, 0))) (hW : W1.heap.size ≤ b) (hg : g ≠ b) (hI : ¬ I b) :
    ∃ b', Value.pointer (some ⟨b, 0, none⟩) = Value.pointer (some ⟨b', 0, none⟩) ∧ Rdr I ((((w3.setCell ⟨b, 0, none⟩ v0).setCell ⟨b, 1, none⟩ v1).setCell ⟨b, 2, none⟩ v2).setCell ⟨b, 3, none⟩ v3) g l bad ∧
      Mod (· = g) W1 ((((w3.setCell ⟨b, 0, none⟩ v0).setCell ⟨b, 1, none⟩ v1).setCell ⟨b, 2, none⟩ v2).setCell ⟨b, 3, none⟩ v3) ∧ W1.heap.size ≤ b' ∧
      ((((w3.setCell ⟨b, 0, none⟩ v0).setCell ⟨b, 1, none⟩ v1).setCell ⟨b, 2, none⟩ v2).setCell ⟨b, 3, none⟩ v3).heap[b']? = some (.cells #[v0, v1, v2, v3] t (0, 0)) :=
  ⟨b, rfl, (((hR.far (a := ⟨b, 0, none⟩) hg hI _).far (a := ⟨b, 1, none⟩) hg hI _).far (a := ⟨b, 2, none⟩) hg hI _).far (a := ⟨b, 3, none⟩) hg hI _,
    (((hM.setCell (p := ⟨b, 0, none⟩) (.inr hW) _).setCell (p := ⟨b, 1, none⟩) (.inr hW) _).setCell (p := ⟨b, 2, none⟩) (.inr hW) _).setCell (p := ⟨b, 3, none⟩) (.inr hW) _, hW,
    by simpa using blk_set (blk_set (blk_set (blk_set hb 0 v0) 1 v1) 2 v2) 3 v3⟩
theorem keep4 {w : World} {b c j : Nat} {v0 v1 v2 v3 : Value} (h : c ≠ b) : ((((w.setCell ⟨b, 0, none⟩ v0).setCell ⟨b, 1, none⟩ v1).setCell ⟨b, 2, none⟩ v2).setCell ⟨b, 3, none⟩ v3).cell? ⟨c, j, none⟩ = w.cell? ⟨c, j, none⟩ := by
  rw [World.cell?_of_block (Below.heap_setCell _ _ _ _ h), World.cell?_of_block (Below.heap_setCell _ _ _ _ h), World.cell?_of_block (Below.heap_setCell _ _ _ _ h), World.cell?_of_block (Below.heap_setCell _ _ _ _ h)]
theorem far4 {I : Nat → Prop} {g b : Nat} {l : List UInt8} {bad : Bool} {w : World} {v0 v1 v2 v3 : Value} (hR : Rdr I w g l bad) (hg : g ≠ b) (hI : ¬ I b) : Rdr I ((((w.setCell ⟨b, 0, none⟩ v0).setCell ⟨b, 1, none⟩ v1).setCell ⟨b, 2, none⟩ v2).setCell ⟨b, 3, none⟩ v3) g l bad :=
  (((hR.far (a := ⟨b, 0, none⟩) hg hI _).far (a := ⟨b, 1, none⟩) hg hI _).far (a := ⟨b, 2, none⟩) hg hI _).far (a := ⟨b, 3, none⟩) hg hI _
theorem mod4 {S : Nat → Prop} {b : Nat} {w w1 : World} {v0 v1 v2 v3 : Value} (hM : Mod S w w1) (hW : w.heap.size ≤ b) : Mod S w ((((w1.setCell ⟨b, 0, none⟩ v0).setCell ⟨b, 1, none⟩ v1).setCell ⟨b, 2, none⟩ v2).setCell ⟨b, 3, none⟩ v3) :=
  (((hM.setCell (p := ⟨b, 0, none⟩) (.inr hW) _).setCell (p := ⟨b, 1, none⟩) (.inr hW) _).setCell (p := ⟨b, 2, none⟩) (.inr hW) _).setCell (p := ⟨b, 3, none⟩) (.inr hW) _
set_option maxRecDepth 100000 in
set_option maxHeartbeats 4000000 in
theorem label_Decode_b {I : Nat → Prop} {g : Nat} {l : List UInt8} {bad : Bool} {w : World} (h : Rdr I w g l bad) (hbd : ∀ k, I k → k < w.heap.size) :
    Calls Try.prog 36 #[.pointer (some ⟨g, 0, none⟩)] w fun e w' => e = .returned (.tuple #[.agg #[.int .u64 (dL l bad).1.n, .int .i64 (dL l bad).1.p, .int .u64 (dL l bad).1.s, .int .i64 (dL l bad).1.q], .bool (dL l bad).2.1]) ∧ Rdr I w' g (dL l bad).2.2.1 (dL l bad).2.2.2 ∧ Mod (· = g) w w' := by
  have hlt := h.lt
  have hE := dL.eq_1 l bad
  have HE := Lib.hid hE
  clear hE
  have HD := Lib.hid (fun W (hW : Rdr I W g l bad) => ident_Decode hW)
  generalize dV l bad = v at HE HD
  obtain ⟨⟨vn, vp⟩, vo, l0, b0⟩ := v
  have HU := Lib.hid (fun W (hW : Rdr I W g l0 b0) => reader_Uint_any hW)
  dsimp only at HE HD
  generalize rU l0 b0 = u at HE HU
  obtain ⟨n, l1, b1⟩ := u
  have HI := Lib.hid (fun W (hW : Rdr I W g l1 b1) => reader_Int hW (most := 15) (by omega))
  dsimp only at HE
  generalize rI 15 l1 b1 = i at HE HI
  obtain ⟨p, l2, b2⟩ := i
  have HV := Lib.hid (label_Form ⟨vn, vp, n, p⟩)
  dsimp only at HE HV
  have hB0 : Below w.heap.size w (w.alloc (.cells #[.int .u64 0, .int .i64 0, .int .u64 0, .int .i64 0] 26)) := (Below.refl _ _).alloc (Nat.le_refl _) _
  have HR0 := Lib.hid (h.step hB0)
  have HB0 := Lib.hid hB0
  clear hB0
  generalize Lab.form ⟨vn, vp, (n : Int), (p : Int)⟩ = f at HE HV
  go_enter Try.func36, Try.ntmps36
  go_wp2_with fail
  refine (HD.out _ HR0.out).mono ?_
  rintro e w1 ⟨rfl, hR1, hM1⟩
  have hm1 := mod_new hM1 hlt
  have hs1 := hM1.size
  simp at hs1
  have hB1 : Below w1.heap.size w1 (w1.alloc (.cells #[.int .u64 vn, .int .i64 vp] 24)) := (Below.refl _ _).alloc (Nat.le_refl _) _
  have HR1 := Lib.hid (hR1.step hB1)
  have hlt1 := hR1.lt
  clear hR1 hB1
  go_wp2_with fail
  have hn1 := heap_alloc_new w1 (.cells #[.int .u64 vn, .int .i64 vp] 24)
  have d0 := blk_cell hn1 0
  have d1 := blk_cell hn1 1
  simp only [List.getElem?_toArray, List.getElem?_cons_zero, List.getElem?_cons_succ] at d0 d1
  clear hn1
  generalize hW1 : w1.alloc (.cells #[.int .u64 vn, .int .i64 vp] 24) = W1 at *
  have HW1 := Lib.hid hW1
  clear hW1
  have hS : W1.heap.size = w1.heap.size + 1 := by rw [← HW1.out]; simp
  have hne : W1.heap.size ≠ g := by omega
  have hne1 : w1.heap.size ≠ g := by omega
  have hS1 : w1.heap.size < W1.heap.size := by omega
  have HS := Lib.hid hS
  clear hS
  go_cut [6] (fun s6 W => ∃ b, s6 = .pointer (some ⟨b, 0, none⟩) ∧ Rdr I W g l2 b2 ∧ Mod (· = g) W1 W ∧ W1.heap.size ≤ b ∧ W.heap[b]? = some (.cells #[.int .u64 vn, .int .i64 vp, .int .u64 n, .int .i64 p] 26 (0, 0)))
  case first =>
    go_region_held3 (fun W => W.cell? ⟨w1.heap.size, 0, none⟩ = some (.int .u64 vn) ∧ W.cell? ⟨w1.heap.size, 1, none⟩ = some (.int .i64 vp)) (first | go_keep | (go_split_ands; refine ⟨?_, ?_⟩ <;> (first | (rw [keepA (by omega)]; assumption) | (rw [keep4 (by omega)]; assumption) | (rw [q3 _ _ hne1 (by simp; omega)]; assumption) | (rw [q3 _ _ hne1 (by omega)]; assumption) | (rw [q1 _ _ hne1 (by simp; omega)]; assumption) | (rw [keepA (by omega), q3 _ _ hne1 (by omega), q1 _ _ hne1 (by simp; omega)]; first | exact d0 | exact d1)))) (first | (go_at_call 65; refine (HU.out _ ?_).mono ?_; (first | exact HR1.out.drew | exact HR1.out.drew.alloc _); rintro e w2 ⟨rfl, hR2, hM2⟩; obtain ⟨q1, q2⟩ := mcell hM2; have y2 : w2.heap.size ≠ g := Nat.ne_of_gt hR2.lt; have z2 := hM2.size; try simp at z2; try (have z2' : W1.heap.size < w2.heap.size := z2)) | (go_at_call 35; refine (HI.out _ ?_).mono ?_; (first | exact hR2 | exact hR2.alloc _); rintro e w3 ⟨rfl, hR3, hM3⟩; obtain ⟨q3, q4⟩ := mcell hM3; have y3 : w3.heap.size ≠ g := Nat.ne_of_gt hR3.lt; have z3 := hM3.size; try simp at z3; try (have z3' : w2.heap.size < w3.heap.size := z3)))
    all_goals go_wp2_with fail
    all_goals go_meet
    · exact ⟨w3.heap.size, rfl, hR3.alloc _, ((((Mod.refl _ W1).drew.trans hM2).trans hM3).alloc _), Nat.le_trans z2 z3, heap_alloc_new w3 _⟩
    · exact four_set hR3 ((((Mod.refl _ W1).drew.trans hM2).alloc _).trans hM3) (mod_new hM3 hR2.lt) z2 (Ne.symm y2) (fun hk => by have := hbd _ hk; have := HS.out; omega)
    · exact four_set hR3 ((((Mod.refl _ W1).alloc _).drew.trans hM2).trans hM3) (mod_blk hM3 (mod_blk hM2 (heap_alloc_new W1 _) hne) hne) (Nat.le_refl _) (Ne.symm hne) (fun hk => by have := hbd _ hk; have := HS.out; omega)
  case rest =>
    obtain ⟨b, rfl, hR, hM, hb, hblk⟩ := hcut
    have HR := Lib.hid hR
    have hMM : Mod (· = g) w1 _ := ((Mod.refl _ w1).alloc (.cells #[.int .u64 vn, .int .i64 vp] 24)).trans (by rw [HW1.out]; exact hM)
    have hM0 := mod_blk hMM hm1 (by omega)
    have hgw : g ≠ w.heap.size := by omega
    have hIw : ¬ I w.heap.size := fun hk => by have := hbd _ hk; omega
    have HMM := Lib.hid (((Mod.of_below HB0.out).trans hM1).trans hMM)
    have HN := Lib.hid hblk
    have HZ := Lib.hid hM0
    have hne2 : w.heap.size ≠ b := by have := HS.out; omega
    clear hR hM hblk hM0 hMM hM1 hm1 d0 d1
    cases vo with
    | false =>
      have c0 := blk_cell HZ.out 0
      have c1 := blk_cell HZ.out 1
      have c2 := blk_cell HZ.out 2
      have c3 := blk_cell HZ.out 3
      have f0 := blk_free HZ.out 0
      have f1 := blk_free HZ.out 1
      have f2 := blk_free HZ.out 2
      have f3 := blk_free HZ.out 3
      simp only [List.getElem?_toArray, List.getElem?_cons_zero, List.getElem?_cons_succ] at c0 c1 c2 c3
      go_wp2
      refine bodyPost_ret (v := .tuple #[.agg #[.int .u64 0, .int .i64 0, .int .u64 0, .int .i64 0], .bool false]) (by simp [results, Try.results36, go_sem, c0, c1, c2, c3]) rfl ⟨by rw [HE.out]; rfl, ?_, ?_⟩
      · rw [HE.out]
        exact far4 HR.out hgw hIw
      · exact mod4 HMM.out (Nat.le_refl _)
    | true =>
      cases b2 with
      | true =>
        go_wp2_with fail
        refine (reader_Bad HR.out).mono ?_
        rintro e w5 ⟨rfl, rfl⟩
        have c0 := blk_cell HZ.out 0
        have c1 := blk_cell HZ.out 1
        have c2 := blk_cell HZ.out 2
        have c3 := blk_cell HZ.out 3
        have f0 := blk_free HZ.out 0
        have f1 := blk_free HZ.out 1
        have f2 := blk_free HZ.out 2
        have f3 := blk_free HZ.out 3
        simp only [List.getElem?_toArray, List.getElem?_cons_zero, List.getElem?_cons_succ] at c0 c1 c2 c3
        go_wp2
        refine bodyPost_ret (v := .tuple #[.agg #[.int .u64 0, .int .i64 0, .int .u64 0, .int .i64 0], .bool false]) (by simp [results, Try.results36, go_sem, c0, c1, c2, c3]) rfl ⟨by rw [HE.out]; rfl, ?_, ?_⟩
        · rw [HE.out]
          exact far4 HR.out hgw hIw
        · exact mod4 HMM.out (Nat.le_refl _)
      | false =>
        cases f
        all_goals
          go_wp2_with fail
          refine (reader_Bad HR.out).mono ?_
          rintro e w5 ⟨rfl, rfl⟩
          have e0 := blk_cell HN.out 0
          have e1 := blk_cell HN.out 1
          have e2 := blk_cell HN.out 2
          have e3 := blk_cell HN.out 3
          simp only [List.getElem?_toArray, List.getElem?_cons_zero, List.getElem?_cons_succ] at e0 e1 e2 e3
          go_wp2_with fail
          refine (HV.out _).mono ?_
          rintro e w6 ⟨rfl, hb6⟩
          have HR6 := Lib.hid (HR.out.step hb6)
          have HM6 := Lib.hid (HMM.out.below hb6)
          have hz6 := below_blk hb6 HZ.out
          have hn6 := below_blk hb6 HN.out
          clear e0 e1 e2 e3 hb6
          have e0 := blk_cell hn6 0
          have e1 := blk_cell hn6 1
          have e2 := blk_cell hn6 2
          have e3 := blk_cell hn6 3
          have c0 := blk_cell hz6 0
          have c1 := blk_cell hz6 1
          have c2 := blk_cell hz6 2
          have c3 := blk_cell hz6 3
          have f0 := blk_free hz6 0
          have f1 := blk_free hz6 1
          have f2 := blk_free hz6 2
          have f3 := blk_free hz6 3
          simp only [List.getElem?_toArray, List.getElem?_cons_zero, List.getElem?_cons_succ] at c0 c1 c2 c3 e0 e1 e2 e3
          clear hn6 hz6
          go_wp2
        · refine bodyPost_ret (v := .tuple #[.agg #[.int .u64 0, .int .i64 0, .int .u64 0, .int .i64 0], .bool false]) (by simp [results, Try.results36, go_sem, c0, c1, c2, c3]) rfl ⟨by rw [HE.out]; rfl, ?_, ?_⟩
          · rw [HE.out]
            exact far4 HR6.out hgw hIw
          · exact mod4 HM6.out (Nat.le_refl _)
        · refine bodyPost_ret (v := .tuple #[.agg #[.int .u64 vn, .int .i64 vp, .int .u64 n, .int .i64 p], .bool true]) (by simp [results, Try.results36, go_sem, c0, c1, c2, c3]) rfl ⟨by rw [HE.out]; rfl, ?_, ?_⟩
          · rw [HE.out]
            exact far4 HR6.out hgw hIw
          · exact mod4 HM6.out (Nat.le_refl _)
theorem label_Decode {I : Nat → Prop} {g : Nat} {l : List UInt8} {bad : Bool} {w : World} (h : Rdr I w g l bad) :
    Calls Try.prog 36 #[.pointer (some ⟨g, 0, none⟩)] w fun e w' => e = .returned (.tuple #[.agg #[.int .u64 (dL l bad).1.n, .int .i64 (dL l bad).1.p, .int .u64 (dL l bad).1.s, .int .i64 (dL l bad).1.q], .bool (dL l bad).2.1]) ∧ Rdr I w' g (dL l bad).2.2.1 (dL l bad).2.2.2 ∧ Mod (· = g) w w' :=
  (label_Decode_b h.bound (fun _ hk => hk.2)).mono fun _ _ ⟨h1, h2, h3⟩ => ⟨h1, h2.mono (fun _ hk => hk.1) h.out, h3⟩
