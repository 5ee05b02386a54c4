/- Views' numbers and labels (packages ident, label): their form, how two of them stand, how they are read. -/
import Derived.Test.YtdgdiikijjlnnaaRead2
import Derived.BigQuiet
import Derived.Deep.QuietTactic
import Derived.StillTailTactics
namespace Go.Proofs.Ytdgdiikijjlnnaa
open Go.RowKit M

namespace M
def Vid.form (v : Vid) : Bool := decide (0 ≤ v.p ∧ v.p < 16 ∧ (0 < v.n ∨ v.p = 0))
def Lab.form (l : Lab) : Bool := decide (l.vid.form = true ∧ 0 < l.n ∧ 0 < l.s ∧ 0 ≤ l.q ∧ l.q < 16)
def Vid.agg (v : Vid) : Value := .agg #[.int .u64 v.n, .int .i64 v.p]
def Lab.agg (l : Lab) : Value := .agg #[.int .u64 l.n, .int .i64 l.p, .int .u64 l.s, .int .i64 l.q]
end M
theorem ret_bool {a b : Bool} (h : a = b) : Ending.returned (.bool a) = .returned (.bool b) := by rw [h]
theorem ret_int {k : IntKind} {a b : Int} (h : a = b) : Ending.returned (.int k a) = .returned (.int k b) := by rw [h]
/-- What a call of a step of ours left, and more besides. -/
theorem bcell {W w1 : World} (hb : Below W.heap.size W w1) : (∀ b o, b < W.heap.size → w1.cell? ⟨b, o, none⟩ = W.cell? ⟨b, o, none⟩) ∧ (∀ b o, b < W.heap.size → w1.frozen? ⟨b, o, none⟩ = W.frozen? ⟨b, o, none⟩) :=
  ⟨fun b o h => hb.cell (p := ⟨b, o, none⟩) h, fun b o h => hb.frozen (p := ⟨b, o, none⟩) h⟩
set_option maxHeartbeats 1000000 in
theorem ident_Form (v : Vid) (w : World) :
    Calls Try.prog 48 #[.agg #[.int .u64 v.n, .int .i64 v.p]] w fun e w' => e = .returned (.bool v.form) ∧ Below w.heap.size w w' := by
  obtain ⟨n, p⟩ := v
  dsimp only
  go_enter Try.func48, Try.ntmps48
  go_wp2
  all_goals
    go_ret
    refine ⟨ret_bool ?_, (Below.refl _ _).alloc (Nat.le_refl _) _⟩
    rw [Bool.eq_iff_iff]
    simp [Vid.form]
    try omega
set_option maxHeartbeats 1000000 in
theorem label_Form (l : Lab) (w : World) :
    Calls Try.prog 28 #[.agg #[.int .u64 l.n, .int .i64 l.p, .int .u64 l.s, .int .i64 l.q]] w fun e w' => e = .returned (.bool l.form) ∧ Below w.heap.size w w' := by
  obtain ⟨n, p, s, q⟩ := l
  dsimp only
  have HV := Lib.hid (ident_Form ⟨n, p⟩)
  have hf : Lab.form ⟨n, p, s, q⟩ = decide (Vid.form ⟨n, p⟩ = true ∧ 0 < n ∧ 0 < s ∧ 0 ≤ q ∧ q < 16) := rfl
  have HF := Lib.hid hf
  clear hf
  generalize Vid.form ⟨n, p⟩ = f at HV HF
  cases f
  all_goals
    go_enter Try.func28, Try.ntmps28
    go_wp2_with fail
    refine (HV.out _).mono ?_
    rintro e w1 ⟨rfl, hb⟩
    obtain ⟨hc, hfz⟩ := bcell hb
    go_wp2
    all_goals
      go_ret
      rw [HF.out]
      refine ⟨ret_bool ?_, ((Below.refl _ _).alloc (Nat.le_refl _) _).trans (hb.mono (by simp))⟩
      rw [Bool.eq_iff_iff]
      simp
      try omega

namespace M
/-- The next view's number. -/
def dV (l : List UInt8) (bad : Bool) : Vid × Bool × List UInt8 × Bool :=
  if (rI 15 (rU l bad).2.1 (rU l bad).2.2).2.2 = false ∧ Vid.form ⟨(rU l bad).1, (rI 15 (rU l bad).2.1 (rU l bad).2.2).1⟩ = true
  then (⟨(rU l bad).1, (rI 15 (rU l bad).2.1 (rU l bad).2.2).1⟩, true, (rI 15 (rU l bad).2.1 (rU l bad).2.2).2) else (⟨0, 0⟩, false, (rI 15 (rU l bad).2.1 (rU l bad).2.2).2)
end M
theorem Rdr.lt {I : Nat → Prop} {W : World} {g : Nat} {l : List UInt8} {bad : Bool} (h : Rdr I W g l bad) : g < W.heap.size := by
  obtain ⟨_, _, A, c, hb, _⟩ := h
  exact blk_lt hb
set_option maxHeartbeats 2000000 in
theorem ident_Decode_b {I : Nat → Prop} {g : Nat} {l : List UInt8} {bad : Bool} {w : World} (h : Rdr I w g l bad) (hbd : ∀ k, I k → k < w.heap.size) :
    Calls Try.prog 37 #[.pointer (some ⟨g, 0, none⟩)] w fun e w' => e = .returned (.tuple #[.agg #[.int .u64 (dV l bad).1.n, .int .i64 (dV l bad).1.p], .bool (dV l bad).2.1]) ∧ Rdr I w' g (dV l bad).2.2.1 (dV l bad).2.2.2 ∧ Mod (· = g) w w' := by
  have hlt := h.lt
  have hE : dV l bad = if (rI 15 (rU l bad).2.1 (rU l bad).2.2).2.2 = false ∧ Vid.form ⟨(rU l bad).1, (rI 15 (rU l bad).2.1 (rU l bad).2.2).1⟩ = true
    then (⟨(rU l bad).1, (rI 15 (rU l bad).2.1 (rU l bad).2.2).1⟩, true, (rI 15 (rU l bad).2.1 (rU l bad).2.2).2) else (⟨0, 0⟩, false, (rI 15 (rU l bad).2.1 (rU l bad).2.2).2) := rfl
  have HE := Lib.hid hE
  clear hE
  have HU := Lib.hid (fun W (hW : Rdr I W g l bad) => reader_Uint_any hW)
  generalize rU l bad = u at HE HU
  obtain ⟨n, l1, b1⟩ := u
  have HI := Lib.hid (fun W (hW : Rdr I W g l1 b1) => reader_Int hW (most := 15) (by omega))
  dsimp only at HE
  generalize rI 15 l1 b1 = i at HE HI
  obtain ⟨p, l2, b2⟩ := i
  have HV := Lib.hid (ident_Form ⟨n, p⟩)
  dsimp only at HE HV
  have hB0 : Below w.heap.size w (w.alloc (.cells #[.int .u64 0, .int .i64 0] 24)) := (Below.refl _ _).alloc (Nat.le_refl _) _
  have HR0 := Lib.hid (h.step hB0)
  have HB0 := Lib.hid hB0
  clear hB0
  generalize Vid.form ⟨(n : Int), (p : Int)⟩ = f at HE HV
  have HM : ∀ w1 w2 : World, Mod (· = g) (w.alloc (.cells #[.int .u64 0, .int .i64 0] 24)) w1 → Mod (· = g) w1 w2 → Mod (· = g) w w2 := fun w1 w2 h1 h2 => (Mod.of_below HB0.out).trans (h1.trans h2)
  have HMM := Lib.hid HM
  clear HM
  cases b2 with
  | true =>
    go_enter Try.func37, Try.ntmps37
    go_wp2_with fail
    refine (HU.out _ HR0.out).mono ?_
    rintro e w1 ⟨rfl, hR1, hM1⟩
    have HR1 := Lib.hid hR1
    have hm1 := mod_new hM1 hlt
    have hs1 := hM1.size
    simp at hs1
    clear hR1
    go_wp2_with fail
    refine (HI.out _ HR1.out).mono ?_
    rintro e w2 ⟨rfl, hR2, hM2⟩
    have hs2 := hM2.size
    have hm2 := mod_blk hM2 hm1 (by omega)
    have HB2 := Lib.hid (hR2.step ((Below.refl _ _).alloc (Nat.le_refl _) (.cells #[.int .u64 (n : Int), .int .i64 (p : Int)] 24)))
    have HW := Lib.hid (HMM.out _ _ hM1 hM2)
    have hm3 := alloc_blk hm2 (.cells #[.int .u64 (n : Int), .int .i64 (p : Int)] 24)
    have c0 := blk_cell hm3 0
    have c1 := blk_cell hm3 1
    have f0 := blk_free hm3 0
    have f1 := blk_free hm3 1
    simp only [List.getElem?_toArray, List.getElem?_cons_zero, List.getElem?_cons_succ] at c0 c1
    clear hR2 hM2 hM1 hm1 hm2 hm3
    go_wp2_with fail
    refine (reader_Bad HB2.out).mono ?_
    rintro e w3 ⟨rfl, rfl⟩
    go_wp2
    refine bodyPost_ret (v := .tuple #[.agg #[.int .u64 0, .int .i64 0], .bool false]) (by simp [results, Try.results37, go_sem, c0, c1]) rfl ⟨by rw [HE.out]; rfl, ?_, ?_⟩
    · rw [HE.out]
      exact (HB2.out.far (a := ⟨w.heap.size, 0, none⟩) (by dsimp only; omega) (fun hk => by have := hbd _ hk; simp at this) _).far (a := ⟨w.heap.size, 1, none⟩) (by dsimp only; omega) (fun hk => by have := hbd _ hk; simp at this) _
    · exact ((HW.out.alloc _).setCell (p := ⟨w.heap.size, 0, none⟩) (.inr (Nat.le_refl _)) _).setCell (p := ⟨w.heap.size, 1, none⟩) (.inr (Nat.le_refl _)) _
  | false =>
    cases f
    all_goals
      go_enter Try.func37, Try.ntmps37
      go_wp2_with fail
      refine (HU.out _ HR0.out).mono ?_
      rintro e w1 ⟨rfl, hR1, hM1⟩
      have HR1 := Lib.hid hR1
      have hm1 := mod_new hM1 hlt
      have hs1 := hM1.size
      simp at hs1
      clear hR1
      go_wp2_with fail
      refine (HI.out _ HR1.out).mono ?_
      rintro e w2 ⟨rfl, hR2, hM2⟩
      have hs2 := hM2.size
      have hm2 := mod_blk hM2 hm1 (by omega)
      have HB2 := Lib.hid (hR2.step ((Below.refl _ _).alloc (Nat.le_refl _) (.cells #[.int .u64 (n : Int), .int .i64 (p : Int)] 24)))
      have HW := Lib.hid (HMM.out _ _ hM1 hM2)
      have hm3 := alloc_blk hm2 (.cells #[.int .u64 (n : Int), .int .i64 (p : Int)] 24)
      have hn3 := heap_alloc_new w2 (.cells #[.int .u64 (n : Int), .int .i64 (p : Int)] 24)
      have HM3 := Lib.hid hm3
      have HN3 := Lib.hid hn3
      clear hR2 hM2 hM1 hm1 hm2 hm3 hn3
      go_wp2_with fail
      refine (reader_Bad HB2.out).mono ?_
      rintro e w3 ⟨rfl, rfl⟩
      go_wp2_with fail
      refine (HV.out _).mono ?_
      rintro e w4 ⟨rfl, hb4⟩
      have hm4 := below_blk hb4 HM3.out
      have hn4 := below_blk hb4 HN3.out
      have HR4 := Lib.hid (HB2.out.step hb4)
      have HW4 := Lib.hid ((HW.out.alloc _).below hb4)
      have hs4 := hb4.size
      simp at hs4
      have c0 := blk_cell hm4 0
      have c1 := blk_cell hm4 1
      have f0 := blk_free hm4 0
      have f1 := blk_free hm4 1
      have d0 := blk_cell hn4 0
      have d1 := blk_cell hn4 1
      simp only [List.getElem?_toArray, List.getElem?_cons_zero, List.getElem?_cons_succ] at c0 c1 d0 d1
      clear hm4 hn4 hb4
      go_wp2
    · refine bodyPost_ret (v := .tuple #[.agg #[.int .u64 0, .int .i64 0], .bool false]) (by simp [results, Try.results37, go_sem, c0, c1]) rfl ⟨by rw [HE.out]; rfl, ?_, ?_⟩
      · rw [HE.out]
        exact (HR4.out.far (a := ⟨w.heap.size, 0, none⟩) (by dsimp only; omega) (fun hk => by have := hbd _ hk; simp at this) _).far (a := ⟨w.heap.size, 1, none⟩) (by dsimp only; omega) (fun hk => by have := hbd _ hk; simp at this) _
      · exact (HW4.out.setCell (p := ⟨w.heap.size, 0, none⟩) (.inr (Nat.le_refl _)) _).setCell (p := ⟨w.heap.size, 1, none⟩) (.inr (Nat.le_refl _)) _
    · refine bodyPost_ret (v := .tuple #[.agg #[.int .u64 n, .int .i64 p], .bool true]) (by simp [results, Try.results37, go_sem, c0, c1]) rfl ⟨by rw [HE.out]; rfl, ?_, ?_⟩
      · rw [HE.out]
        exact (HR4.out.far (a := ⟨w.heap.size, 0, none⟩) (by dsimp only; omega) (fun hk => by have := hbd _ hk; simp at this) _).far (a := ⟨w.heap.size, 1, none⟩) (by dsimp only; omega) (fun hk => by have := hbd _ hk; simp at this) _
      · exact (HW4.out.setCell (p := ⟨w.heap.size, 0, none⟩) (.inr (Nat.le_refl _)) _).setCell (p := ⟨w.heap.size, 1, none⟩) (.inr (Nat.le_refl _)) _
theorem ident_Decode {I : Nat → Prop} {g : Nat} {l : List UInt8} {bad : Bool} {w : World} (h : Rdr I w g l bad) :
    Calls Try.prog 37 #[.pointer (some ⟨g, 0, none⟩)] w fun e w' => e = .returned (.tuple #[.agg #[.int .u64 (dV l bad).1.n, .int .i64 (dV l bad).1.p], .bool (dV l bad).2.1]) ∧ Rdr I w' g (dV l bad).2.2.1 (dV l bad).2.2.2 ∧ Mod (· = g) w w' :=
  (ident_Decode_b h.bound (fun _ hk => hk.2)).mono fun _ _ ⟨h1, h2, h3⟩ => ⟨h1, h2.mono (fun _ hk => hk.1) h.out, h3⟩
