/- The program's reader, the calls over Uint: Int, Bytes, NewReader. -/
import Derived.Test.YtdgdiikijjlnnaaRead
import Derived.Test.YtdgdiikijjlnnaaOwn
import Derived.Deep.DeepFit
namespace Go.Proofs.Ytdgdiikijjlnnaa
open Go.RowKit M

theorem keepA {w : World} {c j : Nat} {o : Obj} (h : c < w.heap.size) : (w.alloc o).cell? ⟨c, j, none⟩ = w.cell? ⟨c, j, none⟩ := World.cell?_of_block (Below.heap_alloc w o c h)
theorem Rdr.bound {I : Nat → Prop} {W : World} {g : Nat} {l : List UInt8} {bad : Bool} (h : Rdr I W g l bad) : Rdr (fun k => I k ∧ k < W.heap.size) W g l bad := by
  obtain ⟨h1, h2, A, c, h3, h4, h5⟩ := h
  exact ⟨fun hk => h1 hk.1, h2, A, c, h3, h4, h5.bound⟩
theorem Rdr.mono {I J : Nat → Prop} {W : World} {g : Nat} {l : List UInt8} {bad : Bool} (h : Rdr I W g l bad) (hI : ∀ k, I k → J k) (hg : ¬ J g) : Rdr J W g l bad := by
  obtain ⟨_, h2, A, c, h3, h4, h5⟩ := h
  exact ⟨hg, h2, A, c, h3, h4, h5.mono hI⟩
/-- What is written elsewhere. -/
theorem Rdr.far {I : Nat → Prop} {W : World} {g : Nat} {l : List UInt8} {bad : Bool} (h : Rdr I W g l bad) {a : Addr} (ha : g ≠ a.block) (hI : ¬ I a.block) (v : Value) : Rdr I (W.setCell a v) g l bad := by
  obtain ⟨h1, h2, A, c, h3, h4, h5⟩ := h
  exact ⟨h1, h2, A, c, set_blk h3 ha v, h4, h5.step (fun k hk _ => Below.heap_setCell W a v k (fun e => hI (e ▸ hk)))⟩
theorem Rdr.drew {I : Nat → Prop} {W : World} {g : Nat} {l : List UInt8} {bad : Bool} (h : Rdr I W g l bad) : Rdr I W.drew g l bad := h.step (Below.refl _ _).drew
theorem Rdr.alloc {I : Nat → Prop} {W : World} {g : Nat} {l : List UInt8} {bad : Bool} (h : Rdr I W g l bad) (o : Obj) : Rdr I (W.alloc o) g l bad := h.step ((Below.refl _ _).alloc (Nat.le_refl _) o)
theorem Rdr.out {I : Nat → Prop} {W : World} {g : Nat} {l : List UInt8} {bad : Bool} (h : Rdr I W g l bad) : ¬ I g := h.1
theorem Rdr.cells {I : Nat → Prop} {W : World} {g : Nat} {l : List UInt8} {bad : Bool} (h : Rdr I W g l bad) :
    W.cell? ⟨g, 1, none⟩ = some (.bool bad) ∧ W.frozen? ⟨g, 0, none⟩ = false ∧ W.frozen? ⟨g, 1, none⟩ = false ∧ ∃ A c, W.cell? ⟨g, 0, none⟩ = some (.slice A l.length c) ∧ l.length ≤ c ∧ Row kByte I W A l := by
  obtain ⟨_, _, A, c, hb, hc, hr⟩ := h
  exact ⟨by simpa using blk_cell hb 1, blk_free hb 0, blk_free hb 1, A, c, by simpa using blk_cell hb 0, hc, hr⟩
set_option maxHeartbeats 400000 in
theorem reader_Uint_bad {I : Nat → Prop} {g : Nat} {l : List UInt8} {w : World} (h : Rdr I w g l true) :
    Calls Try.prog 65 #[.pointer (some ⟨g, 0, none⟩)] w fun e w' => e = .returned (.int .u64 0) ∧ w = w' := by
  obtain ⟨h1, _, _, A, c, h0, _⟩ := h.cells
  go_enter Try.func65, Try.ntmps65
  go_wp2
  go_ret
  exact ⟨rfl, rfl⟩
/-- Uint, whatever the reader. -/
theorem reader_Uint_any {I : Nat → Prop} {g : Nat} {l : List UInt8} {bad : Bool} {w : World} (h : Rdr I w g l bad) :
    Calls Try.prog 65 #[.pointer (some ⟨g, 0, none⟩)] w fun e w' => e = .returned (.int .u64 (rU l bad).1) ∧ Rdr I w' g (rU l bad).2.1 (rU l bad).2.2 ∧ Mod (· = g) w w' := by
  cases bad with
  | false => exact reader_Uint h
  | true => exact (reader_Uint_bad h).mono fun e w' ⟨he, hw⟩ => by subst hw; exact ⟨he, h, Mod.refl _ _⟩
set_option maxHeartbeats 1000000 in
theorem reader_Int {I : Nat → Prop} {g most : Nat} {l : List UInt8} {bad : Bool} {w : World} (h : Rdr I w g l bad) (hmost : most ≤ 9223372036854775807) :
    Calls Try.prog 35 #[.pointer (some ⟨g, 0, none⟩), .int .i64 most] w fun e w' => e = .returned (.int .i64 (rI most l bad).1) ∧ Rdr I w' g (rI most l bad).2.1 (rI most l bad).2.2 ∧ Mod (· = g) w w' := by
  have hlt := rU_lt l bad
  have hI : rI most l bad = if (rU l bad).2.2 then (0, (rU l bad).2.1, true) else if (rU l bad).1 ≤ most then rU l bad else (0, (rU l bad).2.1, true) := rfl
  have HU := Lib.hid (reader_Uint_any h)
  generalize rU l bad = r at *
  obtain ⟨n, l', b'⟩ := r
  have HE := Lib.hid hI
  clear hI
  dsimp only at hlt
  cases b' with
  | true =>
    go_enter Try.func35, Try.ntmps35
    go_wp2_with fail
    refine HU.out.mono ?_
    rintro e w1 ⟨rfl, hR, hM⟩
    obtain ⟨h1, _, _, A, c, h0, _⟩ := hR.cells
    go_wp2_with fail
    refine (reader_fail hR).mono ?_
    rintro e w2 ⟨rfl, hR2, hM2⟩
    go_wp2
    go_ret
    rw [HE.out]
    exact ⟨rfl, hR2, hM.trans hM2⟩
  | false =>
    by_cases hn : n ≤ most
    · go_enter Try.func35, Try.ntmps35
      go_wp2_with fail
      refine HU.out.mono ?_
      rintro e w1 ⟨rfl, hR, hM⟩
      obtain ⟨h1, _, _, A, c, h0, _⟩ := hR.cells
      go_wp2
      go_ret
      rw [HE.out]
      simp only [Bool.false_eq_true, if_false, if_pos hn]
      exact ⟨rfl, hR, hM⟩
    · go_enter Try.func35, Try.ntmps35
      go_wp2_with fail
      refine HU.out.mono ?_
      rintro e w1 ⟨rfl, hR, hM⟩
      obtain ⟨h1, _, _, A, c, h0, _⟩ := hR.cells
      go_wp2_with fail
      refine (reader_fail hR).mono ?_
      rintro e w2 ⟨rfl, hR2, hM2⟩
      go_wp2
      go_ret
      rw [HE.out]
      simp only [if_neg hn]
      exact ⟨rfl, hR2, hM.trans hM2⟩

theorem infoByte : (Try.prog.info? 5).map (fun i => (i.zero, i.size, i.bytes)) = some (some (.int .u8 0), 1, 1) := by kernel_rfl
theorem bytes_ok {I : Nat → Prop} {g n c c' : Nat} {l : List UInt8} {A A' : Option Addr} {w w1 w2 : World} {e : Ending} {v : Value} (hI : ¬ I g) (hm : l.length ≤ 140737488355328) (hM : Mod (· = g) w w1) (hc : l.length ≤ c) (hr : Row kByte I w1 A l)
    (hb : w2.heap[g]? = some (.cells #[.slice A l.length c, .bool false] 100 (0, 0))) (hlt : g < w1.heap.size) (hn : n ≤ l.length) (hown : Own kByte 5 (fun _ => False) w2 w1.heap.size v (l.take n)) (hg : Below w1.heap.size w1 w2)
    (hA : A' = A ∧ c = n ∨ A' = A.map fun x => x.add n) (hc' : l.length - n ≤ c') (he : e = .returned v) :
    ∃ v', e = .returned v' ∧ SV kByte (fun k => w.heap.size ≤ k) (w2.setCell ⟨g, 0, none⟩ (.slice A' (l.length - n) c')) v' (l.take n) ∧ Rdr I (w2.setCell ⟨g, 0, none⟩ (.slice A' (l.length - n) c')) g (l.drop n) false ∧ Mod (· = g) w (w2.setCell ⟨g, 0, none⟩ (.slice A' (l.length - n) c')) := by
  have hM2 : Mod (· = g) w1 w2 := Mod.of_below hg
  have hM3 : Mod (· = g) w2 (w2.setCell ⟨g, 0, none⟩ (.slice A' (l.length - n) c')) := (Mod.refl (fun x => x = g) w2).setCell (p := ⟨g, 0, none⟩) (.inl rfl) _
  refine ⟨v, he, ?_, ⟨hI, by simp; omega, A', c', by simpa using blk_set hb 0 _, by simpa using hc', ?_⟩, hM.trans (hM2.trans hM3)⟩
  · have hs := hown.sv' (J := fun k => w1.heap.size ≤ k ∧ k ≠ g) (fun _ hk => hk.elim) (fun k hk => ⟨hk, fun e => ?_⟩)
    · exact (hs.step (hM3.agr (fun k hk e => hk.2 e))).mono (fun k hk => Nat.le_trans hM.size hk.1)
    · omega
  · refine Row.step ((hM2.trans hM3).agr (fun j hj e => hI (e ▸ hj))) ?_
    rcases hA with ⟨rfl, hA⟩ | rfl
    · rw [List.drop_eq_nil_of_le (by omega)]
      exact Row.nil _ _ _ _
    · have := hr.dropA n
      simpa [kByte] using this
set_option maxHeartbeats 1000000 in
theorem reader_Bytes {I : Nat → Prop} {g most : Nat} {l : List UInt8} {bad : Bool} {w : World} (h : Rdr I w g l bad) (hmost : most ≤ 140737488355328) :
    Calls Try.prog 63 #[.pointer (some ⟨g, 0, none⟩), .int .i64 most] w fun e w' => ∃ v, e = .returned v ∧ SV kByte (fun k => w.heap.size ≤ k) w' v (rB most l bad).1 ∧ Rdr I w' g (rB most l bad).2.1 (rB most l bad).2.2 ∧ Mod (· = g) w w' := by
  have hle := rI_le most l bad
  have hE : rB most l bad = if (rI most l bad).2.2 then ([], (rI most l bad).2.1, true) else if (rI most l bad).1 ≤ (rI most l bad).2.1.length then ((rI most l bad).2.1.take (rI most l bad).1, (rI most l bad).2.1.drop (rI most l bad).1, false) else ([], (rI most l bad).2.1, true) := rfl
  have HU := Lib.hid (reader_Int h (most := most) (by omega))
  generalize rI most l bad = r at *
  obtain ⟨n, l', b'⟩ := r
  have HE := Lib.hid hE
  clear hE
  dsimp only at hle
  cases b' with
  | true =>
    go_enter Try.func63, Try.ntmps63
    go_wp2_with fail
    refine HU.out.mono ?_
    rintro e w1 ⟨rfl, hR, hM⟩
    obtain ⟨h1, _, _, A, c, h0, _⟩ := hR.cells
    go_wp2
    go_ret
    rw [HE.out]
    exact ⟨_, rfl, SV.nil _ _ _, hR, hM⟩
  | false =>
    by_cases hn : n ≤ l'.length
    · go_enter Try.func63, Try.ntmps63
      go_wp2_with fail
      refine HU.out.mono ?_
      rintro e w1 ⟨rfl, hR, hM⟩
      obtain ⟨hI, hm, A, c, hb, hc, hr⟩ := hR
      have h1 := blk_cell hb 1
      have h0 := blk_cell hb 0
      have f0 := blk_free hb 0
      simp at h1 h0
      have HL := Lib.hid (show (l'.take n).length = n by simp; omega)
      have HB := Lib.hid hb
      have HR := Lib.hid hr
      have HI := Lib.hid hI
      clear hr hb hI
      go_wp2_with (at_builtin; refine wpList_append_Own (d := kByte) (I := fun _ => False) (xs := []) (ys := l'.take n) rfl w1.heap.size _ _ 27 5 (.int .u8 0) 1 rfl Try.underlying27 infoByte rfl (by decide) _ rfl (Own.nil _ _ _ _ _) A n (congrArg (fun k => Value.slice A k n) HL.out.symm) (HR.out.take n) (fun _ _ h => h) (by simp; omega) (by simp; omega) (Nat.le_refl _) (fun _ _ h => h) ?_)
      intro v' w2 hown hg
      have hb2 := below_blk hg.of_nil HB.out
      have h02 := blk_cell hb2 0
      have f02 := blk_free hb2 0
      simp at h02
      have HB2 := Lib.hid hb2
      have HO := Lib.hid hown
      have HG := Lib.hid hg.of_nil
      clear hb2 hown hg h1 h0 f0
      go_wp2
      all_goals go_ret
      all_goals rw [HE.out]
      all_goals simp only [Bool.false_eq_true, if_false, if_pos hn]
      · exact bytes_ok HI.out hm hM hc HR.out HB2.out (blk_lt HB.out) hn HO.out HG.out (.inl ⟨rfl, by assumption⟩) (by omega) rfl
      · exact bytes_ok HI.out hm hM hc HR.out HB2.out (blk_lt HB.out) hn HO.out HG.out (.inr rfl) (by omega) rfl
    · go_enter Try.func63, Try.ntmps63
      go_wp2_with fail
      refine HU.out.mono ?_
      rintro e w1 ⟨rfl, hR, hM⟩
      obtain ⟨hI, hm, A, c, hb, hc, hr⟩ := hR
      have h1 := blk_cell hb 1
      have h0 := blk_cell hb 0
      have f1 := blk_free hb 1
      simp at h1 h0
      have HB := Lib.hid hb
      have HR := Lib.hid hr
      clear hr hb
      go_wp2
      go_ret
      rw [HE.out]
      simp only [Bool.false_eq_true, if_false, if_neg hn]
      have hM2 : Mod (· = g) w1 (w1.setCell ⟨g, 1, none⟩ (.bool true)) := (Mod.refl (fun x => x = g) w1).setCell (p := ⟨g, 1, none⟩) (.inl rfl) _
      exact ⟨_, rfl, SV.nil _ _ _, ⟨hI, hm, A, c, by simpa using blk_set HB.out 1 _, hc, HR.out.step (hM2.agr (fun j hj e => hI (e ▸ hj)))⟩, hM.trans hM2⟩
set_option maxHeartbeats 400000 in
theorem new_reader {I : Nat → Prop} {A : Option Addr} {c : Nat} {l : List UInt8} {w : World} (hr : Row kByte I w A l) (hc : l.length ≤ c) (hm : l.length ≤ 140737488355328) (hI : ∀ k, w.heap.size ≤ k → ¬ I k) :
    Calls Try.prog 32 #[.slice A l.length c] w fun e w' => ∃ g, e = .returned (.pointer (some ⟨g, 0, none⟩)) ∧ w.heap.size ≤ g ∧ Rdr I w' g l false ∧ Below w.heap.size w w' := by
  have HR := Lib.hid hr
  clear hr
  go_enter Try.func32, Try.ntmps32
  go_wp2
  go_ret
  have hB : Below w.heap.size w (w.alloc (.cells #[.slice A l.length c, .bool false] 100)) := (Below.refl _ _).alloc (Nat.le_refl _) _
  exact ⟨w.heap.size, rfl, Nat.le_refl _, ⟨hI _ (Nat.le_refl _), hm, A, c, heap_alloc_new w _, hc, HR.out.below hB⟩, hB⟩
