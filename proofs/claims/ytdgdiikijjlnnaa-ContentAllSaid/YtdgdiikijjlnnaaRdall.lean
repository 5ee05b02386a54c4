/- The reference: a summary is read (folkmootref15.Decode, where the first byte is 2). -/
import Derived.Test.YtdgdiikijjlnnaaRune
import Derived.Test.YtdgdiikijjlnnaaRall
import Derived.Test.YtdgdiikijjlnnaaOwn2
import Derived.Deep.RegionHeld
import Derived.Deep.RegionHeld3
import Derived.Deep.RegionLaw
import Derived.Deep.DeepCutAuto
import Derived.Deep.CutBlock
import Derived.Lib.QuietBelow
namespace Go.Proofs.Ytdgdiikijjlnnaa
open Go.RowKit Go.Sort M
namespace M
/-- So many entries, while there is no fault. -/
def rEs : Nat → List UInt8 → Nat → Bool → List Ent × Nat × Bool
  | 0, _, k, bad => ([], k, bad)
  | n + 1, P, k, bad => if bad then ([], k, bad) else ((rE P k false).1 :: (rEs n P (rE P k false).2.1 (rE P k false).2.2).1, (rEs n P (rE P k false).2.1 (rE P k false).2.2).2)
def rLs : Nat → List UInt8 → Nat → Bool → List Lab × Nat × Bool
  | 0, _, k, bad => ([], k, bad)
  | n + 1, P, k, bad => if bad then ([], k, bad) else ((rL P k false).1 :: (rLs n P (rL P k false).2.1 (rL P k false).2.2).1, (rLs n P (rL P k false).2.1 (rL P k false).2.2).2)
theorem rEs_bad (n : Nat) (P : List UInt8) (k : Nat) : rEs n P k true = ([], k, true) := by cases n <;> simp [rEs]
theorem rLs_bad (n : Nat) (P : List UInt8) (k : Nat) : rLs n P k true = ([], k, true) := by cases n <;> simp [rLs]
theorem rEs_len (n : Nat) (P : List UInt8) (k : Nat) (bad : Bool) : (rEs n P k bad).1.length ≤ n := by
  induction n generalizing k bad with
  | zero => simp [rEs]
  | succ n ih =>
    rw [rEs]
    split
    · simp
    · simpa using ih _ _
theorem rLs_len (n : Nat) (P : List UInt8) (k : Nat) (bad : Bool) : (rLs n P k bad).1.length ≤ n := by
  induction n generalizing k bad with
  | zero => simp [rLs]
  | succ n ih =>
    rw [rLs]
    split
    · simp
    · simpa using ih _ _
/-- What the loop over entries has done: i rounds, xs read, now at place k. -/
def EsAt (n : Nat) (P : List UInt8) (k0 : Nat) (b0 : Bool) (i : Nat) (xs : List Ent) (k : Nat) (bad : Bool) : Prop :=
  i ≤ n ∧ xs.length = i ∧ rEs n P k0 b0 = (xs ++ (rEs (n - i) P k bad).1, (rEs (n - i) P k bad).2)
theorem EsAt.start (n : Nat) (P : List UInt8) (k0 : Nat) (b0 : Bool) : EsAt n P k0 b0 0 [] k0 b0 := ⟨Nat.zero_le _, rfl, by simp⟩
theorem EsAt.next {n : Nat} {P : List UInt8} {k0 : Nat} {b0 : Bool} {i : Nat} {xs : List Ent} {k : Nat} (h : EsAt n P k0 b0 i xs k false) (hi : i < n) : EsAt n P k0 b0 (i + 1) (xs ++ [(rE P k false).1]) (rE P k false).2.1 (rE P k false).2.2 := by
  obtain ⟨h1, h2, h3⟩ := h
  refine ⟨hi, by simp [h2], ?_⟩
  rw [h3, show n - i = (n - (i + 1)) + 1 by omega, rEs]
  simp
theorem EsAt.done {n : Nat} {P : List UInt8} {k0 : Nat} {b0 : Bool} {i : Nat} {xs : List Ent} {k : Nat} {bad : Bool} (h : EsAt n P k0 b0 i xs k bad) (hi : n ≤ i ∨ bad = true) : rEs n P k0 b0 = (xs, k, bad) := by
  obtain ⟨h1, h2, h3⟩ := h
  rw [h3]
  rcases hi with hi | rfl
  · rw [show n - i = 0 by omega]
    simp [rEs]
  · simp [rEs_bad]
def LsAt (n : Nat) (P : List UInt8) (k0 : Nat) (b0 : Bool) (i : Nat) (xs : List Lab) (k : Nat) (bad : Bool) : Prop :=
  i ≤ n ∧ xs.length = i ∧ rLs n P k0 b0 = (xs ++ (rLs (n - i) P k bad).1, (rLs (n - i) P k bad).2)
theorem LsAt.start (n : Nat) (P : List UInt8) (k0 : Nat) (b0 : Bool) : LsAt n P k0 b0 0 [] k0 b0 := ⟨Nat.zero_le _, rfl, by simp⟩
theorem LsAt.next {n : Nat} {P : List UInt8} {k0 : Nat} {b0 : Bool} {i : Nat} {xs : List Lab} {k : Nat} (h : LsAt n P k0 b0 i xs k false) (hi : i < n) : LsAt n P k0 b0 (i + 1) (xs ++ [(rL P k false).1]) (rL P k false).2.1 (rL P k false).2.2 := by
  obtain ⟨h1, h2, h3⟩ := h
  refine ⟨hi, by simp [h2], ?_⟩
  rw [h3, show n - i = (n - (i + 1)) + 1 by omega, rLs]
  simp
theorem LsAt.done {n : Nat} {P : List UInt8} {k0 : Nat} {b0 : Bool} {i : Nat} {xs : List Lab} {k : Nat} {bad : Bool} (h : LsAt n P k0 b0 i xs k bad) (hi : n ≤ i ∨ bad = true) : rLs n P k0 b0 = (xs, k, bad) := by
  obtain ⟨h1, h2, h3⟩ := h
  rw [h3]
  rcases hi with hi | rfl
  · rw [show n - i = 0 by omega]
    simp [rLs]
  · simp [rLs_bad]
/-- What is read of bytes that begin with 2: the summary, and where its reader stands. -/
def rS1 (P : List UInt8) : List Ent × Nat × Bool := rEs (rRI P.length P 1 false).1 P (rRI P.length P 1 false).2.1 (rRI P.length P 1 false).2.2
def rS2 (P : List UInt8) : List Lab × Nat × Bool := rLs (rRI P.length P (rS1 P).2.1 (rS1 P).2.2).1 P (rRI P.length P (rS1 P).2.1 (rS1 P).2.2).2.1 (rRI P.length P (rS1 P).2.1 (rS1 P).2.2).2.2
def rS3 (P : List UInt8) : Nat × Nat × Bool := rRI P.length P (rS2 P).2.1 (rS2 P).2.2
def rS4 (P : List UInt8) : Vid × Nat × Bool := rV P (rS3 P).2.1 (rS3 P).2.2
def rSum (P : List UInt8) : Sum := ⟨(rS1 P).1, (rS2 P).1, (rS3 P).1, (rS4 P).1⟩
def rAt (P : List UInt8) : Int := if (rS4 P).2.2 then -1 else (rS4 P).2.1
/-- It is told. -/
def rOk (P : List UInt8) : Prop := rAt P = P.length ∧ (rSum P).Right ∧ sEnc (rSum P) = P
end M
theorem Rfr.move {I S : Nat → Prop} {g k : Nat} {P : List UInt8} {bad : Bool} {w w1 : World} (h : Rfr I w g P k bad) (hm : Mod S w w1) (hg : ¬ S g) (hI : ∀ k, I k → ¬ S k) : Rfr I w1 g P k bad := by
  obtain ⟨h1, h2, h3, A, c, h4, h5, h6⟩ := h
  exact ⟨h1, h2, h3, A, c, mod_blk hm h4 hg, h5, h6.step (hm.agr hI)⟩
theorem rL_ok (P : List UInt8) (k : Nat) (bad : Bool) : (rL P k bad).1.ok := by
  have h0 := rV_ok P k bad
  have h1 := rU_lt64 P (rV P k bad).2.1 (rV P k bad).2.2
  have h2 := rI_le15 P (rRU P (rV P k bad).2.1 (rV P k bad).2.2).2.1 (rRU P (rV P k bad).2.1 (rV P k bad).2.2).2.2 15
  unfold Vid.ok at h0
  unfold rL
  split
  · unfold Lab.ok
    dsimp only
    omega
  · unfold Lab.ok
    dsimp only
    omega
theorem rE_ok (P : List UInt8) (k : Nat) (bad : Bool) : (rE P k bad).1.l.ok := rL_ok P k bad
theorem infoEnt : (Try.prog.info? 29).map (fun i => (i.zero, i.size, i.bytes)) = some (some (.agg #[.int .u64 0, .int .i64 0, .int .u64 0, .int .i64 0, .slice none 0 0]), 5, 56) := by kernel_rfl
set_option maxRecDepth 100000 in
set_option maxHeartbeats 4000000 in
theorem ref15_Decode_all {I : Nat → Prop} {A : Option Addr} {c : Nat} {P : List UInt8} {w : World} (hr : Row kByte I w A P) (hc : P.length ≤ c) (hm : P.length ≤ 3000) (h2 : P[0]? = some 2) (ok : Bool) (hok : ok = true ↔ rOk P) (hbd : ∀ k, I k → k < w.heap.size) :
    Calls Try.prog 14 #[.slice A P.length c] w fun e w' => ∃ v1 v2, e = .returned (.tuple #[.int .u8 (if ok then 2 else 0), .agg #[.int .u64 0, .int .i64 0, .int .u64 0, .int .i64 0, .slice none 0 0], .agg #[v1, v2, .int .i64 (if ok then rSum P else default).next, .int .u64 (if ok then rSum P else default).high.n, .int .i64 (if ok then rSum P else default).high.p]]) ∧
      SV kEnt (fun k => I k ∨ w.heap.size ≤ k) w' v1 (if ok then rSum P else default).con ∧ SV kLab (fun k => I k ∨ w.heap.size ≤ k) w' v2 (if ok then rSum P else default).ord ∧ Below w.heap.size w w' := by
  obtain ⟨b, o, rfl, _, hcell⟩ := Row.byte hr (by rintro rfl; simp at h2)
  have hb0 := hcell 0 (by have := (List.getElem?_eq_some_iff.1 h2).1; omega)
  rw [h2] at hb0
  simp at hb0
  have hb0l := World.block_lt_of_cell? w _ hb0
  dsimp only at hb0l
  have HR := Lib.hid hr
  have hpos : ¬ (P.length : Int) = 0 := by have := (List.getElem?_eq_some_iff.1 h2).1; omega
  have hp1 : 1 ≤ P.length := by have := (List.getElem?_eq_some_iff.1 h2).1; omega
  have hpb : ((P.length : Int) == 0) = false := by simpa using hpos
  have B4 : Below w.heap.size w ((((w.alloc (.cells #[.int .u64 0, .int .i64 0, .int .u64 0, .int .i64 0, .slice none 0 0] 29)).alloc (.cells #[.slice none 0 0, .slice none 0 0, .int .i64 0, .int .u64 0, .int .i64 0] 38)).alloc (.cells #[.int .u64 0, .int .i64 0, .int .u64 0, .int .i64 0, .slice none 0 0] 29)).alloc (.cells #[.slice (some ⟨b, o, none⟩) P.length c, .int .i64 1] 79)) := (((below_alloc1 w _).alloc (by simp) _).alloc (by simp; omega) _).alloc (by simp; omega) _
  have q4 := pw_cell B4 hb0
  have B5 : Below w.heap.size w (((((w.alloc (.cells #[.int .u64 0, .int .i64 0, .int .u64 0, .int .i64 0, .slice none 0 0] 29)).alloc (.cells #[.slice none 0 0, .slice none 0 0, .int .i64 0, .int .u64 0, .int .i64 0] 38)).alloc (.cells #[.int .u64 0, .int .i64 0, .int .u64 0, .int .i64 0, .slice none 0 0] 29)).alloc (.cells #[.slice (some ⟨b, o, none⟩) P.length c, .int .i64 1] 79)).alloc (.cells #[.slice none 0 0, .slice none 0 0, .int .i64 0, .int .u64 0, .int .i64 0] 38)) := B4.alloc B4.size _
  have q5 := pw_cell B5 hb0
  have m0 : (((((w.alloc (.cells #[.int .u64 0, .int .i64 0, .int .u64 0, .int .i64 0, .slice none 0 0] 29)).alloc (.cells #[.slice none 0 0, .slice none 0 0, .int .i64 0, .int .u64 0, .int .i64 0] 38)).alloc (.cells #[.int .u64 0, .int .i64 0, .int .u64 0, .int .i64 0, .slice none 0 0] 29)).alloc (.cells #[.slice (some ⟨b, o, none⟩) P.length c, .int .i64 1] 79)).alloc (.cells #[.slice none 0 0, .slice none 0 0, .int .i64 0, .int .u64 0, .int .i64 0] 38)).heap[w.heap.size]? = some (.cells #[.int .u64 0, .int .i64 0, .int .u64 0, .int .i64 0, .slice none 0 0] 29 (0, 0)) := alloc_blk (alloc_blk (alloc_blk (alloc_blk (heap_alloc_new w _) _) _) _) _
  have m1 : (((((w.alloc (.cells #[.int .u64 0, .int .i64 0, .int .u64 0, .int .i64 0, .slice none 0 0] 29)).alloc (.cells #[.slice none 0 0, .slice none 0 0, .int .i64 0, .int .u64 0, .int .i64 0] 38)).alloc (.cells #[.int .u64 0, .int .i64 0, .int .u64 0, .int .i64 0, .slice none 0 0] 29)).alloc (.cells #[.slice (some ⟨b, o, none⟩) P.length c, .int .i64 1] 79)).alloc (.cells #[.slice none 0 0, .slice none 0 0, .int .i64 0, .int .u64 0, .int .i64 0] 38)).heap[w.heap.size + 1]? = some (.cells #[.slice none 0 0, .slice none 0 0, .int .i64 0, .int .u64 0, .int .i64 0] 38 (0, 0)) := alloc_blk (alloc_blk (alloc_blk (by simpa using heap_alloc_new (w.alloc (.cells #[.int .u64 0, .int .i64 0, .int .u64 0, .int .i64 0, .slice none 0 0] 29)) (.cells #[.slice none 0 0, .slice none 0 0, .int .i64 0, .int .u64 0, .int .i64 0] 38)) _) _) _
  have m2 : (((((w.alloc (.cells #[.int .u64 0, .int .i64 0, .int .u64 0, .int .i64 0, .slice none 0 0] 29)).alloc (.cells #[.slice none 0 0, .slice none 0 0, .int .i64 0, .int .u64 0, .int .i64 0] 38)).alloc (.cells #[.int .u64 0, .int .i64 0, .int .u64 0, .int .i64 0, .slice none 0 0] 29)).alloc (.cells #[.slice (some ⟨b, o, none⟩) P.length c, .int .i64 1] 79)).alloc (.cells #[.slice none 0 0, .slice none 0 0, .int .i64 0, .int .u64 0, .int .i64 0] 38)).heap[w.heap.size + 1 + 1]? = some (.cells #[.int .u64 0, .int .i64 0, .int .u64 0, .int .i64 0, .slice none 0 0] 29 (0, 0)) := alloc_blk (alloc_blk (by simpa using heap_alloc_new ((w.alloc (.cells #[.int .u64 0, .int .i64 0, .int .u64 0, .int .i64 0, .slice none 0 0] 29)).alloc (.cells #[.slice none 0 0, .slice none 0 0, .int .i64 0, .int .u64 0, .int .i64 0] 38)) (.cells #[.int .u64 0, .int .i64 0, .int .u64 0, .int .i64 0, .slice none 0 0] 29)) _) _
  have m3 : (((((w.alloc (.cells #[.int .u64 0, .int .i64 0, .int .u64 0, .int .i64 0, .slice none 0 0] 29)).alloc (.cells #[.slice none 0 0, .slice none 0 0, .int .i64 0, .int .u64 0, .int .i64 0] 38)).alloc (.cells #[.int .u64 0, .int .i64 0, .int .u64 0, .int .i64 0, .slice none 0 0] 29)).alloc (.cells #[.slice (some ⟨b, o, none⟩) P.length c, .int .i64 1] 79)).alloc (.cells #[.slice none 0 0, .slice none 0 0, .int .i64 0, .int .u64 0, .int .i64 0] 38)).heap[w.heap.size + 1 + 1 + 1]? = some (.cells #[.slice (some ⟨b, o, none⟩) P.length c, .int .i64 1] 79 (0, 0)) := alloc_blk (by simpa using heap_alloc_new (((w.alloc (.cells #[.int .u64 0, .int .i64 0, .int .u64 0, .int .i64 0, .slice none 0 0] 29)).alloc (.cells #[.slice none 0 0, .slice none 0 0, .int .i64 0, .int .u64 0, .int .i64 0] 38)).alloc (.cells #[.int .u64 0, .int .i64 0, .int .u64 0, .int .i64 0, .slice none 0 0] 29)) (.cells #[.slice (some ⟨b, o, none⟩) P.length c, .int .i64 1] 79)) _
  have m4 : (((((w.alloc (.cells #[.int .u64 0, .int .i64 0, .int .u64 0, .int .i64 0, .slice none 0 0] 29)).alloc (.cells #[.slice none 0 0, .slice none 0 0, .int .i64 0, .int .u64 0, .int .i64 0] 38)).alloc (.cells #[.int .u64 0, .int .i64 0, .int .u64 0, .int .i64 0, .slice none 0 0] 29)).alloc (.cells #[.slice (some ⟨b, o, none⟩) P.length c, .int .i64 1] 79)).alloc (.cells #[.slice none 0 0, .slice none 0 0, .int .i64 0, .int .u64 0, .int .i64 0] 38)).heap[w.heap.size + 1 + 1 + 1 + 1]? = some (.cells #[.slice none 0 0, .slice none 0 0, .int .i64 0, .int .u64 0, .int .i64 0] 38 (0, 0)) := by simpa using heap_alloc_new ((((w.alloc (.cells #[.int .u64 0, .int .i64 0, .int .u64 0, .int .i64 0, .slice none 0 0] 29)).alloc (.cells #[.slice none 0 0, .slice none 0 0, .int .i64 0, .int .u64 0, .int .i64 0] 38)).alloc (.cells #[.int .u64 0, .int .i64 0, .int .u64 0, .int .i64 0, .slice none 0 0] 29)).alloc (.cells #[.slice (some ⟨b, o, none⟩) P.length c, .int .i64 1] 79)) (.cells #[.slice none 0 0, .slice none 0 0, .int .i64 0, .int .u64 0, .int .i64 0] 38)
  have hz5 : (((((w.alloc (.cells #[.int .u64 0, .int .i64 0, .int .u64 0, .int .i64 0, .slice none 0 0] 29)).alloc (.cells #[.slice none 0 0, .slice none 0 0, .int .i64 0, .int .u64 0, .int .i64 0] 38)).alloc (.cells #[.int .u64 0, .int .i64 0, .int .u64 0, .int .i64 0, .slice none 0 0] 29)).alloc (.cells #[.slice (some ⟨b, o, none⟩) P.length c, .int .i64 1] 79)).alloc (.cells #[.slice none 0 0, .slice none 0 0, .int .i64 0, .int .u64 0, .int .i64 0] 38)).heap.size = w.heap.size + 5 := by simp
  have HR0 : Rfr I (((((w.alloc (.cells #[.int .u64 0, .int .i64 0, .int .u64 0, .int .i64 0, .slice none 0 0] 29)).alloc (.cells #[.slice none 0 0, .slice none 0 0, .int .i64 0, .int .u64 0, .int .i64 0] 38)).alloc (.cells #[.int .u64 0, .int .i64 0, .int .u64 0, .int .i64 0, .slice none 0 0] 29)).alloc (.cells #[.slice (some ⟨b, o, none⟩) P.length c, .int .i64 1] 79)).alloc (.cells #[.slice none 0 0, .slice none 0 0, .int .i64 0, .int .u64 0, .int .i64 0] 38)) (w.heap.size + 1 + 1 + 1) P 1 false := ⟨fun hk => by have := hbd _ hk; omega, by omega, hp1, _, c, m3, hc, hr.below B5⟩
  have HRF := Lib.hid HR0
  have HB5 := Lib.hid B5
  have HM0 := Lib.hid m0
  have HM1 := Lib.hid m1
  have HM2 := Lib.hid m2
  have HM4 := Lib.hid m4
  have HI := Lib.hid (fun W k bad (hW : Rfr I W (w.heap.size + 1 + 1 + 1) P k bad) => ref_Int hW (most := P.length) (by omega))
  clear hr hcell HR0 B4 B5 m0 m1 m2 m3 m4
  go_enter Try.func14, Try.ntmps14
  go_wp2_with fail
  refine (HI.out _ _ _ HRF.out).mono ?_
  rintro e w1 ⟨rfl, hR1, hM1⟩
  clear q4 q5
  generalize (((((w.alloc (.cells #[.int .u64 0, .int .i64 0, .int .u64 0, .int .i64 0, .slice none 0 0] 29)).alloc (.cells #[.slice none 0 0, .slice none 0 0, .int .i64 0, .int .u64 0, .int .i64 0] 38)).alloc (.cells #[.int .u64 0, .int .i64 0, .int .u64 0, .int .i64 0, .slice none 0 0] 29)).alloc (.cells #[.slice (some ⟨b, o, none⟩) P.length c, .int .i64 1] 79)).alloc (.cells #[.slice none 0 0, .slice none 0 0, .int .i64 0, .int .u64 0, .int .i64 0] 38)) = V at HRF HB5 HM0 HM1 HM2 HM4 hz5 hM1
  have ho0 : OwnN kEnt 29 I (fun k => k = w.heap.size + 1 + 1 + 1 ∨ k = w.heap.size + 1 + 1 + 1 + 1) (w.heap.size + 5) w1 (.slice none 0 0) [] := by
    refine OwnN.nil _ _ (fun k hk => ⟨by have := hbd k hk; omega, by have := hbd k hk; omega⟩) (by have := hM1.size; omega) (fun k hk => by have := hM1.size; omega)
  have HO0 := Lib.hid ho0
  have HR1 := Lib.hid hR1
  have HD1 := Lib.hid (hM1.mono (S' := (fun k => k = w.heap.size + 1 + 1 + 1 ∨ k = w.heap.size + 1 + 1 + 1 + 1)) (fun k hk => .inl hk))
  have HS4 := Lib.hid (mod_blk hM1 HM4.out (by omega))
  have HE1 := Lib.hid (rS1.eq_1 P)
  have hn1 := rI_le15 P 1 false P.length
  generalize rRI P.length P 1 false = u at HR1 HE1 hn1 ⊢
  obtain ⟨n1, k1, b1⟩ := u
  dsimp only at HR1 HE1 hn1 ⊢
  clear ho0 hR1 hM1
  have HU := Lib.hid (fun W k bad (hW : Rfr I W (w.heap.size + 1 + 1 + 1) P k bad) => ref15_unone hW)
  go_upto_block 0 with (fail)
  go_cut [10] (fun _ W => ∃ (v : Value) (es : List Ent) (k : Nat) (bad : Bool), rEs n1 P k1 b1 = (es, k, bad) ∧ W.heap[w.heap.size + 1 + 1 + 1 + 1]? = some (.cells #[v, .slice none 0 0, .int .i64 0, .int .u64 0, .int .i64 0] 38 (0, 0)) ∧ OwnN kEnt 29 I (fun k => k = w.heap.size + 1 + 1 + 1 ∨ k = w.heap.size + 1 + 1 + 1 + 1) (w.heap.size + 5) W v es ∧ Rfr I W (w.heap.size + 1 + 1 + 1) P k bad ∧ Mod (fun k => k = w.heap.size + 1 + 1 + 1 ∨ k = w.heap.size + 1 + 1 + 1 + 1) V W)
  case rest =>
    obtain ⟨v1, es, k, bad, hes, hs4, ho, hR, hM⟩ := hcut
    have HS1 := Lib.hid (HE1.out.trans hes)
    have hel1 : es.length ≤ 3000 := by
      have := rEs_len n1 P k1 b1
      rw [hes] at this
      dsimp only at this
      omega
    have HRW := Lib.hid hR
    have he2 := rS2.eq_1 P
    rw [HS1.out] at he2
    have hn2 := rI_le15 P k bad P.length
    dsimp only at he2
    have HO1 := Lib.hid ho
    have HS4 := Lib.hid hs4
    have HMW := Lib.hid hM
    clear hes hs4 ho hR hM HE1
    go_wp2_with fail
    refine (HI.out _ _ _ HRW.out).mono ?_
    rintro e w2 ⟨rfl, hR2, hM2⟩
    generalize rRI P.length P k bad = u at he2 hn2 hR2 ⊢
    obtain ⟨n2, k2, b2⟩ := u
    dsimp only at he2 hn2 hR2 ⊢
    have HE2 := Lib.hid he2
    have HR2 := Lib.hid hR2
    have HS42 := Lib.hid (mod_blk hM2 HS4.out (by omega))
    have HO2 := Lib.hid (HO1.out.move hM2 (fun j hj => .inl (.inl hj)))
    have HM2' := Lib.hid (HMW.out.trans' hM2 (fun j hj => .inl (.inl hj)))
    have hz2 : w.heap.size + 5 ≤ w2.heap.size := by have := HM2'.out.size; omega
    clear he2 hR2 hM2 HO1 HS4 HMW HRW
    have HLD := Lib.hid (fun W k bad (hW : Rfr I W (w.heap.size + 1 + 1 + 1) P k bad) => ref05_Decode hW)
    go_upto_block 2 with (fail)
    go_cut [12] (fun _ W => ∃ (v : Value) (ls : List Lab) (k : Nat) (bad : Bool), rLs n2 P k2 b2 = (ls, k, bad) ∧ W.heap[w.heap.size + 1 + 1 + 1 + 1]? = some (.cells #[v1, v, .int .i64 0, .int .u64 0, .int .i64 0] 38 (0, 0)) ∧ OwnN kLab 26 (fun _ => False) (fun k => k = w.heap.size + 1 + 1 + 1 ∨ k = w.heap.size + 1 + 1 + 1 + 1) w2.heap.size W v ls ∧ Rfr I W (w.heap.size + 1 + 1 + 1) P k bad ∧ Mod (fun k => k = w.heap.size + 1 + 1 + 1 ∨ k = w.heap.size + 1 + 1 + 1 + 1) w2 W)
    case rest =>
      obtain ⟨v2, ls, k, bad, hls, hs4, ho, hR, hM⟩ := hcut
      have HS2 := Lib.hid (HE2.out.trans hls)
      have hel2 : ls.length ≤ 3000 := by
        have := rLs_len n2 P k2 b2
        rw [hls] at this
        dsimp only at this
        omega
      have HRW := Lib.hid hR
      have he3 := rS3.eq_1 P
      rw [HS2.out] at he3
      have hn3 := rI_le15 P k bad P.length
      dsimp only at he3
      have HL1 := Lib.hid ho
      have HS4 := Lib.hid hs4
      have HMW := Lib.hid hM
      clear hls hs4 ho hR hM HE2 HS42 HR2
      go_wp2_with fail
      refine (HI.out _ _ _ HRW.out).mono ?_
      rintro e w3 ⟨rfl, hR3, hM3⟩
      have he4 := rS4.eq_1 P
      rw [he3] at he4
      generalize rRI P.length P k bad = u at he3 he4 hn3 hR3 ⊢
      obtain ⟨nx, k4, b4⟩ := u
      dsimp only at he3 he4 hn3 hR3 ⊢
      have HE3 := Lib.hid he3
      have hs5 := mod_blk hM3 HS4.out (by omega)
      obtain ⟨_, _, c2, _, _⟩ := cells5 hs5
      have f2 := blk_free hs5 2
      have hsz3 := blk_lt hs5
      have HR3 := Lib.hid (hR3.far (a := ⟨w.heap.size + 1 + 1 + 1 + 1, 2, none⟩) (by dsimp only; omega) (fun hk => by have := hbd _ hk; dsimp only at this; omega) (.int .i64 (nx : Int)))
      have HL3 := Lib.hid ((HL1.out.move hM3 (fun j hj => .inl (.inl hj))).set (p := ⟨w.heap.size + 1 + 1 + 1 + 1, 2, none⟩) (.inr rfl) (.int .i64 (nx : Int)))
      have HM3 := Lib.hid ((HMW.out.trans' hM3 (fun j hj => .inl (.inl hj))).setCell (p := ⟨w.heap.size + 1 + 1 + 1 + 1, 2, none⟩) (.inl (.inr rfl)) (.int .i64 (nx : Int)))
      have HS5 := Lib.hid (show (w3.setCell ⟨w.heap.size + 1 + 1 + 1 + 1, 2, none⟩ (.int .i64 (nx : Int))).heap[w.heap.size + 1 + 1 + 1 + 1]? = _ by simpa using blk_set hs5 2 (.int .i64 (nx : Int)))
      clear he3 hR3 hM3 hs5 HL1 HMW HRW HS4
      go_wp2_with fail
      refine (ref04_Decode HR3.out).mono ?_
      rintro e w4 ⟨rfl, hR4, hM4⟩
      generalize hru : rV P k4 b4 = u at he4 hR4 ⊢
      have hvok : u.1.ok := hru ▸ rV_ok P k4 b4
      clear hru
      obtain ⟨⟨hn, hp⟩, k5, b5⟩ := u
      dsimp only at he4 hR4 hvok ⊢
      have HE4 := Lib.hid he4
      have hs6 := mod_blk hM4 HS5.out (by omega)
      obtain ⟨_, _, _, c3, c4⟩ := cells5 hs6
      have f3 := blk_free hs6 3
      have f4 := blk_free hs6 4
      have hR5 := (hR4.far (a := ⟨w.heap.size + 1 + 1 + 1 + 1, 3, none⟩) (by dsimp only; omega) (fun hk => by have := hbd _ hk; dsimp only at this; omega) (.int .u64 hn)).far (a := ⟨w.heap.size + 1 + 1 + 1 + 1, 4, none⟩) (by dsimp only; omega) (fun hk => by have := hbd _ hk; dsimp only at this; omega) (.int .i64 hp)
      have hL5 := ((HL3.out.move hM4 (fun j hj => .inl (.inl hj))).set (p := ⟨w.heap.size + 1 + 1 + 1 + 1, 3, none⟩) (.inr rfl) (.int .u64 hn)).set (p := ⟨w.heap.size + 1 + 1 + 1 + 1, 4, none⟩) (.inr rfl) (.int .i64 hp)
      have hM5 := ((HM3.out.trans' hM4 (fun j hj => .inl (.inl hj))).setCell (p := ⟨w.heap.size + 1 + 1 + 1 + 1, 3, none⟩) (.inl (.inr rfl)) (.int .u64 hn)).setCell (p := ⟨w.heap.size + 1 + 1 + 1 + 1, 4, none⟩) (.inl (.inr rfl)) (.int .i64 hp)
      have hS5 : ((w4.setCell ⟨w.heap.size + 1 + 1 + 1 + 1, 3, none⟩ (.int .u64 hn)).setCell ⟨w.heap.size + 1 + 1 + 1 + 1, 4, none⟩ (.int .i64 hp)).heap[w.heap.size + 1 + 1 + 1 + 1]? = _ := blk_set (blk_set hs6 3 (.int .u64 hn)) 4 (.int .i64 hp)
      simp at hS5
      have HR5 := Lib.hid hR5
      have HL5 := Lib.hid hL5
      have HM5 := Lib.hid hM5
      have HS6 := Lib.hid hS5
      clear he4 hR4 hM4 hs6 hR5 hL5 hM5 hS5 HL3 HM3 HS5
      go_wp2_with fail
      generalize ((w4.setCell ⟨w.heap.size + 1 + 1 + 1 + 1, 3, none⟩ (.int .u64 hn)).setCell ⟨w.heap.size + 1 + 1 + 1 + 1, 4, none⟩ (.int .i64 hp)) = V5 at HR5 HL5 HM5 HS6 ⊢
      clear c2 f2 c3 c4 f3 f4
      have hv1 := HO2.out.sv.step (HM5.out.agr (fun j hj => hj.elim (fun h1 h2 => by have := hbd _ h1; omega) (fun h1 => h1.2.2)))
      have hv2 := HL5.out.sv
      obtain ⟨A1, c1, rfl, hc1, hrow1⟩ := hv1
      obtain ⟨A2, c2, rfl, hc2, hrow2⟩ := hv2
      have HV1 := Lib.hid (hrow1.mono (J := fun k => I k ∨ w.heap.size + 5 ≤ k) (fun j hj => hj.imp id (fun hh => by omega)))
      have HV2 := Lib.hid (hrow2.mono (J := fun k => I k ∨ w.heap.size + 5 ≤ k) (fun j hj => .inr (hj.elim (fun h1 => h1.elim) (fun h1 => by omega))))
      have HMV := Lib.hid (HM2'.out.trans' HM5.out (fun j hj => .inl hj))
      have hsum : rSum P = ⟨es, ls, nx, ⟨hn, hp⟩⟩ := by unfold rSum; rw [HS1.out, HS2.out, HE3.out, HE4.out]
      have hat : rAt P = if b5 = true then -1 else (k5 : Int) := by unfold rAt; rw [HE4.out]
      obtain ⟨r1, _⟩ := HR5.out.cells
      have hatl : -1 ≤ rAt P ∧ rAt P ≤ 3000 := by
        have := HR5.out.2.2.1
        rw [hat]
        split <;> omega
      rw [← hat] at r1
      have HOK := Lib.hid hok
      have HSUM := Lib.hid hsum
      clear hrow1 hrow2 hat hok hsum HM2' HO2 HS1 HS2 HE3 HE4
      have hat2 : rAt P = P.length ∨ rAt P ≠ P.length := Decidable.em _
      have HAT := Lib.hid (show rOk P ↔ rAt P = P.length ∧ (rSum P).Right ∧ sEnc (rSum P) = P from Iff.rfl)
      rw [HSUM.out] at HAT
      generalize rAt P = at_ at r1 hatl hat2 HAT
      have hvo : (⟨es, ls, nx, ⟨hn, hp⟩⟩ : Sum).high.ok := hvok
      have HRT := Lib.hid (fun (W : World) (hb : Below V5.heap.size V5 W) (r : Bool) (hr : r = true ↔ (⟨es, ls, nx, ⟨hn, hp⟩⟩ : Sum).Right) => ref15_Right (s := ⟨es, ls, nx, ⟨hn, hp⟩⟩) (c1 := c1) (HV1.out.below hb) (HV2.out.below hb) hvo hc2 (by dsimp only; omega) r hr)
      have HAL := Lib.hid (fun (W : World) (hb : Below V5.heap.size V5 W) (hr : (⟨es, ls, nx, ⟨hn, hp⟩⟩ : Sum).Right) => ref15_All (s := ⟨es, ls, nx, ⟨hn, hp⟩⟩) (c1 := c1) (c2 := c2) (HV1.out.below hb) (HV2.out.below hb) hvo (by dsimp only; omega) (by dsimp only; omega) hr)
      have HRP := Lib.hid (HR.out.step ((Mod.of_below HB5.out).trans' HMV.out (S := fun j => w.heap.size ≤ j) (fun j hj => .inl (by omega)) |>.agr (I := I) (fun j hj => by have := hbd _ hj; omega)))
      obtain ⟨d0, d1, d2, d3, d4⟩ := cells5 HS6.out
      dsimp only at HRT HAL
      go_cut [126] (fun t W => t = .bool (!ok) ∧ Below V5.heap.size V5 W)
      case rest =>
        obtain ⟨rfl, hb⟩ := hcut
        have hmv := HMV.out.below hb
        obtain ⟨t0, t1, t2, t3, t4⟩ := cells5 (mod_blk hmv HM0.out (by omega))
        obtain ⟨x0, x1, x2, x3, x4⟩ := cells5 (mod_blk hmv HM1.out (by omega))
        obtain ⟨n0, n1, n2, n3, n4⟩ := cells5 (mod_blk hmv HM2.out (by omega))
        have f0 := blk_free (mod_blk hmv HM0.out (by omega)) 0
        have f1 := blk_free (mod_blk hmv HM0.out (by omega)) 1
        have f2 := blk_free (mod_blk hmv HM0.out (by omega)) 2
        have f3 := blk_free (mod_blk hmv HM0.out (by omega)) 3
        have f4 := blk_free (mod_blk hmv HM0.out (by omega)) 4
        have g0 := blk_free (mod_blk hmv HM1.out (by omega)) 0
        have g1 := blk_free (mod_blk hmv HM1.out (by omega)) 1
        have g2 := blk_free (mod_blk hmv HM1.out (by omega)) 2
        have g3 := blk_free (mod_blk hmv HM1.out (by omega)) 3
        have g4 := blk_free (mod_blk hmv HM1.out (by omega)) 4
        obtain ⟨d0, d1, d2, d3, d4⟩ := cells5 (below_blk hb HS6.out)
        have HB := Lib.hid hb
        have HMW := Lib.hid ((Mod.of_below (S := fun j => w.heap.size ≤ j) HB5.out).trans' hmv (fun j hj => .inl (by omega)))
        have hzc := hmv.size
        have nz : w.heap.size + 1 ≠ w.heap.size := by omega
        clear hb hmv r1
        cases ok
        · go_wp2_with fail
          go_region
          all_goals go_wp2
          all_goals
            refine bodyPost_ret (v := .tuple #[.int .u8 0, .agg #[.int .u64 0, .int .i64 0, .int .u64 0, .int .i64 0, .slice none 0 0], .agg #[.slice none 0 0, .slice none 0 0, .int .i64 0, .int .u64 0, .int .i64 0]]) (by simp [results, Try.results14, go_sem, t0, t1, t2, t3, t4, x0, x1, x2, x3, x4]) rfl ?_
            exact ⟨.slice none 0 0, .slice none 0 0, rfl, SV.nil _ _ _, SV.nil _ _ _, (ten5 HMW.out (Nat.le_refl _) (Nat.le_succ _)).drew.to_below' (fun _ hk => hk)⟩
        · go_wp2_with fail
          go_region
          all_goals go_wp2
          all_goals
            refine bodyPost_ret (v := .tuple #[.int .u8 2, .agg #[.int .u64 0, .int .i64 0, .int .u64 0, .int .i64 0, .slice none 0 0], .agg #[.slice A1 es.length c1, .slice A2 ls.length c2, .int .i64 nx, .int .u64 hn, .int .i64 hp]]) (by simp [results, Try.results14, go_sem, t0, t1, t2, t3, t4, x0, x1, x2, x3, x4]) rfl ?_
            simp only [if_true, HSUM.out]
            refine ⟨.slice A1 es.length c1, .slice A2 ls.length c2, rfl, ⟨A1, c1, rfl, hc1, ?_⟩, ⟨A2, c2, rfl, hc2, ?_⟩, (ten5 HMW.out (Nat.le_refl _) (Nat.le_succ _)).drew.to_below' (fun _ hk => hk)⟩
            · exact (((((HV1.out.below HB.out).step (agr5 (fun hk => hk.elim (fun hh => by have := hbd _ hh; omega) (fun hh => by omega)))).step (agr5 (fun hk => hk.elim (fun hh => by have := hbd _ hh; omega) (fun hh => by omega)))).below (Below.refl _ _).drew)).mono (fun j hj => hj.imp id (fun hh => by omega))
            · exact (((((HV2.out.below HB.out).step (agr5 (fun hk => hk.elim (fun hh => by have := hbd _ hh; omega) (fun hh => by omega)))).step (agr5 (fun hk => hk.elim (fun hh => by have := hbd _ hh; omega) (fun hh => by omega)))).below (Below.refl _ _).drew)).mono (fun j hj => hj.imp id (fun hh => by omega))
      case first =>
        rcases hat2 with rfl | hat2
        · have hab : ((P.length : Int) != (P.length : Int)) = false := by simp
          by_cases hri : (⟨es, ls, nx, ⟨hn, hp⟩⟩ : Sum).Right
          · have HRI := Lib.hid hri
            have hst := str_toList
            have HK : Hid (∀ W, Below V5.heap.size V5 W → (W.cell? ⟨w.heap.size + 1 + 1 + 1 + 1, 0, none⟩ = some (.slice A1 es.length c1) ∧ W.cell? ⟨w.heap.size + 1 + 1 + 1 + 1, 1, none⟩ = some (.slice A2 ls.length c2) ∧ W.cell? ⟨w.heap.size + 1 + 1 + 1 + 1, 2, none⟩ = some (.int .i64 (nx : Int)) ∧ W.cell? ⟨w.heap.size + 1 + 1 + 1 + 1, 3, none⟩ = some (.int .u64 hn) ∧ W.cell? ⟨w.heap.size + 1 + 1 + 1 + 1, 4, none⟩ = some (.int .i64 hp) ∧ W.cell? ⟨w.heap.size + 1 + 1 + 1, 1, none⟩ = some (.int .i64 (P.length : Int)) ∧
              (convert 27 9 (.slice (some ⟨b, o, none⟩) P.length c)).run Try.prog W = .ok (.string (str P)) W)) := Lib.hid (fun W hb => ⟨pw_cell hb d0, pw_cell hb d1, pw_cell hb d2, pw_cell hb d3, pw_cell hb d4, pw_cell hb r1, convert_str (HRP.out.below hb)⟩)
            have HOK2 := Lib.hid (show ok = decide (sEnc (⟨es, ls, nx, ⟨hn, hp⟩⟩ : Sum) = P) from by
              by_cases hh : sEnc (⟨es, ls, nx, ⟨hn, hp⟩⟩ : Sum) = P
              · rw [decide_eq_true hh]
                exact HOK.out.2 (HAT.out.2 ⟨rfl, hri, hh⟩)
              · rw [decide_eq_false hh]
                exact Bool.eq_false_iff.2 (fun h1 => hh (HAT.out.1 (HOK.out.1 h1)).2.2))
            clear hri
            generalize sEnc (⟨es, ls, nx, ⟨hn, hp⟩⟩ : Sum) = ee at HAL HOK2
            have hee : (ee == P) = true ∧ ee = P ∨ (ee == P) = false ∧ ee ≠ P := by
              by_cases hh : ee = P
              · exact .inl ⟨by simp [hh], hh⟩
              · exact .inr ⟨by simp [hh], hh⟩
            clear d0 d1 d2 d3 d4 r1 HOK HAT
            rcases hee with ⟨hb1, hb2⟩ | ⟨hb1, hb2⟩
            all_goals
              have HB2 := Lib.hid hb2
              clear hb2
              go_wp2_with fail
              go_region_held (fun W => W.cell? ⟨w.heap.size + 1 + 1 + 1 + 1, 0, none⟩ = some (.slice A1 es.length c1) ∧ W.cell? ⟨w.heap.size + 1 + 1 + 1 + 1, 1, none⟩ = some (.slice A2 ls.length c2) ∧ W.cell? ⟨w.heap.size + 1 + 1 + 1 + 1, 2, none⟩ = some (.int .i64 (nx : Int)) ∧ W.cell? ⟨w.heap.size + 1 + 1 + 1 + 1, 3, none⟩ = some (.int .u64 hn) ∧ W.cell? ⟨w.heap.size + 1 + 1 + 1 + 1, 4, none⟩ = some (.int .i64 hp) ∧ W.cell? ⟨w.heap.size + 1 + 1 + 1, 1, none⟩ = some (.int .i64 (P.length : Int)) ∧
              (convert 27 9 (.slice (some ⟨b, o, none⟩) P.length c)).run Try.prog W = .ok (.string (str P)) W)
                (first
                  | exact HK.out _ (Below.refl _ _).drew
                  | exact HK.out _ (Below.refl _ _)
                  | exact HK.out _ (Below.trans (Below.refl _ _).drew hb6)
                  | exact HK.out _ (Below.trans (Below.trans (Below.refl _ _).drew hb6) (hb7.mono hb6.size)))
                (first
                  | (go_simp
                     go_at_call 16
                     refine (HRT.out _ (Below.refl _ _).drew true (by simpa using HRI.out)).mono ?_
                     rintro e w6 ⟨rfl, hb6⟩)
                  | (go_simp
                     go_at_call 18
                     refine (HAL.out _ (Below.trans (Below.refl _ _).drew hb6) HRI.out).mono ?_
                     rintro e w7 ⟨v7, rfl, ho7, hb7⟩
                     obtain ⟨A7, c7, rfl, hc7, hr7⟩ := M.Own.sv ho7
                     have hq7 := convert_str (c := c7) hr7
                     clear ho7 hr7))
              all_goals go_wp2_with fail
              all_goals go_meet
              all_goals exact ⟨by rw [HOK2.out]; simp [HB2.out], Below.trans (Below.trans (Below.refl _ _).drew hb6) (hb7.mono hb6.size)⟩
          · have HNO := Lib.hid (show ok = false from Bool.eq_false_iff.2 (fun hh => hri (HAT.out.1 (HOK.out.1 hh)).2.1))
            have HRN := Lib.hid (fun d os => Calls.regrown_of (HRT.out (grow (redrawn V5 d) os) (below_regrown V5 d os) false (by simpa using hri)))
            have r1' := fun d os => cell_regrown r1 d os
            have d0' := fun d os => cell_regrown d0 d os
            have d1' := fun d os => cell_regrown d1 d os
            have d2' := fun d os => cell_regrown d2 d os
            have d3' := fun d os => cell_regrown d3 d os
            have d4' := fun d os => cell_regrown d4 d os
            have HG := Lib.hid (fun d os => below_regrown V5 d os)
            clear hri
            go_wp2_with fail
            refine wp_region_quiet_below (by kernel_rfl) (by kernel_rfl) ?_
            repeat (first | go_big_quiet_step (first | (go_at_call 16; exact HRN.out _ _)) | quiet_step (first | (go_at_call 16; exact HRN.out _ _)))
            refine wpQuiet_nil ?_
            intro _ hw'
            obtain ⟨⟨dq, osq⟩, hw''⟩ := hw'
            subst hw''
            dsimp only
            go_wp2_with fail
            go_meet
            exact ⟨by rw [HNO.out]; rfl, HG.out _ _⟩
        · have hab : (at_ != (P.length : Int)) = true := by simp [hat2]
          have HNO := Lib.hid (show ok = false from Bool.eq_false_iff.2 (fun hh => hat2 (HAT.out.1 (HOK.out.1 hh)).1))
          clear hat2
          go_wp2_with fail
          go_quiet (fail)
          go_wp2_with fail
          go_meet
          exact ⟨by rw [HNO.out]; rfl, below_drewN (Below.refl _ _) _⟩
    case first =>
      go_wp2_with fail
      go_loopw [12] (fun t W => ∃ (i : Nat) (v : Value) (es : List Lab) (k : Nat) (bad : Bool), t = .int .i64 i ∧ LsAt n2 P k2 b2 i es k bad ∧ W.heap[w.heap.size + 1 + 1 + 1 + 1]? = some (.cells #[v1, v, .int .i64 0, .int .u64 0, .int .i64 0] 38 (0, 0)) ∧ OwnN kLab 26 (fun _ => False) (fun k => k = w.heap.size + 1 + 1 + 1 ∨ k = w.heap.size + 1 + 1 + 1 + 1) w2.heap.size W v es ∧ Rfr I W (w.heap.size + 1 + 1 + 1) P k bad ∧ Mod (fun k => k = w.heap.size + 1 + 1 + 1 ∨ k = w.heap.size + 1 + 1 + 1 + 1) w2 W) (fun t _ => (n2 - intOf t).toNat)
      case atStart => exact ⟨0, _, [], k2, b2, rfl, LsAt.start _ _ _ _, HS42.out, OwnN.nil _ _ (fun _ hk => hk.elim) (Nat.le_refl _) (fun k hk => by omega), HR2.out, Mod.refl _ _⟩
      case round =>
        clear HS42 HR2
        obtain ⟨i, v, es, k, bad, rfl, hes, hs4, ho, hR, hM⟩ := hrel
        have HES := Lib.hid hes
        have hi := hes.1
        have hel := hes.2.1
        have HS4 := Lib.hid hs4
        have HO := Lib.hid ho
        have HRW := Lib.hid hR
        have HMW := Lib.hid hM
        obtain ⟨r1, q1⟩ := hR.cells
        obtain ⟨_, c0, _, _, _⟩ := cells5 hs4
        clear hes hs4 ho hR hM
        by_cases hgo : i < n2 ∧ bad = false
        · obtain ⟨hlt, rfl⟩ := hgo
          have hlt' : (i : Int) < n2 := by omega
          simp only [Bool.false_eq_true, if_false] at r1
          have HES2 := Lib.hid (HES.out.next hlt)
          have HU2 := Lib.hid (HLD.out _ _ _ (HRW.out.step (Below.refl _ _).drew))
          have hxok : (rL P k false).1.ok := rL_ok P k false
          generalize rL P k false = x at HES2 HU2 hxok
          obtain ⟨⟨xn, xp, xs, xq⟩, k', bad'⟩ := x
          dsimp only at HES2 HU2 hxok
          go_wp2_with fail
          have hz4 := blk_lt HS4.out
          go_region_law
            (first
              | (refine step_one (d := kLab) (xs := es) (y := ⟨xn, xp, xs, xq⟩) (by rfl) _ _ 36 26 (.agg #[.int .u64 0, .int .i64 0, .int .u64 0, .int .i64 0]) 32 (by rfl) Try.underlying36 infoLab rfl (by rfl) ho2 #[.int .u64 xn, .int .i64 xp, .int .u64 xs, .int .i64 xq] 26 ⟨rfl, hxok⟩ (by rfl) (by omega) (by omega) ?_
                 intro v4 w4 ho4 hg4
                 obtain ⟨A4, cc4, rfl, hcc4⟩ := ho4.shape
                 have hs5 := mod_blk hg4.mod hs3 (fun e => by have := (ho2.lt _ e).1; omega)
                 have c4 := (cells5 hs5).2.1
                 have f4 := blk_free hs5 1)
              | (go_simp
                 go_at_call 42
                 refine HU2.out.mono ?_
                 rintro e w3 ⟨rfl, hR3, hM3⟩
                 have hs3 := mod_blk hM3 (w := wr.drew) HS4.out (by omega)
                 have ho2 := HO.out.move (S := fun k => k = w.heap.size + 1 + 1 + 1) ((Mod.refl _ wr).drew.trans hM3) (fun k hk => .inl (.inl hk))
                 have c02 := mod_cell hM3 (by dsimp only; omega) c0
                 have c03 := fun o => (keepA (o := o) (World.block_lt_of_cell? w3 _ c02)).trans c02))
          all_goals
            go_wp2
            have hl4 : (es ++ [(⟨xn, xp, xs, xq⟩ : Lab)]).length = i + 1 := by simp; omega
            rw [hl4] at ho4 hg4
            have hmod := ((HMW.out.drew.trans' hM3 (fun j hj => .inl (.inl hj))).trans' hg4.mod (fun j hj => .inr (ho2.lt _ hj).1)).setCell (p := ⟨w.heap.size + 1 + 1 + 1 + 1, 1, none⟩) (.inl (.inr rfl)) (.slice A4 (i + 1) cc4)
            have hrd := (hR3.move hg4.mod (fun e => by have := (ho2.lt _ e).1; omega) (fun j hj e => by have := (ho2.lt _ e).1; have := hbd _ hj; omega)).far (a := ⟨w.heap.size + 1 + 1 + 1 + 1, 1, none⟩) (by dsimp only; omega) (fun hk => by have := hbd _ hk; dsimp only at this; omega) (.slice A4 (i + 1) cc4)
            go_roundw
            case rel => exact ⟨i + 1, .slice A4 (i + 1) cc4, _, k', bad', by go_num, HES2.out, by simpa using blk_set hs5 1 (.slice A4 (i + 1) cc4), ho4.set (p := ⟨w.heap.size + 1 + 1 + 1 + 1, 1, none⟩) (.inr rfl) _, hrd, hmod⟩
            case measure => simp [intOf]; omega
        · have hdn := HES.out.done (by by_cases h1 : n2 ≤ i; exact .inl h1; exact .inr (by cases bad; exact absurd ⟨by omega, rfl⟩ hgo; rfl))
          have HDN := Lib.hid hdn
          clear hdn
          by_cases hlt : i < n2
          · obtain rfl : bad = true := by cases bad; exact absurd ⟨hlt, rfl⟩ hgo; rfl
            have hlt' : (i : Int) < n2 := by omega
            simp only [if_true] at r1
            clear hgo
            go_wp2_with fail
            go_meet
            exact ⟨v, es, k, true, HDN.out, HS4.out, HO.out, HRW.out, HMW.out⟩
          · have hlt' : ¬ (i : Int) < n2 := by omega
            clear hgo
            go_wp2_with fail
            go_meet
            exact ⟨v, es, k, bad, HDN.out, HS4.out, HO.out, HRW.out, HMW.out⟩
  case first =>
  go_wp2_with fail
  go_loopw [10] (fun t W => ∃ (i : Nat) (v : Value) (es : List Ent) (k : Nat) (bad : Bool), t = .int .i64 i ∧ EsAt n1 P k1 b1 i es k bad ∧ W.heap[w.heap.size + 1 + 1 + 1 + 1]? = some (.cells #[v, .slice none 0 0, .int .i64 0, .int .u64 0, .int .i64 0] 38 (0, 0)) ∧ OwnN kEnt 29 I (fun k => k = w.heap.size + 1 + 1 + 1 ∨ k = w.heap.size + 1 + 1 + 1 + 1) (w.heap.size + 5) W v es ∧ Rfr I W (w.heap.size + 1 + 1 + 1) P k bad ∧ Mod (fun k => k = w.heap.size + 1 + 1 + 1 ∨ k = w.heap.size + 1 + 1 + 1 + 1) V W) (fun t _ => (n1 - intOf t).toNat)
  case atStart => exact ⟨0, _, [], k1, b1, rfl, EsAt.start _ _ _ _, HS4.out, HO0.out, HR1.out, HD1.out⟩
  case round =>
    clear HO0 HR1 HD1 HS4
    obtain ⟨i, v, es, k, bad, rfl, hes, hs4, ho, hR, hM⟩ := hrel
    have HES := Lib.hid hes
    have hi := hes.1
    have hel := hes.2.1
    have HS4 := Lib.hid hs4
    have HO := Lib.hid ho
    have HRW := Lib.hid hR
    have HMW := Lib.hid hM
    obtain ⟨r1, q1⟩ := hR.cells
    obtain ⟨c0, _, _, _, _⟩ := cells5 hs4
    clear hes hs4 ho hR hM
    by_cases hgo : i < n1 ∧ bad = false
    · obtain ⟨hlt, rfl⟩ := hgo
      have hlt' : (i : Int) < n1 := by omega
      simp only [Bool.false_eq_true, if_false] at r1
      have HES2 := Lib.hid (HES.out.next hlt)
      have HU2 := Lib.hid (HU.out _ _ _ (HRW.out.step (Below.refl _ _).drew))
      have hxok : (rE P k false).1.l.ok := rE_ok P k false
      generalize rE P k false = x at HES2 HU2 hxok
      obtain ⟨⟨⟨xn, xp, xs, xq⟩, xm⟩, k', bad'⟩ := x
      dsimp only at HES2 HU2 hxok
      go_wp2_with fail
      have hz4 := blk_lt HS4.out
      go_region_law
        (first
          | (refine step_one (d := kEnt) (xs := es) (y := ⟨⟨xn, xp, xs, xq⟩, xm⟩) (by rfl) _ _ 35 29 (.agg #[.int .u64 0, .int .i64 0, .int .u64 0, .int .i64 0, .slice none 0 0]) 56 (by rfl) Try.underlying35 infoEnt rfl (by rfl) ho2 #[.int .u64 xn, .int .i64 xp, .int .u64 xs, .int .i64 xq, .slice A' xm.length c'] 29 ⟨.slice A' xm.length c', rfl, hxok, ⟨A', c', rfl, hc', hrow.mono (fun k hk => .inl hk)⟩⟩ (by rfl) (by omega) (by omega) ?_
             intro v4 w4 ho4 hg4
             obtain ⟨A4, cc4, rfl, hcc4⟩ := ho4.shape
             have hs5 := mod_blk hg4.mod hs3 (fun e => by have := (ho2.lt _ e).1; omega)
             have c4 := (cells5 hs5).1
             have f4 := blk_free hs5 0)
          | (go_simp
             go_at_call 40
             refine HU2.out.mono ?_
             rintro e w2 ⟨xv, rfl, hxv, hR2, hM2⟩
             obtain ⟨A', c', rfl, hc', hrow⟩ := hxv
             have hs3 := mod_blk hM2 (w := wr.drew) HS4.out (by omega)
             have ho2 := HO.out.move (S := fun k => k = w.heap.size + 1 + 1 + 1) ((Mod.refl _ wr).drew.trans hM2) (fun k hk => .inl (.inl hk))
             have c02 := mod_cell hM2 (by dsimp only; omega) c0
             have c03 := fun o => (keepA (o := o) (World.block_lt_of_cell? w2 _ c02)).trans c02))
      all_goals
        go_wp2
        have hl4 : (es ++ [(⟨⟨xn, xp, xs, xq⟩, xm⟩ : Ent)]).length = i + 1 := by simp; omega
        rw [hl4] at ho4 hg4
        have hmod := ((HMW.out.drew.trans' hM2 (fun j hj => .inl (.inl hj))).trans' hg4.mod (fun j hj => .inr (by have := (ho2.lt _ hj).1; omega))).setCell (p := ⟨w.heap.size + 1 + 1 + 1 + 1, 0, none⟩) (.inl (.inr rfl)) (.slice A4 (i + 1) cc4)
        have hrd := (hR2.move hg4.mod (fun e => by have := (ho2.lt _ e).1; omega) (fun j hj e => by have := (ho2.lt _ e).1; have := hbd _ hj; omega)).far (a := ⟨w.heap.size + 1 + 1 + 1 + 1, 0, none⟩) (by dsimp only; omega) (fun hk => by have := hbd _ hk; dsimp only at this; omega) (.slice A4 (i + 1) cc4)
        go_roundw
        case rel => exact ⟨i + 1, .slice A4 (i + 1) cc4, _, k', bad', by go_num, HES2.out, by simpa using blk_set hs5 0 (.slice A4 (i + 1) cc4), ho4.set (p := ⟨w.heap.size + 1 + 1 + 1 + 1, 0, none⟩) (.inr rfl) _, hrd, hmod⟩
        case measure => simp [intOf]; omega
    · have hdn := HES.out.done (by by_cases h1 : n1 ≤ i; exact .inl h1; exact .inr (by cases bad; exact absurd ⟨by omega, rfl⟩ hgo; rfl))
      have HDN := Lib.hid hdn
      clear hdn
      by_cases hlt : i < n1
      · obtain rfl : bad = true := by cases bad; exact absurd ⟨hlt, rfl⟩ hgo; rfl
        have hlt' : (i : Int) < n1 := by omega
        simp only [if_true] at r1
        clear hgo
        go_wp2_with fail
        go_meet
        exact ⟨v, es, k, true, HDN.out, HS4.out, HO.out, HRW.out, HMW.out⟩
      · have hlt' : ¬ (i : Int) < n1 := by omega
        clear hgo
        go_wp2_with fail
        go_meet
        exact ⟨v, es, k, bad, HDN.out, HS4.out, HO.out, HRW.out, HMW.out⟩
end Go.Proofs.Ytdgdiikijjlnnaa
