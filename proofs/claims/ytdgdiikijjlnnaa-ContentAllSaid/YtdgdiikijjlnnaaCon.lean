/- Entries (package content): their form, how one is written. -/
import Derived.Test.YtdgdiikijjlnnaaEnc
namespace Go.Proofs.Ytdgdiikijjlnnaa
open Go.RowKit M
namespace M
def Ent.form (x : Ent) : Bool := decide (x.l.form = true ∧ x.m.length ≤ 64)
/-- An entry as bytes. -/
def eEnc (x : Ent) : List UInt8 := lEnc x.l ++ uEnc x.m.length ++ x.m
end M
theorem pw_cell {w w1 : World} (h : Below w.heap.size w w1) {a : Addr} {v : Value} (hc : w.cell? a = some v) : w1.cell? a = some v := (h.cell (World.block_lt_of_cell? w a hc)).trans hc
theorem cells2 {w : World} {b t : Nat} {fr : Nat × Nat} {v0 v1 : Value} (h : w.heap[b]? = some (.cells #[v0, v1] t fr)) : w.cell? ⟨b, 0, none⟩ = some v0 ∧ w.cell? ⟨b, 1, none⟩ = some v1 := ⟨blk_cell h 0, blk_cell h 1⟩
theorem cells4 {w : World} {b t : Nat} {fr : Nat × Nat} {v0 v1 v2 v3 : Value} (h : w.heap[b]? = some (.cells #[v0, v1, v2, v3] t fr)) : w.cell? ⟨b, 0, none⟩ = some v0 ∧ w.cell? ⟨b, 1, none⟩ = some v1 ∧ w.cell? ⟨b, 2, none⟩ = some v2 ∧ w.cell? ⟨b, 3, none⟩ = some v3 := ⟨blk_cell h 0, blk_cell h 1, blk_cell h 2, blk_cell h 3⟩
theorem cells5 {w : World} {b t : Nat} {fr : Nat × Nat} {v0 v1 v2 v3 v4 : Value} (h : w.heap[b]? = some (.cells #[v0, v1, v2, v3, v4] t fr)) : w.cell? ⟨b, 0, none⟩ = some v0 ∧ w.cell? ⟨b, 1, none⟩ = some v1 ∧ w.cell? ⟨b, 2, none⟩ = some v2 ∧ w.cell? ⟨b, 3, none⟩ = some v3 ∧ w.cell? ⟨b, 4, none⟩ = some v4 := ⟨blk_cell h 0, blk_cell h 1, blk_cell h 2, blk_cell h 3, blk_cell h 4⟩
theorem own_lit1 (w : World) (base : Nat) (hb : base ≤ w.heap.size) (b : UInt8) (z : Int) (hz : z = b.toNat) : OwnB (w.alloc (.cells #[.int .u8 z] 5)) base (.slice (some ⟨w.heap.size, 0, none⟩) 1 1) [b] := by
  subst hz
  refine ⟨fun _ _ hk => hk, [.int .u8 b.toNat], ?_, Reps.single rfl⟩
  exact World.ownsRow_lit w #[.int .u8 b.toNat] 1 hb (by decide) (by rfl)
theorem below_alloc1 (w : World) (o : Obj) : Below w.heap.size w (w.alloc o) := (Below.refl _ _).alloc (Nat.le_refl _) o
set_option maxHeartbeats 1000000 in
theorem content_Form {A : Option Addr} {c : Nat} (x : Ent) (w : World) :
    Calls Try.prog 8 #[.agg #[.int .u64 x.l.n, .int .i64 x.l.p, .int .u64 x.l.s, .int .i64 x.l.q, .slice A x.m.length c]] w fun e w' => e = .returned (.bool x.form) ∧ Below w.heap.size w w' := by
  have HV := Lib.hid (label_Form x.l)
  have hf := Ent.form.eq_1 x
  have HF := Lib.hid hf
  clear hf
  obtain ⟨l, m⟩ := x
  dsimp only at HV HF ⊢
  generalize l.form = f at HV HF
  generalize m.length = k at HF
  cases f
  all_goals
    go_enter Try.func8, Try.ntmps8
    go_wp2_with fail
    refine (HV.out _).mono ?_
    rintro e w1 ⟨rfl, hb⟩
    have hm := below_blk hb (heap_alloc_new w (.cells #[.int .u64 l.n, .int .i64 l.p, .int .u64 l.s, .int .i64 l.q, .slice A k c] 29))
    obtain ⟨c0, c1, c2, c3, c4⟩ := cells5 hm
    have HB := Lib.hid ((below_alloc1 w _).trans (hb.mono (by simp)))
    clear hm hb
    go_wp2
    all_goals
      go_ret
      rw [HF.out]
      refine ⟨ret_bool ?_, HB.out⟩
      rw [Bool.eq_iff_iff]
      simp
      try omega
set_option maxRecDepth 100000 in
set_option maxHeartbeats 2000000 in
theorem content_EncodeOne_no {A : Option Addr} {c : Nat} (x : Ent) (w : World) (hf : x.form = false) :
    Calls Try.prog 10 #[.agg #[.int .u64 x.l.n, .int .i64 x.l.p, .int .u64 x.l.s, .int .i64 x.l.q, .slice A x.m.length c]] w fun e w' => e = .returned (.tuple #[.slice none 0 0, .int .i64 3]) ∧ Below w.heap.size w w' := by
  have HV := Lib.hid (fun W => content_Form (A := A) (c := c) x W)
  rw [hf] at HV
  obtain ⟨l, m⟩ := x
  dsimp only at HV ⊢
  clear hf
  go_enter Try.func10, Try.ntmps10
  go_wp2_with fail
  refine (HV.out _).mono ?_
  rintro e w1 ⟨rfl, hb⟩
  have HB := Lib.hid ((below_alloc1 w _).trans (hb.mono (by simp)))
  clear hb
  go_wp2
  go_ret2
  exact ⟨rfl, HB.out⟩
set_option maxRecDepth 100000 in
set_option maxHeartbeats 2000000 in
theorem content_EncodeOne {I : Nat → Prop} {A : Option Addr} {c : Nat} (x : Ent) (w : World) (hx : x.l.ok) (hr : Row kByte I w A x.m) (hc : x.m.length ≤ c) (hf : x.form = true) :
    Calls Try.prog 10 #[.agg #[.int .u64 x.l.n, .int .i64 x.l.p, .int .u64 x.l.s, .int .i64 x.l.q, .slice A x.m.length c]] w fun e w' => ∃ v, e = .returned (.tuple #[v, .int .i64 0]) ∧ OwnB w' w.heap.size v (1 :: eEnc x) ∧ Below w.heap.size w w' := by
  have hf' : x.l.form = true ∧ x.m.length ≤ 64 := by simpa [Ent.form] using hf
  have HV := Lib.hid (fun W => content_Form (A := A) (c := c) x W)
  rw [hf] at HV
  have HL := Lib.hid (fun (W : World) v (hW : OwnB W w.heap.size v [1]) (hs : w.heap.size ≤ W.heap.size) => label_Encode hW hs (by simp) hx hf'.1)
  have h64 := hf'.2
  have HR := Lib.hid hr.bound
  have hlen : (lEnc x.l).length ≤ 22 := by
    have h1 := uEnc_len10 (n := x.l.n.toNat) (by have := hx.2.1; omega)
    have h2 := uEnc_len10 (n := x.l.s.toNat) (by have := hx.2.2.2.2.2.1; omega)
    simp [lEnc, vEnc, Lab.vid]
    omega
  have HX := Lib.hid (eEnc.eq_1 x)
  obtain ⟨l, m⟩ := x
  dsimp only at HV HL HR HX h64 hlen hc ⊢
  clear hf hf' hx hr
  go_enter Try.func10, Try.ntmps10
  go_wp2_with fail
  refine (HV.out _).mono ?_
  rintro e w1 ⟨rfl, hb⟩
  have hm := below_blk hb (heap_alloc_new w (.cells #[.int .u64 l.n, .int .i64 l.p, .int .u64 l.s, .int .i64 l.q, .slice A m.length c] 29))
  have HB1 := Lib.hid ((below_alloc1 w _).trans (hb.mono (by simp)))
  have hz1 := HB1.out.size
  have hm1 := alloc_blk hm (.cells #[.int .u8 1] 5)
  have hz0 := blk_lt hm
  obtain ⟨c0, c1, c2, c3, c4⟩ := cells5 hm
  have HM1 := Lib.hid hm1
  clear hm hm1 hb
  go_wp2_with fail
  refine (HL.out _ _ (own_lit1 w1 w.heap.size hz1 1 1 rfl) (by simp; omega)).mono ?_
  rintro e w2 ⟨v2, rfl, ho2, hg2⟩
  have hm2 := mod_blk hg2.mod HM1.out (by simp [Value.ownBlock]; omega)
  obtain ⟨d0, d1, d2, d3, d4⟩ := cells5 hm2
  have HB2 := Lib.hid ((HB1.out.trans ((below_alloc1 w1 (.cells #[.int .u8 1] 5)).mono hz1)).trans (hg2.base (base := w.heap.size) (by simp; omega) (fun k hk => by simp [Value.ownBlock] at hk; omega)))
  have hz2 := HB2.out.size
  have HO2 := Lib.hid ho2
  have HR2 := Lib.hid (HR.out.step (Agr.of_below HB2.out _))
  clear c0 c1 c2 c3 c4 hm2 hg2 ho2
  go_wp2_with fail
  refine (code_Bytes HO2.out hz2 (by simp; omega) HR2.out hc (fun k hk e => by have := (HO2.out.lt _ e).1; have := hk.2; omega) (by omega)).mono ?_
  rintro e w3 ⟨v3, rfl, ho3, hg3⟩
  have HO3 := Lib.hid ho3
  have HB3 := Lib.hid (HB2.out.trans (hg3.base hz2 (fun k hk => (HO2.out.lt k hk).1)))
  clear ho3 hg3
  go_wp2
  go_ret2
  refine ⟨_, rfl, ?_, HB3.out⟩
  have := HO3.out
  rw [HX.out]
  simpa using this
