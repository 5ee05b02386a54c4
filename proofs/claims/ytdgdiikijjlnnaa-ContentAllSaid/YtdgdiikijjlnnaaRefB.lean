/- The references: how right things are written. -/
import Derived.Test.YtdgdiikijjlnnaaRefA
import Derived.Test.YtdgdiikijjlnnaaDec1
namespace Go.Proofs.Ytdgdiikijjlnnaa
open Go.RowKit M
theorem M.Own.own {w : World} {base : Nat} {v : Value} {l : List UInt8} (h : OwnB w base v l) : SV kByte (fun k => base ≤ k) w v l := h.sv' (fun _ hk => hk.elim) (fun _ hk => hk)
theorem M.Own.lower {w : World} {b0 base : Nat} {v : Value} {l : List UInt8} (h : OwnB w base v l) (hb : b0 ≤ base) : OwnB w b0 v l := by
  obtain ⟨h0, inner, ho, hr⟩ := h
  refine ⟨h0, inner, ⟨ho.1, ?_⟩, hr⟩
  rcases ho.2 with ho | ⟨g, cap, cur, rfl, hbg, rest⟩
  · exact .inl ho
  · exact .inr ⟨g, cap, cur, rfl, Nat.le_trans hb hbg, rest⟩
theorem M.Own.away {w w1 : World} {base : Nat} {v : Value} {l : List UInt8} (h : OwnB w base v l) (hb : Below w.heap.size w w1) (k : Nat) (hk : w.heap.size ≤ k) : v.ownBlock ≠ some k := fun e => by have := (h.lt k e).2; omega
theorem vEnc_len {v : Vid} (h : v.ok) : (vEnc v).length ≤ 11 := by
  have := uEnc_len10 (n := v.n.toNat) (by have := h.2.1; omega)
  simp [vEnc]
  omega
theorem lEnc_len {x : Lab} (h : x.ok) : (lEnc x).length ≤ 22 := by
  have h1 := vEnc_len (v := x.vid) ⟨h.1, h.2.1, h.2.2.1, h.2.2.2.1⟩
  have h2 := uEnc_len10 (n := x.s.toNat) (by have := h.2.2.2.2.2.1; omega)
  simp [lEnc]
  omega
set_option maxRecDepth 100000 in
set_option maxHeartbeats 2000000 in
theorem ref02_Bytes {J : Nat → Prop} {A : Option Addr} {c : Nat} {bs : List UInt8} {w : World} (hr : Row kByte J w A bs) (hbs : bs.length ≤ 1000000000000) :
    Calls Try.prog 67 #[.slice A bs.length c] w fun e w' => ∃ v, e = .returned v ∧ OwnB w' w.heap.size v (uEnc bs.length ++ bs) ∧ Below w.heap.size w w' := by
  have HR := Lib.hid hr.bound
  have HU := Lib.hid (fun W => ref02_Uint (n := bs.length) (w := W) (by omega))
  have h10 := uEnc_len10 (n := bs.length) (by omega)
  have H10 := Lib.hid h10
  clear hr h10
  go_enter Try.func67, Try.ntmps67
  go_wp2_with fail
  refine (HU.out _).mono ?_
  rintro e w1 ⟨v1, rfl, ho1, hb1⟩
  have HO1 := Lib.hid ho1
  have HB1 := Lib.hid hb1
  have HR1 := Lib.hid (HR.out.below hb1)
  clear ho1 hb1
  go_wp2_with (at_builtin; refine wpList_append_Own (d := kByte) (I := fun _ => False) (J := fun k => J k ∧ k < w.heap.size) (xs := uEnc bs.length) (ys := bs) rfl w.heap.size _ _ 27 5 (.int .u8 0) 1 rfl Try.underlying27 infoByte rfl (by decide) v1 rfl HO1.out A c rfl HR1.out (fun _ _ hk => hk) ?_ ?_ HB1.out.size (fun _ _ hk => hk) ?_; (have := H10.out; simp; omega); (have := H10.out; simp; omega); intro v2 w2 ho2 hg2)
  go_ret
  exact ⟨_, rfl, ho2, HB1.out.trans (hg2.base HB1.out.size (fun k hk => (HO1.out.lt k hk).1))⟩
set_option maxRecDepth 100000 in
set_option maxHeartbeats 2000000 in
theorem ref04_Encode {i : Vid} {w : World} (hi : i.ok) (hf : i.form = true) :
    Calls Try.prog 55 #[.agg #[.int .u64 i.n, .int .i64 i.p]] w fun e w' => ∃ v, e = .returned v ∧ OwnB w' w.heap.size v (vEnc i) ∧ Below w.heap.size w w' := by
  obtain ⟨hn0, hn1, _, _⟩ := hi
  have hf' : 0 ≤ i.p ∧ i.p < 16 ∧ (0 < i.n ∨ i.p = 0) := by simpa [Vid.form] using hf
  obtain ⟨hp0, hp1, _⟩ := hf'
  obtain ⟨n, p⟩ := i
  obtain ⟨n, rfl⟩ := Int.eq_ofNat_of_zero_le hn0
  obtain ⟨p, rfl⟩ := Int.eq_ofNat_of_zero_le hp0
  have HU := Lib.hid (fun W => ref02_Uint (n := n) (w := W) (by dsimp only at hn1; omega))
  have h10 := uEnc_len10 (n := n) (by dsimp only at hn1; omega)
  have HE := Lib.hid (show uEnc n ++ [UInt8.ofNat p] = vEnc ⟨n, p⟩ by simp [vEnc])
  dsimp only at *
  clear hf
  go_enter Try.func55, Try.ntmps55
  go_wp2_with fail
  refine (HU.out _).mono ?_
  rintro e w1 ⟨v1, rfl, ho1, hb1⟩
  have hm1 := below_blk hb1 (heap_alloc_new w (.cells #[.int .u64 n, .int .i64 p] 24))
  have hB1 := (below_alloc1 w (.cells #[.int .u64 n, .int .i64 p] 24)).trans (hb1.mono (by simp))
  obtain ⟨c0, c1⟩ := cells2 hm1
  have hs1 := hB1.size
  have HO1 := Lib.hid (Own.lower (b0 := w.heap.size) ho1 (by simp))
  have HB1 := Lib.hid hB1
  clear ho1 hm1 hb1 hB1
  go_wp2_with (at_builtin; refine arm_byte rfl w.heap.size _ _ rfl v1 rfl HO1.out _ (UInt8.ofNat p) ?hz rfl ?hl HB1.out.size (Grew.refl v1 w1) ?_; (case hz => rw [u8_nat (by omega)]; all_goals (try simp only [IntKind.wrap_u8]); all_goals omega); (case hl => omega); intro v' w' ho2 hg2 _)
  go_ret
  exact ⟨_, rfl, HE.out ▸ ho2, HB1.out.trans (hg2.base HB1.out.size (fun k hk => (HO1.out.lt k hk).1))⟩
set_option maxRecDepth 100000 in
set_option maxHeartbeats 2000000 in
theorem ref05_Encode {x : Lab} {w : World} (hx : x.ok) (hf : x.form = true) :
    Calls Try.prog 54 #[.agg #[.int .u64 x.n, .int .i64 x.p, .int .u64 x.s, .int .i64 x.q]] w fun e w' => ∃ v, e = .returned v ∧ OwnB w' w.heap.size v (lEnc x) ∧ Below w.heap.size w w' := by
  obtain ⟨hn0, hn1, hp0, hp1, hs0, hs1, hq0, hq1⟩ := hx
  have hf' : x.vid.form = true ∧ 0 < x.n ∧ 0 < x.s ∧ 0 ≤ x.q ∧ x.q < 16 := by simpa [Lab.form] using hf
  obtain ⟨hvf, _, _, hq2, hq3⟩ := hf'
  have HV := Lib.hid (fun W => ref04_Encode (i := x.vid) (w := W) ⟨hn0, hn1, hp0, hp1⟩ hvf)
  have hvl := vEnc_len (v := x.vid) ⟨hn0, hn1, hp0, hp1⟩
  obtain ⟨n, p, s, q⟩ := x
  obtain ⟨s, rfl⟩ := Int.eq_ofNat_of_zero_le hs0
  obtain ⟨q, rfl⟩ := Int.eq_ofNat_of_zero_le hq2
  dsimp only [Lab.vid] at *
  have HU := Lib.hid (fun W => ref02_Uint (n := s) (w := W) (by omega))
  have h10 := uEnc_len10 (n := s) (by omega)
  have HE := Lib.hid (show vEnc ⟨n, p⟩ ++ uEnc s ++ [UInt8.ofNat q] = lEnc ⟨n, p, s, q⟩ by simp [lEnc, Lab.vid])
  clear hf hvf
  go_enter Try.func54, Try.ntmps54
  go_wp2_with fail
  refine (HV.out _).mono ?_
  rintro e w1 ⟨v1, rfl, ho1, hb1⟩
  have hm1 := below_blk hb1 (heap_alloc_new w (.cells #[.int .u64 n, .int .i64 p, .int .u64 s, .int .i64 q] 26))
  have hB1 := (below_alloc1 w (.cells #[.int .u64 n, .int .i64 p, .int .u64 s, .int .i64 q] 26)).trans (hb1.mono (by simp))
  have c2 := (cells4 hm1).2.2.1
  have hs1 := hB1.size
  have HO1 := Lib.hid (Own.lower (b0 := w.heap.size) ho1 (by simp))
  have HM1 := Lib.hid hm1
  have HB1 := Lib.hid hB1
  have hne : v1.ownBlock ≠ some w.heap.size := fun e => by have := (ho1.lt _ e).1; simp at this; omega
  have HNE := Lib.hid hne
  clear ho1 hm1 hb1 hB1 hne
  go_wp2_with fail
  refine (HU.out _).mono ?_
  rintro e w2 ⟨v2, rfl, ho2, hb2⟩
  have HO2 := Lib.hid (HO1.out.below hb2)
  have HB2 := Lib.hid (HB1.out.trans (hb2.mono hs1))
  have HM2 := Lib.hid (below_blk hb2 HM1.out)
  have HS2 := Lib.hid (Own.own ho2)
  clear ho2 hb2 c2
  go_wp2_with (at_builtin; first
      | refine arm_bytes rfl w.heap.size _ _ rfl v1 rfl HO2.out v2 rfl HS2.out ?hl HB2.out.size (Grew.refl v1 w2) ?_; (case hl => omega); intro v3 w3 ho3 hg3 hz3; have hm3 := mod_blk hg3.mod HM2.out HNE.out; have c3 := (cells4 hm3).2.2.2; have HO3 := Lib.hid ho3; have HB3 := Lib.hid (HB2.out.trans (hg3.base HB2.out.size (fun k hk => (HO2.out.lt k hk).1))); clear hm3 ho3 hg3
      | refine arm_byte rfl w.heap.size _ _ rfl v3 rfl HO3.out _ (UInt8.ofNat q) ?hz rfl ?hl hz3 (Grew.refl v3 w3) ?_; (case hz => rw [u8_nat (by omega)]; all_goals (try simp only [IntKind.wrap_u8]); all_goals omega); (case hl => simp; omega); intro v4 w4 ho4 hg4 _)
  go_ret
  exact ⟨_, rfl, HE.out ▸ ho4, HB3.out.trans (hg4.base HB3.out.size (fun k hk => (HO3.out.lt k hk).1))⟩
set_option maxRecDepth 100000 in
set_option maxHeartbeats 2000000 in
theorem ref15_one {J : Nat → Prop} {A : Option Addr} {c : Nat} (x : Ent) {w : World} (hx : x.l.ok) (hr : Row kByte J w A x.m) (hc : x.m.length ≤ c) (hf : x.form = true) :
    Calls Try.prog 38 #[.agg #[.int .u64 x.l.n, .int .i64 x.l.p, .int .u64 x.l.s, .int .i64 x.l.q, .slice A x.m.length c]] w fun e w' => ∃ v, e = .returned v ∧ OwnB w' w.heap.size v (eEnc x) ∧ Below w.heap.size w w' := by
  have hf' : x.l.form = true ∧ x.m.length ≤ 64 := by simpa [Ent.form] using hf
  have h64 := hf'.2
  have HL := Lib.hid (fun W => ref05_Encode (w := W) hx hf'.1)
  have HBy := Lib.hid (fun W (hW : Row kByte (fun k => J k ∧ k < w.heap.size) W A x.m) => ref02_Bytes (c := c) hW (by omega))
  have HR := Lib.hid hr.bound
  have hl := lEnc_len hx
  have h10 := uEnc_len10 (n := x.m.length) (by omega)
  have HX := Lib.hid (show lEnc x.l ++ (uEnc x.m.length ++ x.m) = eEnc x by simp [eEnc])
  obtain ⟨l, m⟩ := x
  dsimp only at HL HBy HR HX h64 hl h10 hc ⊢
  clear hf hf' hx hr
  go_enter Try.func38, Try.ntmps38
  go_wp2_with fail
  refine (HL.out _).mono ?_
  rintro e w1 ⟨v1, rfl, ho1, hb1⟩
  have hm1 := below_blk hb1 (heap_alloc_new w (.cells #[.int .u64 l.n, .int .i64 l.p, .int .u64 l.s, .int .i64 l.q, .slice A m.length c] 29))
  have hB1 := (below_alloc1 w (.cells #[.int .u64 l.n, .int .i64 l.p, .int .u64 l.s, .int .i64 l.q, .slice A m.length c] 29)).trans (hb1.mono (by simp))
  have c4 := (cells5 hm1).2.2.2.2
  have hs1 := hB1.size
  have HO1 := Lib.hid (Own.lower (b0 := w.heap.size) ho1 (by simp))
  have HB1 := Lib.hid hB1
  have HR1 := Lib.hid (HR.out.below hB1)
  clear ho1 hm1 hb1 hB1
  go_wp2_with fail
  refine (HBy.out _ HR1.out).mono ?_
  rintro e w2 ⟨v2, rfl, ho2, hb2⟩
  have HO2 := Lib.hid (HO1.out.below hb2)
  have HB2 := Lib.hid (HB1.out.trans (hb2.mono hs1))
  have HS2 := Lib.hid (Own.own ho2)
  clear ho2 hb2 c4
  go_wp2_with (at_builtin; refine arm_bytes rfl w.heap.size _ _ rfl v1 rfl HO2.out v2 rfl HS2.out ?hl HB2.out.size (Grew.refl v1 w2) ?_; (case hl => simp; omega); intro v3 w3 ho3 hg3 hz3)
  go_ret
  exact ⟨_, rfl, HX.out ▸ ho3, HB2.out.trans (hg3.base HB2.out.size (fun k hk => (HO2.out.lt k hk).1))⟩
set_option maxRecDepth 100000 in
set_option maxHeartbeats 2000000 in
theorem ref15_One {J : Nat → Prop} {A : Option Addr} {c : Nat} (x : Ent) {w : World} (hx : x.l.ok) (hr : Row kByte J w A x.m) (hc : x.m.length ≤ c) (hf : x.form = true) :
    Calls Try.prog 12 #[.agg #[.int .u64 x.l.n, .int .i64 x.l.p, .int .u64 x.l.s, .int .i64 x.l.q, .slice A x.m.length c]] w fun e w' => ∃ v, e = .returned v ∧ OwnB w' w.heap.size v (1 :: eEnc x) ∧ Below w.heap.size w w' := by
  have h64 : x.m.length ≤ 64 := by
    have : x.l.form = true ∧ x.m.length ≤ 64 := by simpa [Ent.form] using hf
    exact this.2
  have HO := Lib.hid (fun W (hW : Row kByte (fun k => J k ∧ k < w.heap.size) W A x.m) => ref15_one (c := c) x hx hW hc hf)
  have HR := Lib.hid hr.bound
  have hl := lEnc_len hx
  have h10 := uEnc_len10 (n := x.m.length) (by omega)
  have hx8 : (eEnc x).length ≤ 200 := by
    simp [eEnc]
    omega
  obtain ⟨l, m⟩ := x
  dsimp only at HO HR h64 hl h10 hc ⊢
  generalize eEnc ⟨l, m⟩ = ee at HO hx8
  clear hf hx hr hl h10
  go_enter Try.func12, Try.ntmps12
  have HB0 := Lib.hid ((below_alloc1 w (.cells #[.int .u64 l.n, .int .i64 l.p, .int .u64 l.s, .int .i64 l.q, .slice A m.length c] 29)).alloc (by simp) (.cells #[.int .u8 1] 5))
  have hp := own_lit1 (w.alloc (.cells #[.int .u64 l.n, .int .i64 l.p, .int .u64 l.s, .int .i64 l.q, .slice A m.length c] 29)) w.heap.size (by simp) 1 1 rfl
  simp only [World.size_alloc] at hp
  have HP := Lib.hid hp
  clear hp
  go_wp2_with fail
  refine (HO.out _ (HR.out.below HB0.out)).mono ?_
  rintro e w1 ⟨v1, rfl, ho1, hb1⟩
  have HO1 := Lib.hid (HP.out.below hb1)
  have HB1 := Lib.hid (HB0.out.trans (hb1.mono (by simp; omega)))
  have HS1 := Lib.hid (Own.own ho1)
  clear ho1 hb1
  go_wp2_with (at_builtin; refine arm_bytes rfl w.heap.size _ _ rfl _ rfl HO1.out v1 rfl HS1.out ?hl HB1.out.size (Grew.refl _ w1) ?_; (case hl => simp; omega); intro v3 w3 ho3 hg3 hz3)
  go_ret
  exact ⟨_, rfl, ho3, HB1.out.trans (hg3.base HB1.out.size (fun k hk => (HO1.out.lt k hk).1))⟩
