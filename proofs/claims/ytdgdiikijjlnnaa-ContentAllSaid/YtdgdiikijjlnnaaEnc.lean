/- How the program writes numbers, bytes, views' numbers and labels. -/
import Derived.Test.YtdgdiikijjlnnaaLab
import Derived.Test.YtdgdiikijjlnnaaNum2
import Derived.Deep.RegionHeld3
import Derived.Deep.DeepCutAuto
import Derived.Deep.CutBlock
namespace Go.Proofs.Ytdgdiikijjlnnaa
open Go.RowKit M
/-- A row of bytes of the call's own. -/
abbrev OwnB (w : World) (base : Nat) (v : Value) (l : List UInt8) : Prop := Own kByte 5 (fun _ => False) w base v l
theorem row1 {W : World} {b t : Nat} {fr : Nat × Nat} {z : Int} {x : UInt8} (h : W.heap[b]? = some (.cells #[.int .u8 z] t fr)) (hz : z = x.toNat) : Row kByte (fun _ => True) W (some ⟨b, 0, none⟩) [x] := by
  subst hz
  refine ⟨by simp, fun _ => ⟨b, 0, rfl, trivial, fun j y hy => ?_⟩⟩
  cases j with
  | zero =>
    simp only [List.getElem?_cons_zero, Option.some.injEq] at hy
    subst hy
    refine ⟨_, rfl, fun i u hu => ?_⟩
    cases i with
    | zero =>
      have hc := blk_cell h 0
      simp at hu
      rw [← hu]
      exact hc
    | succ i => simp at hu
  | succ j => simp at hy
/-- append(v, b): one byte, which has just been laid in a block of its own. -/
theorem arm_byte {ops : Array Oper} {rest : List Oper} {o : Oper} {act : Act} {Q : Exit → Act → World → Prop} {w W : World} {a : List UInt8} (hgd : o.guard = none) (base : Nat) (s x : Operand)
    (ho : o.op = .call { callee := .builtin .append, args := #[s, x], argTypes := #[27, 27] }) (v : Value) (hs : act.eval s = v) (hown : OwnB W base v a) (z : Int) (b : UInt8) (hz : z = b.toNat)
    (hx : act.eval x = .slice (some ⟨W.heap.size, 0, none⟩) 1 1) (hlen : a.length ≤ 100000000000000) (hbase : base ≤ W.heap.size) {v0 : Value} (hB : Grew v0 w v W)
    (h : ∀ v' w', OwnB w' base v' (a ++ [b]) → Grew v0 w v' w' → base ≤ w'.heap.size → wpList Try.prog ops Q rest (act.put o.dst v') w') : wpList Try.prog ops Q (o :: rest) act (W.alloc (.cells #[.int .u8 z] 5)) := by
  subst hz
  have hB1 : Below W.heap.size W (W.alloc (.cells #[.int .u8 b.toNat] 5)) := (Below.refl _ _).alloc (Nat.le_refl _) _
  have hrow := row1 (heap_alloc_new W (.cells #[.int .u8 b.toNat] 5)) (x := b) rfl
  refine wpList_append_Own (d := kByte) (I := fun _ => False) (J := fun _ => True) (xs := a) (ys := [b]) hgd base s x 27 5 (.int .u8 0) 1 ho Try.underlying27 infoByte rfl (by decide) v hs (hown.below hB1) (some ⟨W.heap.size, 0, none⟩) 1 hx hrow (fun _ _ hk => hk) (by simp; omega) (by simp; omega) (by simp; omega) (fun _ _ hk => hk) ?_
  intro v' w' hown' hg
  exact h v' w' hown' (hB.trans (Grew.after hB1 hg)) (Nat.le_trans hbase (Nat.le_trans (by simp) hg.size))
/-- append(v, ys...): bytes that are read. -/
theorem arm_bytes {ops : Array Oper} {rest : List Oper} {o : Oper} {act : Act} {Q : Exit → Act → World → Prop} {w W : World} {J : Nat → Prop} {a ys : List UInt8} (hgd : o.guard = none) (base : Nat) (s x : Operand)
    (ho : o.op = .call { callee := .builtin .append, args := #[s, x], argTypes := #[27, 27] }) (v : Value) (hs : act.eval s = v) (hown : OwnB W base v a) (v2 : Value)
    (hx : act.eval x = v2) (hv : SV kByte J W v2 ys) (hlen : a.length + ys.length ≤ 140737488355328) (hbase : base ≤ W.heap.size) {v0 : Value} (hB : Grew v0 w v W)
    (h : ∀ v' w', OwnB w' base v' (a ++ ys) → Grew v0 w v' w' → base ≤ w'.heap.size → wpList Try.prog ops Q rest (act.put o.dst v') w') : wpList Try.prog ops Q (o :: rest) act W := by
  obtain ⟨A, c, rfl, _, hr⟩ := hv
  refine wpList_append_Own (d := kByte) (I := fun _ => False) (J := J) (xs := a) (ys := ys) hgd base s x 27 5 (.int .u8 0) 1 ho Try.underlying27 infoByte rfl (by decide) v hs hown A c hx hr (fun _ _ hk => hk) (by omega) (by omega) hbase (fun _ _ hk => hk) ?_
  intro v' w' hown' hg
  exact h v' w' hown' (hB.trans hg) (Nat.le_trans hbase hg.size)
set_option maxRecDepth 100000 in
set_option maxHeartbeats 2000000 in
theorem code_Uint {base n : Nat} {v : Value} {l : List UInt8} {w : World} (ho : OwnB w base v l) (hb : base ≤ w.heap.size) (hl : l.length ≤ 1000000000000) (hn : n < 18446744073709551616) :
    Calls Try.prog 51 #[v, .int .u64 n] w fun e w' => ∃ v', e = .returned v' ∧ OwnB w' base v' (l ++ uEnc n) ∧ Grew v w v' w' := by
  have HO := Lib.hid ho
  clear ho
  go_enter Try.func51, Try.ntmps51
  go_wp2
  go_loopw [0, 1] (fun p x W => ∃ (a : List UInt8) (m : Nat), x = .int .u64 m ∧ m < 18446744073709551616 ∧ OwnB W base p a ∧ a ++ uEnc m = l ++ uEnc n ∧ Grew v w p W ∧ base ≤ W.heap.size) (fun _ x _ => (intOf x).toNat)
  case atStart => exact ⟨l, n, rfl, hn, HO.out, rfl, Grew.refl _ _, hb⟩
  case round =>
    obtain ⟨a, m, rfl, hm, hown, hl2, hB, hbw⟩ := hrel
    have hlen : a.length + (uEnc m).length = l.length + (uEnc n).length := by rw [← List.length_append, hl2, List.length_append]
    have h10 := uEnc_len10 hn
    by_cases h : m < 128
    · have hE := uEnc_small h
      have hfin : a ++ [UInt8.ofNat m] = l ++ uEnc n := by rw [← hl2, hE]
      have HF := Lib.hid hfin
      have hal : a.length ≤ 100000000000000 := by omega
      clear hfin hl2 hE hlen h10
      have h' : ¬ 128 ≤ m := by omega
      go_wp2_with (at_builtin; refine arm_byte rfl base _ _ rfl _ rfl hown _ (UInt8.ofNat m) ?hz rfl hal hbw hB ?_; (case hz => rw [u8_nat (by omega)]); intro v' w' hown' hB' hbw')
      go_ret
      exact ⟨_, rfl, HF.out ▸ hown', hB'⟩
    · have hE := uEnc_big h
      have hfin : (a ++ [UInt8.ofNat (m % 128 + 128)]) ++ uEnc (m / 128) = l ++ uEnc n := by rw [← hl2, hE]; simp
      have HF := Lib.hid hfin
      have hal : a.length ≤ 100000000000000 := by omega
      clear hfin hl2 hE hlen h10
      go_wp2_with (at_builtin; refine arm_byte rfl base _ _ rfl _ rfl hown _ (UInt8.ofNat (m % 128 + 128)) ?hz rfl hal hbw hB ?_; (case hz => rw [u8_nat (by omega), u8_or128m]); intro v' w' hown' hB' hbw')
      go_roundw
      case rel => exact ⟨_, m / 128, by go_num, by omega, hown', HF.out, hB', hbw'⟩
      case measure => simp [intOf]; omega
set_option maxRecDepth 100000 in
set_option maxHeartbeats 2000000 in
theorem code_Bytes {base : Nat} {v : Value} {J : Nat → Prop} {A : Option Addr} {c : Nat} {l bs : List UInt8} {w : World} (ho : OwnB w base v l) (hb : base ≤ w.heap.size) (hl : l.length ≤ 1000000000000) (hr : Row kByte J w A bs) (_hc : bs.length ≤ c) (hJ : ∀ k, J k → v.ownBlock ≠ some k) (hbs : bs.length ≤ 1000000000000) :
    Calls Try.prog 31 #[v, .slice A bs.length c] w fun e w' => ∃ v', e = .returned v' ∧ OwnB w' base v' (l ++ uEnc bs.length ++ bs) ∧ Grew v w v' w' := by
  have HU := Lib.hid (code_Uint (n := bs.length) ho hb hl (by omega))
  have h10 := uEnc_len10 (n := bs.length) (by omega)
  have HR := Lib.hid hr
  have H10 := Lib.hid h10
  clear ho hr h10
  go_enter Try.func31, Try.ntmps31
  go_wp2_with fail
  refine HU.out.mono ?_
  rintro e w1 ⟨v1, rfl, ho1, hB1⟩
  have HO1 := Lib.hid ho1
  have HR1 := Lib.hid (HR.out.step (hB1.mod.agr hJ))
  have hw1 := Nat.le_trans hb hB1.size
  clear ho1
  go_wp2_with (at_builtin; refine wpList_append_Own (d := kByte) (I := fun _ => False) (J := J) (xs := l ++ uEnc bs.length) (ys := bs) rfl base _ _ 27 5 (.int .u8 0) 1 rfl Try.underlying27 infoByte rfl (by decide) v1 rfl HO1.out A c rfl HR1.out (fun _ _ hk => hk) ?_ ?_ hw1 (fun _ _ hk => hk) ?_; (have := H10.out; simp; omega); (have := H10.out; simp; omega); intro v2 w2 ho2 hg2)
  go_ret
  exact ⟨_, rfl, ho2, hB1.trans hg2⟩
namespace M
def vEnc (v : Vid) : List UInt8 := uEnc v.n.toNat ++ [UInt8.ofNat v.p.toNat]
def lEnc (l : Lab) : List UInt8 := vEnc l.vid ++ uEnc l.s.toNat ++ [UInt8.ofNat l.q.toNat]
end M
set_option maxRecDepth 100000 in
set_option maxHeartbeats 2000000 in
/-- A right number of a view. -/
theorem ident_Encode {base : Nat} {v : Value} {l : List UInt8} {i : Vid} {w : World} (ho : OwnB w base v l) (hb : base ≤ w.heap.size) (hl : l.length ≤ 1000000000000) (hi : i.ok) (hf : i.form = true) :
    Calls Try.prog 52 #[v, .agg #[.int .u64 i.n, .int .i64 i.p]] w fun e w' => ∃ v', e = .returned (.tuple #[v', .int .i64 0]) ∧ OwnB w' base v' (l ++ vEnc i) ∧ Grew v w v' w' := by
  obtain ⟨hn0, hn1, _, _⟩ := hi
  have hf' : 0 ≤ i.p ∧ i.p < 16 ∧ (0 < i.n ∨ i.p = 0) := by simpa [Vid.form] using hf
  obtain ⟨hp0, hp1, _⟩ := hf'
  have HV := Lib.hid (ident_Form i)
  rw [hf] at HV
  obtain ⟨n, p⟩ := i
  obtain ⟨n, rfl⟩ := Int.eq_ofNat_of_zero_le hn0
  obtain ⟨p, rfl⟩ := Int.eq_ofNat_of_zero_le hp0
  have HO := Lib.hid ho
  dsimp only at *
  clear ho hf
  go_enter Try.func52, Try.ntmps52
  go_wp2_with fail
  refine (HV.out _).mono ?_
  rintro e w1 ⟨rfl, hb1⟩
  have hm1 := below_blk hb1 (heap_alloc_new w (.cells #[.int .u64 n, .int .i64 p] 24))
  have hB1 : Below w.heap.size w w1 := ((Below.refl _ w).alloc (Nat.le_refl _) _).trans (hb1.mono (by simp))
  have hs1 := hb1.size
  simp at hs1
  have HO1 := Lib.hid (HO.out.below hB1)
  have HB1 := Lib.hid hB1
  have c0 := blk_cell hm1 0
  have c1 := blk_cell hm1 1
  simp only [List.getElem?_toArray, List.getElem?_cons_zero, List.getElem?_cons_succ] at c0 c1
  have HM1 := Lib.hid hm1
  clear hm1 hb1 hB1
  go_wp2_with fail
  have hE : l ++ vEnc ⟨n, p⟩ = (l ++ uEnc n) ++ [UInt8.ofNat p] := by simp [vEnc]
  have HE := Lib.hid hE
  have HU := Lib.hid (fun W (hW : OwnB W base v l) (hs : base ≤ W.heap.size) => code_Uint (n := n) hW hs hl (by omega))
  have HV0 := Lib.hid (show v.ownBlock ≠ some w.heap.size from fun e => by have := (HO.out.lt _ e).2; omega)
  clear hE
  go_cut [4, 5] (fun s4 s5 W => s5 = .int .i64 0 ∧ OwnB W base s4 (l ++ vEnc ⟨n, p⟩) ∧ Grew v w s4 W)
  case first =>
    go_region_held3 (fun W => W.cell? ⟨w.heap.size, 0, none⟩ = some (.int .u64 n) ∧ W.cell? ⟨w.heap.size, 1, none⟩ = some (.int .i64 p)) (first
      | go_keep
      | (go_split_ands; refine ⟨?_, ?_⟩ <;> (first
          | exact hg3.cell (hg2.ne HV0.out (by simp; omega)) (by first | assumption | (rw [keepA (by omega)]; assumption))
          | exact hg2.cell HV0.out (by first | assumption | exact c0 | exact c1 | (rw [keepA (by simp; omega)]; first | assumption | exact c0 | exact c1)))))
      (first
        | (refine step_append_Own (d := kByte) (I := fun _ => False) (J := fun _ => True) (xs := l ++ uEnc n) (ys := [UInt8.ofNat p]) (by rfl) base _ _ 27 5 (.int .u8 0) 1 (by rfl) Try.underlying27 infoByte rfl (by decide) v2 (by rfl) (ho2.below ((Below.refl _ _).alloc (Nat.le_refl _) _)) (some ⟨w2.heap.size, 0, none⟩) 1 (by rfl) (row1 (heap_alloc_new w2 _) (by rw [u8_nat (by omega), IntKind.wrap_u8]; omega)) (fun _ _ hk => hk) ?_ ?_ ?_ (fun _ _ hk => hk) ?_; (have := uEnc_len10 (n := n) (by omega); simp; omega); (have := uEnc_len10 (n := n) (by omega); simp; omega); (have := hg2.size; try simp at this; simp; omega); intro v3 w3 ho3 hg3)
        | (refine step_append_Own (d := kByte) (I := fun _ => False) (J := fun _ => True) (xs := l ++ uEnc n) (ys := [UInt8.ofNat p]) (by rfl) base _ _ 27 5 (.int .u8 0) 1 (by rfl) Try.underlying27 infoByte rfl (by decide) v2 (by rfl) ho2 (some ⟨w1.heap.size, 0, none⟩) 1 (by rfl) (row1 (mod_blk hg2.mod (heap_alloc_new w1 _) (fun e => by have := (HO1.out.lt _ e).2; omega)) (by rw [u8_nat (by omega), IntKind.wrap_u8]; omega)) (fun _ _ hk => hk) ?_ ?_ ?_ (fun _ _ hk => hk) ?_; (have := uEnc_len10 (n := n) (by omega); simp; omega); (have := uEnc_len10 (n := n) (by omega); simp; omega); (have := hg2.size; try simp at this; omega); intro v3 w3 ho3 hg3)
        | (go_simp; go_at_call 51; refine (HU.out _ ?_ ?_).mono ?_; (first | exact HO1.out.below (Below.refl _ _).drew | exact HO1.out.below ((Below.refl _ _).drew.alloc (by simp) _)); (simp; omega); rintro e w2 ⟨v2, rfl, ho2, hg2⟩))
    all_goals go_wp2_with fail
    all_goals go_meet
    · exact ⟨rfl, HE.out ▸ ho3, (Grew.after (HB1.out.trans (Below.refl _ _).drew) hg2).trans (Grew.after ((Below.refl _ _).alloc (Nat.le_refl _) _) hg3)⟩
    · exact ⟨rfl, HE.out ▸ ho3, (Grew.after (HB1.out.trans (((Below.refl _ _).alloc (by omega) _).drew)) hg2).trans hg3⟩
  case rest =>
    obtain ⟨rfl, ho3, hg3⟩ := hcut
    go_wp2
    go_ret2
    exact ⟨_, rfl, ho3, hg3⟩
set_option maxRecDepth 100000 in
set_option maxHeartbeats 2000000 in
/-- A right label. -/
theorem label_Encode {base : Nat} {v : Value} {l : List UInt8} {x : Lab} {w : World} (ho : OwnB w base v l) (hb : base ≤ w.heap.size) (hl : l.length ≤ 100000000000) (hx : x.ok) (hf : x.form = true) :
    Calls Try.prog 30 #[v, .agg #[.int .u64 x.n, .int .i64 x.p, .int .u64 x.s, .int .i64 x.q]] w fun e w' => ∃ v', e = .returned (.tuple #[v', .int .i64 0]) ∧ OwnB w' base v' (l ++ lEnc x) ∧ Grew v w v' w' := by
  obtain ⟨hn0, hn1, hp0, hp1, hs0, hs1, hq0, hq1⟩ := hx
  have hf' : x.vid.form = true ∧ 0 < x.n ∧ 0 < x.s ∧ 0 ≤ x.q ∧ x.q < 16 := by simpa [Lab.form] using hf
  obtain ⟨hvf, _, _, hq2, hq3⟩ := hf'
  have HI := Lib.hid (fun W (hW : OwnB W base v l) (hs : base ≤ W.heap.size) => ident_Encode (i := x.vid) hW hs (by omega) ⟨hn0, hn1, hp0, hp1⟩ hvf)
  have HV := Lib.hid (label_Form x)
  rw [hf] at HV
  obtain ⟨n, p, s, q⟩ := x
  obtain ⟨s, rfl⟩ := Int.eq_ofNat_of_zero_le hs0
  obtain ⟨q, rfl⟩ := Int.eq_ofNat_of_zero_le hq2
  have hlE : l ++ lEnc ⟨n, p, s, q⟩ = ((l ++ vEnc ⟨n, p⟩) ++ uEnc s) ++ [UInt8.ofNat q] := by simp [lEnc, Lab.vid]
  have HE := Lib.hid hlE
  have HO := Lib.hid ho
  dsimp only [Lab.vid] at *
  have hvl : (vEnc ⟨n, p⟩).length ≤ 11 := by
    have := uEnc_len10 (n := n.toNat) (by omega)
    simp [vEnc]
    omega
  clear ho hf hvf hlE
  go_enter Try.func30, Try.ntmps30
  go_wp2_with fail
  refine (HV.out _).mono ?_
  rintro e w1 ⟨rfl, hb1⟩
  have hm1 := below_blk hb1 (heap_alloc_new w (.cells #[.int .u64 n, .int .i64 p, .int .u64 s, .int .i64 q] 26))
  have hB1 : Below w.heap.size w w1 := ((Below.refl _ w).alloc (Nat.le_refl _) _).trans (hb1.mono (by simp))
  have hz1 := hb1.size
  simp at hz1
  have HO1 := Lib.hid (HO.out.below hB1)
  have HB1 := Lib.hid hB1
  have c0 := blk_cell hm1 0
  have c1 := blk_cell hm1 1
  have c2 := blk_cell hm1 2
  have c3 := blk_cell hm1 3
  simp only [List.getElem?_toArray, List.getElem?_cons_zero, List.getElem?_cons_succ] at c0 c1 c2 c3
  have HM1 := Lib.hid hm1
  clear hm1 hb1 hB1
  go_wp2_with fail
  refine (HI.out _ HO1.out (by omega)).mono ?_
  rintro e w2 ⟨v2, rfl, ho2, hg2⟩
  have hm2 := mod_blk hg2.mod HM1.out (fun e => by have := (HO.out.lt _ e).2; omega)
  have hz2 := hg2.size
  have d2 := blk_cell hm2 2
  have d3 := blk_cell hm2 3
  simp only [List.getElem?_toArray, List.getElem?_cons_zero, List.getElem?_cons_succ] at d2 d3
  have HO2 := Lib.hid ho2
  have HV0 := Lib.hid (hg2.ne (k := w.heap.size) (fun e => by have := (HO.out.lt _ e).2; omega) (by omega))
  have HG2 := Lib.hid (Grew.after HB1.out hg2)
  clear hm2 c0 c1 c2 c3 ho2 hg2
  go_wp2_with fail
  have HU := Lib.hid (fun W (hW : OwnB W base v2 (l ++ vEnc ⟨n, p⟩)) (hs : base ≤ W.heap.size) => code_Uint (n := s) hW hs (by simp; omega) (by omega))
  go_cut [4, 5] (fun s4 s5 W => s5 = .int .i64 0 ∧ OwnB W base s4 (l ++ lEnc ⟨n, p, s, q⟩) ∧ Grew v w s4 W)
  case first =>
    go_region_held3 (fun W => W.cell? ⟨w.heap.size, 2, none⟩ = some (.int .u64 s) ∧ W.cell? ⟨w.heap.size, 3, none⟩ = some (.int .i64 q)) (first
      | go_keep
      | (go_split_ands; refine ⟨?_, ?_⟩ <;> (first
          | exact hg4.cell (hg3.ne HV0.out (by simp; omega)) (by first | assumption | (rw [keepA (by omega)]; assumption))
          | exact hg3.cell HV0.out (by first | assumption | exact d2 | exact d3 | (rw [keepA (by simp; omega)]; first | assumption | exact d2 | exact d3)))))
      (first
        | (refine step_append_Own (d := kByte) (I := fun _ => False) (J := fun _ => True) (xs := (l ++ vEnc ⟨n, p⟩) ++ uEnc s) (ys := [UInt8.ofNat q]) (by rfl) base _ _ 27 5 (.int .u8 0) 1 (by rfl) Try.underlying27 infoByte rfl (by decide) v3 (by rfl) (ho3.below ((Below.refl _ _).alloc (Nat.le_refl _) _)) (some ⟨w3.heap.size, 0, none⟩) 1 (by rfl) (row1 (heap_alloc_new w3 _) (by rw [u8_nat (by omega), IntKind.wrap_u8]; omega)) (fun _ _ hk => hk) ?_ ?_ ?_ (fun _ _ hk => hk) ?_; (have := uEnc_len10 (n := s) (by omega); simp; omega); (have := uEnc_len10 (n := s) (by omega); simp; omega); (have := hg3.size; try simp at this; simp; omega); intro v4 w4 ho4 hg4)
        | (refine step_append_Own (d := kByte) (I := fun _ => False) (J := fun _ => True) (xs := (l ++ vEnc ⟨n, p⟩) ++ uEnc s) (ys := [UInt8.ofNat q]) (by rfl) base _ _ 27 5 (.int .u8 0) 1 (by rfl) Try.underlying27 infoByte rfl (by decide) v3 (by rfl) ho3 (some ⟨w2.heap.size, 0, none⟩) 1 (by rfl) (row1 (mod_blk hg3.mod (heap_alloc_new w2 _) (fun e => by have := (HO2.out.lt _ e).2; omega)) (by rw [u8_nat (by omega), IntKind.wrap_u8]; omega)) (fun _ _ hk => hk) ?_ ?_ ?_ (fun _ _ hk => hk) ?_; (have := uEnc_len10 (n := s) (by omega); simp; omega); (have := uEnc_len10 (n := s) (by omega); simp; omega); (have := hg3.size; try simp at this; omega); intro v4 w4 ho4 hg4)
        | (go_simp; go_at_call 51; refine (HU.out _ ?_ ?_).mono ?_; (first | exact HO2.out.below (Below.refl _ _).drew | exact HO2.out.below ((Below.refl _ _).drew.alloc (by simp) _)); (simp; omega); rintro e w3 ⟨v3, rfl, ho3, hg3⟩))
    all_goals go_wp2_with fail
    all_goals go_meet
    · exact ⟨rfl, HE.out ▸ ho4, (HG2.out.trans (Grew.after (Below.refl _ _).drew hg3)).trans (Grew.after ((Below.refl _ _).alloc (Nat.le_refl _) _) hg4)⟩
    · exact ⟨rfl, HE.out ▸ ho4, (HG2.out.trans (Grew.after (((Below.refl _ _).alloc (by omega) _).drew) hg3)).trans hg4⟩
  case rest =>
    obtain ⟨rfl, ho4, hg4⟩ := hcut
    go_wp2
    go_ret2
    exact ⟨_, rfl, ho4, hg4⟩
