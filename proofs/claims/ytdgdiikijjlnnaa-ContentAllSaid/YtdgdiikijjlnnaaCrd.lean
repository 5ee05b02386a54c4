/- The walk of folkmootlaw15.ContentReads. -/
import Derived.Test.YtdgdiikijjlnnaaRpl2
import Derived.Test.YtdgdiikijjlnnaaDec3
import Derived.Test.YtdgdiikijjlnnaaAwake
namespace Go.Proofs.Ytdgdiikijjlnnaa
open Go.RowKit Go.Sort M
namespace M
open Classical in
/-- What is told of bytes: 1 and an entry, 2 and a summary, 0: nothing. -/
noncomputable def told : List UInt8 → Nat × Ent × Sum
  | [] => (0, default, default)
  | x :: r => if x = 1 then (if (d1 r).2 = true then (1, (d1 r).1, default) else (0, default, default)) else if x = 2 then (if dOk (r.length + 1) r then (2, default, dSum (r.length + 1) r) else (0, default, default)) else (0, default, default)
end M
theorem decode_told (HT : TwiceSays) {I : Nat → Prop} {A : Option Addr} {c : Nat} {P : List UInt8} {w : World} (hr : Row kByte I w A P) (hc : P.length ≤ c) (hm : P.length ≤ 3000) :
    Calls Try.prog 11 #[.slice A P.length c] w fun e w' => ∃ v v1 v2, e = .returned (.tuple #[.int .u8 (told P).1, .agg #[.int .u64 (told P).2.1.l.n, .int .i64 (told P).2.1.l.p, .int .u64 (told P).2.1.l.s, .int .i64 (told P).2.1.l.q, v], .agg #[v1, v2, .int .i64 (told P).2.2.next, .int .u64 (told P).2.2.high.n, .int .i64 (told P).2.2.high.p], .int .i64 (if (told P).1 = 0 then 3 else 0)]) ∧
      SV kByte (fun k => I k ∨ w.heap.size ≤ k) w' v (told P).2.1.m ∧ SV kEnt (fun k => I k ∨ w.heap.size ≤ k) w' v1 (told P).2.2.con ∧ SV kLab (fun k => I k ∨ w.heap.size ≤ k) w' v2 (told P).2.2.ord ∧ Below w.heap.size w w' := by
  cases P with
  | nil => exact decode_nil.mono fun e w' ⟨he, hb⟩ => ⟨.slice none 0 0, .slice none 0 0, .slice none 0 0, he, SV.nil _ _ _, SV.nil _ _ _, SV.nil _ _ _, hb⟩
  | cons x r =>
    rw [List.length_cons] at hc hm ⊢
    by_cases h1 : x = 1
    · subst h1
      refine (decode_one hr hc (by omega)).mono fun e w' ⟨v, he, hv, hb⟩ => ?_
      have e1 : told (1 :: r) = if (d1 r).2 = true then (1, (d1 r).1, default) else (0, default, default) := rfl
      cases hd : (d1 r).2 with
      | true =>
        rw [e1, hd]
        unfold d1k d1e at he
        rw [hd] at he
        exact ⟨v, .slice none 0 0, .slice none 0 0, he, hv.mono (fun _ h => .inr h), SV.nil _ _ _, SV.nil _ _ _, hb⟩
      | false =>
        rw [e1, hd]
        unfold d1k d1e at he
        rw [hd] at he
        have e2 : (d1 r).1 = default := by
          unfold d1 at hd ⊢
          split
          · rename_i hh
            rw [if_pos hh] at hd
            cases hd
          · rfl
        rw [e2] at he hv
        exact ⟨v, .slice none 0 0, .slice none 0 0, he, hv.mono (fun _ h => .inr h), SV.nil _ _ _, SV.nil _ _ _, hb⟩
    · by_cases h2 : x = 2
      · subst h2
        have e1 : told (2 :: r) = @ite _ (dOk (r.length + 1) r) (Classical.propDecidable _) (2, default, dSum (r.length + 1) r) (0, default, default) := rfl
        by_cases hd : dOk (r.length + 1) r
        · refine (decode_all HT hr hc (by omega) true (by simpa using hd)).mono fun e w' ⟨v1, v2, he, hv1, hv2, hb⟩ => ?_
          rw [e1, if_pos hd]
          exact ⟨.slice none 0 0, v1, v2, he, SV.nil _ _ _, hv1.mono (fun _ h => .inr h), hv2.mono (fun _ h => .inr h), hb⟩
        · refine (decode_all HT hr hc (by omega) false (by simpa using hd)).mono fun e w' ⟨v1, v2, he, hv1, hv2, hb⟩ => ?_
          rw [e1, if_neg hd]
          exact ⟨.slice none 0 0, v1, v2, he, SV.nil _ _ _, hv1.mono (fun _ h => .inr h), hv2.mono (fun _ h => .inr h), hb⟩
      · refine (decode_none hr hc (by omega) h1 h2).mono fun e w' ⟨he, hb⟩ => ?_
        have e1 : told (x :: r) = (0, default, default) := by
          show (if x = 1 then _ else if x = 2 then _ else (0, default, default)) = _
          rw [if_neg h1, if_neg h2]
        rw [e1]
        exact ⟨.slice none 0 0, .slice none 0 0, .slice none 0 0, he, SV.nil _ _ _, SV.nil _ _ _, SV.nil _ _ _, hb⟩
theorem ref_told_b {I : Nat → Prop} {A : Option Addr} {c : Nat} {P : List UInt8} {w : World} (hr : Row kByte I w A P) (hc : P.length ≤ c) (hm : P.length ≤ 3000) (hbd : ∀ k, I k → k < w.heap.size) :
    Calls Try.prog 14 #[.slice A P.length c] w fun e w' => ∃ v v1 v2, e = .returned (.tuple #[.int .u8 (told P).1, .agg #[.int .u64 (told P).2.1.l.n, .int .i64 (told P).2.1.l.p, .int .u64 (told P).2.1.l.s, .int .i64 (told P).2.1.l.q, v], .agg #[v1, v2, .int .i64 (told P).2.2.next, .int .u64 (told P).2.2.high.n, .int .i64 (told P).2.2.high.p]]) ∧
      SV kByte (fun k => I k ∨ w.heap.size ≤ k) w' v (told P).2.1.m ∧ SV kEnt (fun k => I k ∨ w.heap.size ≤ k) w' v1 (told P).2.2.con ∧ SV kLab (fun k => I k ∨ w.heap.size ≤ k) w' v2 (told P).2.2.ord ∧ Below w.heap.size w w' := by
  cases P with
  | nil => exact ref15_Decode_nil.mono fun e w' ⟨he, hb⟩ => ⟨.slice none 0 0, .slice none 0 0, .slice none 0 0, he, SV.nil _ _ _, SV.nil _ _ _, SV.nil _ _ _, hb⟩
  | cons x r =>
    by_cases h1 : x = 1
    · subst h1
      have e1 : told (1 :: r) = if (d1 r).2 = true then (1, (d1 r).1, default) else (0, default, default) := rfl
      obtain ⟨a1, a2⟩ := one_agree (r := r)
      cases hd : (d1 r).2 with
      | true =>
        refine (ref15_Decode_one hr hc hm rfl true (by rw [a1, hd]) hbd).mono fun e w' ⟨v, he, hv, hb⟩ => ?_
        rw [e1, hd]
        simp only [if_true, a2 hd] at he hv
        exact ⟨v, .slice none 0 0, .slice none 0 0, he, hv, SV.nil _ _ _, SV.nil _ _ _, hb⟩
      | false =>
        refine (ref15_Decode_one hr hc hm rfl false (by rw [a1, hd]) hbd).mono fun e w' ⟨v, he, hv, hb⟩ => ?_
        rw [e1, hd]
        exact ⟨v, .slice none 0 0, .slice none 0 0, he, hv, SV.nil _ _ _, SV.nil _ _ _, hb⟩
    · by_cases h2 : x = 2
      · subst h2
        have e1 : told (2 :: r) = @ite _ (dOk (r.length + 1) r) (Classical.propDecidable _) (2, default, dSum (r.length + 1) r) (0, default, default) := rfl
        rw [List.length_cons] at hm
        obtain ⟨a1, a2⟩ := all_agree (r := r) (by omega)
        by_cases hd : dOk (r.length + 1) r
        · refine (ref15_Decode_all hr hc (by simpa using hm) rfl true (by rw [a1]; simpa using hd) hbd).mono fun e w' ⟨v1, v2, he, hv1, hv2, hb⟩ => ?_
          rw [e1, if_pos hd]
          simp only [if_true, a2 hd] at he hv1 hv2
          exact ⟨.slice none 0 0, v1, v2, he, SV.nil _ _ _, hv1, hv2, hb⟩
        · refine (ref15_Decode_all hr hc (by simpa using hm) rfl false (by rw [a1]; simpa using hd) hbd).mono fun e w' ⟨v1, v2, he, hv1, hv2, hb⟩ => ?_
          rw [e1, if_neg hd]
          exact ⟨.slice none 0 0, v1, v2, he, SV.nil _ _ _, hv1, hv2, hb⟩
      · refine (ref15_Decode_none hr hc hm rfl h1 h2).mono fun e w' ⟨he, hb⟩ => ?_
        have e1 : told (x :: r) = (0, default, default) := by
          show (if x = 1 then _ else if x = 2 then _ else (0, default, default)) = _
          rw [if_neg h1, if_neg h2]
        rw [e1]
        exact ⟨.slice none 0 0, .slice none 0 0, .slice none 0 0, he, SV.nil _ _ _, SV.nil _ _ _, SV.nil _ _ _, hb⟩
theorem ref_told {I : Nat → Prop} {A : Option Addr} {c : Nat} {P : List UInt8} {w : World} (hr : Row kByte I w A P) (hc : P.length ≤ c) (hm : P.length ≤ 3000) :
    Calls Try.prog 14 #[.slice A P.length c] w fun e w' => ∃ v v1 v2, e = .returned (.tuple #[.int .u8 (told P).1, .agg #[.int .u64 (told P).2.1.l.n, .int .i64 (told P).2.1.l.p, .int .u64 (told P).2.1.l.s, .int .i64 (told P).2.1.l.q, v], .agg #[v1, v2, .int .i64 (told P).2.2.next, .int .u64 (told P).2.2.high.n, .int .i64 (told P).2.2.high.p]]) ∧
      SV kByte (fun k => I k ∨ w.heap.size ≤ k) w' v (told P).2.1.m ∧ SV kEnt (fun k => I k ∨ w.heap.size ≤ k) w' v1 (told P).2.2.con ∧ SV kLab (fun k => I k ∨ w.heap.size ≤ k) w' v2 (told P).2.2.ord ∧ Below w.heap.size w w' :=
  (ref_told_b hr.bound hc hm (fun _ hk => hk.2)).mono fun _ _ ⟨v, v1, v2, he, h1, h2, h3, hb⟩ => ⟨v, v1, v2, he, h1.mono (fun _ h => h.imp (fun a => a.1) id), h2.mono (fun _ h => h.imp (fun a => a.1) id), h3.mono (fun _ h => h.imp (fun a => a.1) id), hb⟩
set_option maxRecDepth 100000 in
set_option maxHeartbeats 4000000 in
theorem law_ContentReads (HT : TwiceSays) {I : Nat → Prop} {A : Option Addr} {c : Nat} {P : List UInt8} {w : World} (hr : Row kByte I w A P) (hc : P.length ≤ c) (hlen : P.length ≤ 9223372036854775807) :
    Calls Try.prog 4 #[.slice A P.length c] w fun e w' => e = .returned (.bool true) ∧ Below w.heap.size w w' := by
  have HR := Lib.hid hr
  have HA := Lib.hid awake15
  clear hr
  by_cases hm : P.length ≤ 3000
  · have hm' : ¬ (3000 : Int) < P.length := by omega
    go_enter Try.func4, Try.ntmps4
    go_wp2_with fail
    refine (HA.out _).mono ?_
    rintro e w1 ⟨rfl, hb1⟩
    have HB1 := Lib.hid hb1
    have HR1 := Lib.hid (HR.out.below hb1)
    clear hb1
    go_wp2_with fail
    refine (decode_told HT HR1.out hc hm).mono ?_
    rintro e w2 ⟨v, v1, v2, rfl, hv, hv1, hv2, hb2⟩
    have HB2 := Lib.hid (HB1.out.trans (hb2.mono HB1.out.size))
    have HR2 := Lib.hid (HR.out.below HB2.out)
    obtain ⟨B, d, rfl, hd, hrv⟩ := hv
    obtain ⟨B1, d1, rfl, hd1, hrv1⟩ := hv1
    obtain ⟨B2, d2, rfl, hd2, hrv2⟩ := hv2
    have HV := Lib.hid hrv
    have HV1 := Lib.hid hrv1
    have HV2 := Lib.hid hrv2
    clear hb2 hrv hrv1 hrv2
    have HRT := Lib.hid (fun W (hW : Row kByte I W A P) => ref_told hW hc hm)
    have hek : ∃ ek : Int, (if (told P).1 = 0 then 3 else 0) = ek ∧ (((told P).1 = 0 ∧ ek = 3) ∨ (0 < (told P).1 ∧ ek = 0)) := by
      refine ⟨_, rfl, ?_⟩
      by_cases hk : (told P).1 = 0
      · exact .inl ⟨hk, if_pos hk⟩
      · exact .inr ⟨by omega, if_neg hk⟩
    obtain ⟨ek, hek1, hek2⟩ := hek
    rw [hek1]
    clear hek1
    generalize told P = t at *
    obtain ⟨k, ⟨⟨n, p, sq, q⟩, m⟩, s⟩ := t
    dsimp only at *
    have hb3 := (below_alloc1 w2 (.cells #[.int .u64 n, .int .i64 p, .int .u64 sq, .int .i64 q, .slice B m.length d] 29)).alloc (by simp) (.cells #[.slice B1 s.con.length d1, .slice B2 s.ord.length d2, .int .i64 s.next, .int .u64 s.high.n, .int .i64 s.high.p] 38)
    have hbx := alloc_blk (heap_alloc_new w2 (.cells #[.int .u64 n, .int .i64 p, .int .u64 sq, .int .i64 q, .slice B m.length d] 29)) (.cells #[.slice B1 s.con.length d1, .slice B2 s.ord.length d2, .int .i64 s.next, .int .u64 s.high.n, .int .i64 s.high.p] 38)
    have hbs := heap_alloc_new (w2.alloc (.cells #[.int .u64 n, .int .i64 p, .int .u64 sq, .int .i64 q, .slice B m.length d] 29)) (.cells #[.slice B1 s.con.length d1, .slice B2 s.ord.length d2, .int .i64 s.next, .int .u64 s.high.n, .int .i64 s.high.p] 38)
    rw [World.size_alloc] at hbs
    have HB3 := Lib.hid (HB2.out.trans (hb3.mono HB2.out.size))
    have HR3 := Lib.hid (HR2.out.below hb3)
    have HV := Lib.hid (HV.out.below hb3)
    have HV1 := Lib.hid (HV1.out.below hb3)
    have HV2 := Lib.hid (HV2.out.below hb3)
    have HX := Lib.hid hbx
    have HS := Lib.hid hbs
    clear hb3 hbx hbs HR2 HB2
    have hst := str_toList
    have heq := fun W => lab_eql ⟨n, p, sq, q⟩ ⟨n, p, sq, q⟩ W
    rw [decide_eq_true rfl] at heq
    have hkk : ((k : Int) == (k : Int)) = true := by simp
    have hmm : (m == m) = true := by simp
    rcases hek2 with ⟨hk0, rfl⟩ | ⟨hk0, rfl⟩
    all_goals
      have hkd : decide (0 < k) = decide (0 < k) := rfl
      go_wp2_with fail
      refine (HRT.out _ HR3.out).mono ?_
      rintro e w4 ⟨u, u1, u2, rfl, hu, hu1, hu2, hb4⟩
      obtain ⟨C, f, rfl, hf, hru⟩ := hu
      obtain ⟨C1, f1, rfl, hf1, hru1⟩ := hu1
      obtain ⟨C2, f2, rfl, hf2, hru2⟩ := hu2
      have hb5 := (below_alloc1 w4 (.cells #[.int .u64 n, .int .i64 p, .int .u64 sq, .int .i64 q, .slice C m.length f] 29)).alloc (by simp) (.cells #[.slice C1 s.con.length f1, .slice C2 s.ord.length f2, .int .i64 s.next, .int .u64 s.high.n, .int .i64 s.high.p] 38)
      have hb45 := hb4.trans (hb5.mono hb4.size)
      have hX := below_blk hb45 HX.out
      have hS := below_blk hb45 HS.out
      have hY := alloc_blk (heap_alloc_new w4 (.cells #[.int .u64 n, .int .i64 p, .int .u64 sq, .int .i64 q, .slice C m.length f] 29)) (.cells #[.slice C1 s.con.length f1, .slice C2 s.ord.length f2, .int .i64 s.next, .int .u64 s.high.n, .int .i64 s.high.p] 38)
      have hT := heap_alloc_new (w4.alloc (.cells #[.int .u64 n, .int .i64 p, .int .u64 sq, .int .i64 q, .slice C m.length f] 29)) (.cells #[.slice C1 s.con.length f1, .slice C2 s.ord.length f2, .int .i64 s.next, .int .u64 s.high.n, .int .i64 s.high.p] 38)
      rw [World.size_alloc] at hT
      obtain ⟨x0, x1, x2, x3, x4⟩ := cells5 hX
      obtain ⟨s0, s1, s2, s3, s4⟩ := cells5 hS
      obtain ⟨y0, y1, y2, y3, y4⟩ := cells5 hY
      obtain ⟨t0, t1, t2, t3, t4⟩ := cells5 hT
      have hcx := convert_str (c := d) (HV.out.below hb45)
      have hcy := convert_str (c := f) (hru.below hb5)
      have HAL := Lib.hid (ref15_Alike (c1 := d1) (c2 := d2) (d1 := f1) (d2 := f2) (s := s) (t := s) ((HV1.out.below hb45).mono (J := fun _ => True) (fun _ _ => trivial)) ((HV2.out.below hb45).mono (J := fun _ => True) (fun _ _ => trivial)) ((hru1.below hb5).mono (J := fun _ => True) (fun _ _ => trivial)) ((hru2.below hb5).mono (J := fun _ => True) (fun _ _ => trivial)))
      have HB5 := Lib.hid (HB3.out.trans (hb45.mono HB3.out.size))
      rw [decide_eq_true rfl] at HAL
      clear hb4 hb5 hb45 hX hS hY hT hru hru1 hru2
      go_wp2_with fail
      refine HAL.out.mono ?_
      rintro e w6 ⟨rfl, hb6⟩
      go_wp2
      go_ret
      exact ⟨rfl, HB5.out.trans (hb6.mono HB5.out.size)⟩
  · have hm' : (3000 : Int) < P.length := by omega
    go_enter Try.func4, Try.ntmps4
    go_wp2_with fail
    refine (HA.out _).mono ?_
    rintro e w1 ⟨rfl, hb1⟩
    have HB1 := Lib.hid hb1
    clear hb1
    go_wp2_with fail
    refine (HA.out _).mono ?_
    rintro e w2 ⟨rfl, hb2⟩
    go_wp2
    go_ret
    exact ⟨rfl, HB1.out.trans (hb2.mono HB1.out.size)⟩
end Go.Proofs.Ytdgdiikijjlnnaa
