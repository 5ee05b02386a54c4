/- Plain law: what is read is what is written; a summary's bytes and back. -/
import Derived.Test.YtdgdiikijjlnnaaRpl
namespace Go.Proofs.Ytdgdiikijjlnnaa
open Go.RowKit M
namespace M
theorem rI_inv {m : Nat} {l r : List UInt8} {b : Bool} {n : Nat} (h : rI m l b = (n, r, false)) : b = false ∧ l = uEnc n ++ r ∧ n ≤ m := by
  unfold rI at h
  split at h
  · simp at h
  · split at h
    · rename_i hn
      have := rU_inv (l := l) (r := r) (n := n) (bad := b) h
      rw [h] at hn
      exact ⟨this.1, this.2.1, hn⟩
    · simp at h
theorem rB_inv {m : Nat} {l r x : List UInt8} {b : Bool} (h : rB m l b = (x, r, false)) : b = false ∧ l = uEnc x.length ++ x ++ r ∧ x.length ≤ m := by
  unfold rB at h
  generalize hq : rI m l b = q at h
  obtain ⟨n, l1, b1⟩ := q
  dsimp only at h
  split at h
  · simp at h
  · rename_i hb
    simp at hb
    subst hb
    split at h
    · rename_i hn
      simp only [Prod.mk.injEq] at h
      obtain ⟨rfl, rfl, _⟩ := h
      have := rI_inv hq
      refine ⟨this.1, ?_, ?_⟩
      · rw [this.2.1]
        simp [Nat.min_eq_left hn]
      · simp
        omega
    · simp at h
theorem uEnc_byte {n : Nat} (h : n ≤ 15) : uEnc n = [UInt8.ofNat n] := uEnc_small (by omega)
theorem dV_inv {l r : List UInt8} {b b2 : Bool} {v : Vid} (h : dV l b = (v, true, r, b2)) : b = false ∧ l = vEnc v ++ r ∧ b2 = false ∧ v.form = true := by
  unfold dV at h
  generalize hu : rU l b = u at h
  obtain ⟨n, l1, b1⟩ := u
  dsimp only at h
  generalize hi : rI 15 l1 b1 = i at h
  obtain ⟨p, l2, b2'⟩ := i
  dsimp only at h
  split at h
  · rename_i hh
    obtain ⟨rfl, hf⟩ := hh
    simp only [Prod.mk.injEq] at h
    obtain ⟨rfl, _, rfl, rfl⟩ := h
    obtain ⟨rfl, e1, hp⟩ := rI_inv hi
    obtain ⟨rfl, e2, _⟩ := rU_inv hu
    refine ⟨rfl, ?_, rfl, hf⟩
    rw [e2, e1, uEnc_byte hp]
    simp [vEnc]
  · simp at h
theorem dL_inv {l r : List UInt8} {b b2 : Bool} {x : Lab} (h : dL l b = (x, true, r, b2)) : b = false ∧ l = lEnc x ++ r ∧ b2 = false ∧ x.form = true := by
  unfold dL at h
  generalize hv : dV l b = v at h
  obtain ⟨vd, vo, l0, b0⟩ := v
  dsimp only at h
  generalize hu : rU l0 b0 = u at h
  obtain ⟨n, l1, b1⟩ := u
  dsimp only at h
  generalize hi : rI 15 l1 b1 = i at h
  obtain ⟨p, l2, b2'⟩ := i
  dsimp only at h
  split at h
  · rename_i hh
    obtain ⟨rfl, rfl, hf⟩ := hh
    simp only [Prod.mk.injEq] at h
    obtain ⟨rfl, _, rfl, rfl⟩ := h
    obtain ⟨rfl, e1, hp⟩ := rI_inv hi
    obtain ⟨rfl, e2, _⟩ := rU_inv hu
    obtain ⟨rfl, e3, _, _⟩ := dV_inv hv
    refine ⟨rfl, ?_, rfl, hf⟩
    rw [e3, e2, e1, uEnc_byte hp]
    simp [lEnc, Lab.vid]
  · simp at h
theorem eD_inv {l r : List UInt8} {b b2 : Bool} {x : Ent} (h : eD l b = (x, true, r, b2)) : b = false ∧ l = eEnc x ++ r ∧ b2 = false ∧ x.form = true := by
  unfold eD at h
  generalize hv : dL l b = v at h
  obtain ⟨vd, vo, l0, b0⟩ := v
  dsimp only at h
  generalize hu : rB 64 l0 b0 = u at h
  obtain ⟨n, l1, b1⟩ := u
  dsimp only at h
  simp only [Prod.mk.injEq, Bool.and_eq_true] at h
  obtain ⟨rfl, ⟨rfl, hb⟩, rfl, rfl⟩ := h
  simp at hb
  subst hb
  obtain ⟨rfl, e1, hm⟩ := rB_inv hu
  obtain ⟨rfl, e2, _, hf⟩ := dL_inv hv
  refine ⟨rfl, ?_, rfl, ?_⟩
  · rw [e2, e1]
    simp [eEnc]
  · simp [Ent.form, hf, hm]
theorem dEs_inv (n : Nat) : ∀ {l r : List UInt8} {b : Bool} {xs : List Ent}, dEs n l b = (xs, true, r, false) → b = false ∧ l = xs.flatMap eEnc ++ r ∧ xs.length = n := by
  induction n with
  | zero =>
    intro l r b xs h
    simp only [dEs, Prod.mk.injEq] at h
    obtain ⟨rfl, _, rfl, rfl⟩ := h
    simp
  | succ n ih =>
    intro l r b xs h
    rw [dEs] at h
    generalize hx : eD l b = x at h
    obtain ⟨x, xo, l', b'⟩ := x
    dsimp only at h
    cases xo with
    | false => simp at h
    | true =>
      simp only [if_true] at h
      generalize hq : dEs n l' b' = q at h
      obtain ⟨ys, yo, l2, b2⟩ := q
      simp only [Prod.mk.injEq] at h
      obtain ⟨rfl, rfl, rfl, rfl⟩ := h
      obtain ⟨rfl, e1, e2⟩ := ih hq
      obtain ⟨rfl, e3, _, _⟩ := eD_inv hx
      refine ⟨rfl, ?_, by simp [e2]⟩
      rw [e3, e1]
      simp
theorem dLs_inv (n : Nat) : ∀ {l r : List UInt8} {b : Bool} {xs : List Lab}, dLs n l b = (xs, true, r, false) → b = false ∧ l = xs.flatMap lEnc ++ r ∧ xs.length = n := by
  induction n with
  | zero =>
    intro l r b xs h
    simp only [dLs, Prod.mk.injEq] at h
    obtain ⟨rfl, _, rfl, rfl⟩ := h
    simp
  | succ n ih =>
    intro l r b xs h
    rw [dLs] at h
    generalize hx : dL l b = x at h
    obtain ⟨x, xo, l', b'⟩ := x
    dsimp only at h
    cases xo with
    | false => simp at h
    | true =>
      simp only [if_true] at h
      generalize hq : dLs n l' b' = q at h
      obtain ⟨ys, yo, l2, b2⟩ := q
      simp only [Prod.mk.injEq] at h
      obtain ⟨rfl, rfl, rfl, rfl⟩ := h
      obtain ⟨rfl, e1, e2⟩ := ih hq
      obtain ⟨rfl, e3, _, _⟩ := dL_inv hx
      refine ⟨rfl, ?_, by simp [e2]⟩
      rw [e3, e1]
      simp
theorem dEs_enc (xs : List Ent) (r : List UInt8) (h : ∀ x ∈ xs, x.l.ok ∧ x.form = true) : dEs xs.length (xs.flatMap eEnc ++ r) false = (xs, true, r, false) := by
  induction xs with
  | nil => simp [dEs]
  | cons x xs ih =>
    have hx := h x (List.mem_cons_self ..)
    have h1 := eD_enc hx.1 hx.2 (xs.flatMap eEnc ++ r)
    rw [List.length_cons, dEs, List.flatMap_cons, List.append_assoc, h1]
    simp only [if_true]
    rw [ih (fun y hy => h y (List.mem_cons_of_mem _ hy))]
theorem dLs_enc (xs : List Lab) (r : List UInt8) (h : ∀ x ∈ xs, x.ok ∧ x.form = true) : dLs xs.length (xs.flatMap lEnc ++ r) false = (xs, true, r, false) := by
  induction xs with
  | nil => simp [dLs]
  | cons x xs ih =>
    have hx := h x (List.mem_cons_self ..)
    have h1 := dL_enc hx.1 hx.2 (xs.flatMap lEnc ++ r)
    rw [List.length_cons, dLs, List.flatMap_cons, List.append_assoc, h1]
    simp only [if_true]
    rw [ih (fun y hy => h y (List.mem_cons_of_mem _ hy))]
theorem flat_ge {α : Type} {f : α → List UInt8} (l : List α) (h : ∀ x, 1 ≤ (f x).length) : l.length ≤ (l.flatMap f).length := by
  induction l with
  | nil => simp
  | cons x l ih =>
    have := h x
    simp only [List.length_cons, List.flatMap_cons, List.length_append]
    omega
theorem lEnc_pos (x : Lab) : 1 ≤ (lEnc x).length := by
  simp [lEnc]
  omega
theorem eEnc_pos (x : Ent) : 1 ≤ (eEnc x).length := by
  have := lEnc_pos x.l
  simp [eEnc]
  omega
/-- All of a summary is within bounds. -/
def Sum.ok (s : Sum) : Prop := (∀ x ∈ s.con, x.l.ok) ∧ (∀ x ∈ s.ord, x.ok) ∧ s.high.ok
/-- What is written of a right summary is told, as it was. -/
theorem dSum_enc {s : Sum} {r : List UInt8} (hs : s.ok) (hr : s.Right) (he : sEnc s = 2 :: r) (hm : r.length ≤ 1000000000) : dOk (r.length + 1) r ∧ dSum (r.length + 1) r = s := by
  obtain ⟨con, ord, next, high⟩ := s
  obtain ⟨r1, r2, r3, r4, r5, r6, r7⟩ := hr
  obtain ⟨k1, k2, k3⟩ := hs
  dsimp only at r1 r2 r3 r4 r5 r6 r7 k1 k2 k3
  obtain ⟨nx, rfl⟩ := Int.eq_ofNat_of_zero_le (a := next) (by omega)
  have er : r = uEnc con.length ++ (con.flatMap eEnc ++ (uEnc ord.length ++ (ord.flatMap lEnc ++ (uEnc nx ++ (vEnc high ++ []))))) := by
    have := he
    simp [sEnc] at this
    rw [← this]
    simp
  have g1 := flat_ge con eEnc_pos
  have g2 := flat_ge ord lEnc_pos
  have hl : r.length = (uEnc con.length).length + ((con.flatMap eEnc).length + ((uEnc ord.length).length + ((ord.flatMap lEnc).length + ((uEnc nx).length + (vEnc high).length)))) := by
    rw [er]
    simp
  have q1 := uEnc_pos con.length
  have h1 : dS1 (r.length + 1) r = (con, true, uEnc ord.length ++ (ord.flatMap lEnc ++ (uEnc nx ++ (vEnc high ++ []))), false) := by
    have := rI_enc (m := r.length + 1) (n := con.length) (by omega) (by omega) (con.flatMap eEnc ++ (uEnc ord.length ++ (ord.flatMap lEnc ++ (uEnc nx ++ (vEnc high ++ [])))))
    rw [← er] at this
    unfold dS1
    rw [this]
    exact dEs_enc con _ (fun x hx => ⟨k1 x hx, r1 x hx⟩)
  have h2 : dS2 (r.length + 1) r = (ord, true, uEnc nx ++ (vEnc high ++ []), false) := by
    unfold dS2
    rw [h1]
    dsimp only
    rw [rI_enc (m := r.length + 1) (n := ord.length) (by omega) (by omega)]
    exact dLs_enc ord _ (fun x hx => ⟨k2 x hx, r3 x hx⟩)
  have h3 : dS3 (r.length + 1) r = (nx, vEnc high ++ [], false) := by
    unfold dS3
    rw [h2]
    dsimp only
    rw [rI_enc (m := r.length + 1) (n := nx) (by omega) (by omega)]
  have h4 : dS4 (r.length + 1) r = (high, true, [], false) := by
    unfold dS4
    rw [h3]
    exact dV_enc k3 r7 []
  have h5 : dSum (r.length + 1) r = ⟨con, ord, nx, high⟩ := by
    unfold dSum
    rw [h1, h2, h3, h4]
  refine ⟨?_, h5⟩
  unfold dOk
  rw [h5, h2, h4]
  exact ⟨rfl, rfl, rfl, r1, r2, r3, r4, r5, r6, r7⟩
theorem dOk_parts {L : Nat} {r : List UInt8} (h : dOk L r) : ∃ n1 l1 es l2 n2 l2' ls l3 nx l4 v, rI L r false = (n1, l1, false) ∧ dEs n1 l1 false = (es, true, l2, false) ∧ rI L l2 false = (n2, l2', false) ∧ dLs n2 l2' false = (ls, true, l3, false) ∧ rI L l3 false = (nx, l4, false) ∧ dV l4 false = (v, true, [], false) ∧ dSum L r = ⟨es, ls, nx, v⟩ := by
  obtain ⟨h2o, h4o, h4l, _⟩ := h
  generalize e4 : dS4 L r = s4 at *
  obtain ⟨v, vo, l5, b5⟩ := s4
  dsimp only at h4o h4l
  subst h4o
  obtain rfl := List.eq_nil_of_length_eq_zero h4l
  have e4' := e4
  unfold dS4 at e4'
  obtain ⟨hb3, e5, rfl, _⟩ := dV_inv e4'
  generalize e3 : dS3 L r = s3 at *
  obtain ⟨nx, l4, b4⟩ := s3
  dsimp only at hb3 e5 e4'
  subst hb3
  have e3' := e3
  unfold dS3 at e3'
  obtain ⟨hb2, e6, _⟩ := rI_inv e3'
  generalize e2 : dS2 L r = s2 at *
  obtain ⟨ls, lo, l3, b3⟩ := s2
  dsimp only at hb2 e6 h2o e3'
  subst hb2 h2o
  have e2' := e2
  unfold dS2 at e2'
  generalize e1 : dS1 L r = s1 at *
  obtain ⟨es, eo, l2, b2⟩ := s1
  dsimp only at e2'
  cases eo with
  | false => simp [dLf] at e2'
  | true =>
    simp only [dLf, if_true] at e2'
    generalize ei : rI L l2 b2 = i2 at e2'
    obtain ⟨n2, l2', b2'⟩ := i2
    dsimp only at e2'
    obtain ⟨rfl, e7, e8⟩ := dLs_inv n2 e2'
    obtain ⟨rfl, e9, _⟩ := rI_inv ei
    have e1' := e1
    unfold dS1 at e1'
    generalize ej : rI L r false = i1 at e1'
    obtain ⟨n1, l1', b1'⟩ := i1
    dsimp only at e1'
    obtain ⟨rfl, e10, e11⟩ := dEs_inv n1 e1'
    refine ⟨n1, l1', es, l2, n2, l2', ls, l3, nx, l4, v, rfl, e1', ei, e2', e3', e4', ?_⟩
    unfold dSum
    rw [e1, e2, e3, e4]
/-- What is told of bytes is written as they are. -/
theorem dSum_inv {r : List UInt8} (h : dOk (r.length + 1) r) : sEnc (dSum (r.length + 1) r) = 2 :: r := by
  obtain ⟨n1, l1, es, l2, n2, l2', ls, l3, nx, l4, v, h1, h2, h3, h4, h5, h6, h7⟩ := dOk_parts h
  rw [h7]
  obtain ⟨_, e1, _⟩ := rI_inv h1
  obtain ⟨_, e2, f2⟩ := dEs_inv _ h2
  obtain ⟨_, e3, _⟩ := rI_inv h3
  obtain ⟨_, e4, f4⟩ := dLs_inv _ h4
  obtain ⟨_, e5, _⟩ := rI_inv h5
  obtain ⟨_, e6, _⟩ := dV_inv h6
  unfold sEnc
  dsimp only
  rw [f2, f4, e1, e2, e3, e4, e5, e6]
  simp
theorem rEs_ok (n : Nat) (P : List UInt8) (k : Nat) (b : Bool) : ∀ x ∈ (rEs n P k b).1, x.l.ok := by
  induction n generalizing k b with
  | zero => simp [rEs]
  | succ n ih =>
    rw [rEs]
    split
    · simp
    · intro x hx
      rcases List.mem_cons.1 hx with rfl | hx
      · exact rE_ok P k false
      · exact ih _ _ x hx
theorem rLs_ok (n : Nat) (P : List UInt8) (k : Nat) (b : Bool) : ∀ x ∈ (rLs n P k b).1, x.ok := by
  induction n generalizing k b with
  | zero => simp [rLs]
  | succ n ih =>
    rw [rLs]
    split
    · simp
    · intro x hx
      rcases List.mem_cons.1 hx with rfl | hx
      · exact rL_ok P k false
      · exact ih _ _ x hx
/-- Both tell the same of bytes that begin with 2. -/
theorem all_agree {r : List UInt8} (hm : r.length ≤ 1000000000) : (rOk (2 :: r) ↔ dOk (r.length + 1) r) ∧ (dOk (r.length + 1) r → rSum (2 :: r) = dSum (r.length + 1) r) := by
  have key : dOk (r.length + 1) r → rSum (2 :: r) = dSum (r.length + 1) r ∧ rAt (2 :: r) = (2 :: r).length := by
    intro h
    obtain ⟨n1, l1, es, l2, n2, l2', ls, l3, nx, l4, v, h1, h2, h3, h4, h5, h6, h7⟩ := dOk_parts h
    have s0 : Sim (2 :: r) 1 false r false := Sim.ok (by simp) (by simp)
    obtain ⟨a1, s1⟩ := sim_I (m := r.length + 1) s0
    rw [h1] at a1 s1
    obtain ⟨a2, _⟩ := sim_Es n1 s1 s1.1
    have a2 := a2 (by rw [h2])
    rw [h2] at a2
    have r1 : rS1 (2 :: r) = (es, (rS1 (2 :: r)).2) ∧ Sim (2 :: r) (rS1 (2 :: r)).2.1 (rS1 (2 :: r)).2.2 l2 false := by
      unfold rS1
      rw [List.length_cons, a1]
      exact ⟨Prod.ext a2.1 rfl, a2.2⟩
    obtain ⟨a3, s3⟩ := sim_I (m := r.length + 1) r1.2
    rw [h3] at a3 s3
    obtain ⟨a4, _⟩ := sim_Ls n2 s3 s3.1
    have a4 := a4 (by rw [h4])
    rw [h4] at a4
    have r2 : rS2 (2 :: r) = (ls, (rS2 (2 :: r)).2) ∧ Sim (2 :: r) (rS2 (2 :: r)).2.1 (rS2 (2 :: r)).2.2 l3 false := by
      unfold rS2
      rw [List.length_cons, a3]
      exact ⟨Prod.ext a4.1 rfl, a4.2⟩
    obtain ⟨a5, s5⟩ := sim_I (m := r.length + 1) r2.2
    rw [h5] at a5 s5
    have r3 : (rS3 (2 :: r)).1 = nx ∧ Sim (2 :: r) (rS3 (2 :: r)).2.1 (rS3 (2 :: r)).2.2 l4 false := by
      unfold rS3
      rw [List.length_cons]
      exact ⟨a5, s5⟩
    obtain ⟨a6, _⟩ := sim_V r3.2
    have a6 := a6 (by rw [h6])
    rw [h6] at a6
    have r4 : (rS4 (2 :: r)).1 = v ∧ Sim (2 :: r) (rS4 (2 :: r)).2.1 (rS4 (2 :: r)).2.2 [] false := a6
    refine ⟨?_, ?_⟩
    · rw [h7]
      unfold rSum
      rw [r3.1, r4.1]
      congr 1
      · exact congrArg Prod.fst r1.1
      · exact congrArg Prod.fst r2.1
    · obtain ⟨e1, e2⟩ := r4.2
      obtain ⟨e3, e4⟩ := e2 e1
      have : (2 :: r).length ≤ (rS4 (2 :: r)).2.1 := by
        have := congrArg List.length e4
        simp at this
        simp
        omega
      unfold rAt
      rw [if_neg (by rw [e1]; simp)]
      omega
  refine ⟨⟨fun h => ?_, fun h => ?_⟩, fun h => (key h).1⟩
  · refine (dSum_enc (s := rSum (2 :: r)) ⟨rEs_ok _ _ _ _, rLs_ok _ _ _ _, rV_ok _ _ _⟩ h.2.1 h.2.2 hm).1
  · obtain ⟨h1, h2⟩ := key h
    refine ⟨h2, ?_, ?_⟩
    · rw [h1]
      exact h.2.2.2
    · rw [h1]
      exact dSum_inv h
/-- Both tell the same of bytes that begin with 1. -/
theorem one_agree {r : List UInt8} : (rOneOk (1 :: r) ↔ (d1 r).2 = true) ∧ ((d1 r).2 = true → (rE (1 :: r) 1 false).1 = (d1 r).1) := by
  have key : (d1 r).2 = true → (rE (1 :: r) 1 false).1 = (d1 r).1 ∧ (rE (1 :: r) 1 false).2.2 = false ∧ (rE (1 :: r) 1 false).2.1 = (1 :: r).length ∧ eEnc (d1 r).1 = r := by
    intro h
    unfold d1 at h ⊢
    split at h
    · rename_i hh
      rw [if_pos hh]
      generalize hd : eD r false = d at hh
      obtain ⟨x, xo, l, b⟩ := d
      dsimp only at hh ⊢
      obtain ⟨rfl, hl⟩ := hh
      obtain rfl := List.eq_nil_of_length_eq_zero hl
      obtain ⟨_, e1, rfl, _⟩ := eD_inv hd
      have s0 : Sim (1 :: r) 1 false r false := Sim.ok (by simp) (by simp)
      obtain ⟨a, _⟩ := sim_E s0
      rw [hd] at a
      obtain ⟨a1, a2, a3⟩ := a rfl
      obtain ⟨e3, e4⟩ := a3 a2
      have : (1 :: r).length ≤ (rE (1 :: r) 1 false).2.1 := by
        have := congrArg List.length e4
        simp at this
        simp
        omega
      exact ⟨a1, a2, by omega, by rw [e1]; simp⟩
    · cases h
  refine ⟨⟨fun h => ?_, fun h => ?_⟩, fun h => (key h).1⟩
  · obtain ⟨h1, h2, h3⟩ := h
    have := d1_enc (x := (rE (1 :: r) 1 false).1) (rE_ok _ _ _) (rE_form _ _ _ h1)
    injection h3 with _ h3
    rw [h3] at this
    rw [this]
  · obtain ⟨h1, h2, h3, h4⟩ := key h
    exact ⟨h2, h3, by rw [h1, h4]⟩
end M
end Go.Proofs.Ytdgdiikijjlnnaa
