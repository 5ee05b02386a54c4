/- Plain law: the program's readers and the references' agree. -/
import Derived.Test.YtdgdiikijjlnnaaDec2
import Derived.Test.YtdgdiikijjlnnaaRdone
import Derived.Test.YtdgdiikijjlnnaaPlain1
namespace Go.Proofs.Ytdgdiikijjlnnaa
open Go.RowKit M
namespace M
/-- The reference's reader stands where the program's stands. -/
def Sim (P : List UInt8) (k : Nat) (b : Bool) (l : List UInt8) (b' : Bool) : Prop := b = b' ∧ (b = false → k ≤ P.length ∧ l = P.drop k)
theorem Sim.bad (P : List UInt8) (k : Nat) (l : List UInt8) : Sim P k true l true := ⟨rfl, fun h => by cases h⟩
theorem Sim.ok {P : List UInt8} {k : Nat} {l : List UInt8} (hk : k ≤ P.length) (hl : l = P.drop k) : Sim P k false l false := ⟨rfl, fun _ => ⟨hk, hl⟩⟩
theorem sim_U {P : List UInt8} {k : Nat} {b : Bool} {l : List UInt8} {b' : Bool} (h : Sim P k b l b') : (rRU P k b).1 = (rU l b').1 ∧ Sim P (rRU P k b).2.1 (rRU P k b).2.2 (rU l b').2.1 (rU l b').2.2 := by
  obtain ⟨rfl, h2⟩ := h
  cases b with
  | true => exact ⟨by simp [rRU, rU], by simp [rRU, rU]; exact Sim.bad _ _ _⟩
  | false =>
    obtain ⟨hk, rfl⟩ := h2 rfl
    unfold rRU
    simp only [Bool.false_eq_true, if_false]
    cases hr : rg1 (P.drop k) with
    | none =>
      have h1 := rg1_none hr
      have h0 : (rU (P.drop k) false).1 = 0 := by
        unfold rU at h1 ⊢
        simp only [Bool.false_eq_true, if_false] at h1 ⊢
        split at h1
        · cases h1
        · rfl
      dsimp only
      refine ⟨h0.symm, ?_⟩
      rw [h1]
      exact Sim.bad _ _ _
    | some x =>
      obtain ⟨n, j⟩ := x
      have h1 := rg1_ok hr
      dsimp only
      rw [h1]
      refine ⟨rfl, Sim.ok ?_ (by simp)⟩
      have : j ≤ (P.drop k).length := by
        unfold rg1 at hr
        split at hr
        · rename_i e
          split at hr
          · simp only [Option.some.injEq, Prod.mk.injEq] at hr
            have := (rg_lt e).2.1
            omega
          · cases hr
        · cases hr
      simp at this
      omega
theorem sim_I {m : Nat} {P : List UInt8} {k : Nat} {b : Bool} {l : List UInt8} {b' : Bool} (h : Sim P k b l b') : (rRI m P k b).1 = (rI m l b').1 ∧ Sim P (rRI m P k b).2.1 (rRI m P k b).2.2 (rI m l b').2.1 (rI m l b').2.2 := by
  obtain ⟨h1, h2⟩ := sim_U h
  generalize hd : rU l b' = d at *
  generalize hq : rRU P k b = q at *
  obtain ⟨n, l1, b1⟩ := d
  obtain ⟨n', k1, b1'⟩ := q
  dsimp only at h1 h2
  subst h1
  obtain ⟨rfl, h3⟩ := h2
  unfold rRI rI
  rw [hq, hd]
  cases b1' with
  | true => exact ⟨by simp, by simp; exact Sim.bad _ _ _⟩
  | false =>
    obtain ⟨hk, rfl⟩ := h3 rfl
    by_cases hn : n' ≤ m
    · simp only [Bool.false_eq_true, false_or, if_false, if_pos hn, if_neg (Nat.not_lt.2 hn)]
      exact ⟨trivial, Sim.ok hk rfl⟩
    · simp only [Bool.false_eq_true, false_or, if_false, if_neg hn, if_pos (Nat.lt_of_not_le hn)]
      exact ⟨trivial, Sim.bad _ _ _⟩
theorem sim_B {m : Nat} {P : List UInt8} {k : Nat} {b : Bool} {l : List UInt8} {b' : Bool} (h : Sim P k b l b') : (rRB m P k b).1 = (rB m l b').1 ∧ Sim P (rRB m P k b).2.1 (rRB m P k b).2.2 (rB m l b').2.1 (rB m l b').2.2 := by
  obtain ⟨h1, h2⟩ := sim_I (m := m) h
  generalize hd : rI m l b' = d at *
  generalize hq : rRI m P k b = q at *
  obtain ⟨n, l1, b1⟩ := d
  obtain ⟨n', k1, b1'⟩ := q
  dsimp only at h1 h2
  subst h1
  obtain ⟨rfl, h3⟩ := h2
  unfold rRB rB
  rw [hq, hd]
  cases b1' with
  | true => exact ⟨by simp, by simp; exact Sim.bad _ _ _⟩
  | false =>
    obtain ⟨hk, rfl⟩ := h3 rfl
    have hl : (P.drop k1).length = P.length - k1 := by simp
    by_cases hn : n' ≤ P.length - k1
    · simp only [Bool.false_eq_true, false_or, if_false, hl, if_pos hn, if_neg (Nat.not_lt.2 hn)]
      exact ⟨trivial, Sim.ok (by omega) (by simp)⟩
    · simp only [Bool.false_eq_true, false_or, if_false, hl, if_neg hn, if_pos (Nat.lt_of_not_le hn)]
      exact ⟨trivial, Sim.bad _ _ _⟩
theorem rV_bad (P : List UInt8) (k : Nat) : (rV P k true).2.2 = true := by
  simp [rV, rRI, rRU]
theorem rL_bad (P : List UInt8) (k : Nat) (b : Bool) (h : (rV P k b).2.2 = true) : (rL P k b).2.2 = true := by
  unfold rL
  rw [h]
  simp [rRI, rRU]
theorem sim_V {P : List UInt8} {k : Nat} {b : Bool} {l : List UInt8} {b' : Bool} (h : Sim P k b l b') :
    ((dV l b').2.1 = true → (rV P k b).1 = (dV l b').1 ∧ Sim P (rV P k b).2.1 (rV P k b).2.2 (dV l b').2.2.1 (dV l b').2.2.2) ∧ ((dV l b').2.1 = false → (rV P k b).2.2 = true) := by
  obtain ⟨h1, h2⟩ := sim_U h
  obtain ⟨h3, h4⟩ := sim_I (m := 15) h2
  unfold dV rV
  rw [h1, h3]
  generalize rI 15 (rU l b').2.1 (rU l b').2.2 = d at *
  generalize rRI 15 P (rRU P k b).2.1 (rRU P k b).2.2 = q at *
  obtain ⟨n, l1, b1⟩ := d
  obtain ⟨n', k1, b1'⟩ := q
  dsimp only at h3 h4 ⊢
  obtain ⟨rfl, h5⟩ := h4
  generalize Vid.form ⟨((rU l b').1 : Int), (n : Int)⟩ = f
  cases b1' with
  | true => simp
  | false =>
    cases f with
    | false => simp
    | true =>
      obtain ⟨hk, rfl⟩ := h5 rfl
      simp only [and_self, if_true, Bool.false_eq_true, false_or, if_false, Bool.true_eq_false]
      exact ⟨fun _ => ⟨trivial, Sim.ok hk rfl⟩, fun hh => by simp at hh⟩
theorem sim_L {P : List UInt8} {k : Nat} {b : Bool} {l : List UInt8} {b' : Bool} (h : Sim P k b l b') :
    ((dL l b').2.1 = true → (rL P k b).1 = (dL l b').1 ∧ Sim P (rL P k b).2.1 (rL P k b).2.2 (dL l b').2.2.1 (dL l b').2.2.2) ∧ ((dL l b').2.1 = false → (rL P k b).2.2 = true) := by
  obtain ⟨hv1, hv2⟩ := sim_V h
  cases hvo : (dV l b').2.1 with
  | false =>
    have h1 := rL_bad P k b (hv2 hvo)
    refine ⟨fun hh => ?_, fun _ => h1⟩
    unfold dL at hh
    rw [hvo] at hh
    simp at hh
  | true =>
    obtain ⟨h0, hs⟩ := hv1 hvo
    obtain ⟨h1, h2⟩ := sim_U hs
    obtain ⟨h3, h4⟩ := sim_I (m := 15) h2
    unfold dL rL
    rw [h0, h1, h3, hvo]
    generalize rI 15 (rU (dV l b').2.2.1 (dV l b').2.2.2).2.1 (rU (dV l b').2.2.1 (dV l b').2.2.2).2.2 = d at *
    generalize rRI 15 P (rRU P (rV P k b).2.1 (rV P k b).2.2).2.1 (rRU P (rV P k b).2.1 (rV P k b).2.2).2.2 = q at *
    obtain ⟨n, l1, b1⟩ := d
    obtain ⟨n', k1, b1'⟩ := q
    dsimp only at h3 h4 ⊢
    obtain ⟨rfl, h5⟩ := h4
    generalize Lab.form _ = f
    cases b1' with
    | true => simp
    | false =>
      cases f with
      | false => simp
      | true =>
        obtain ⟨hk, rfl⟩ := h5 rfl
        simp only [and_self, if_true, Bool.false_eq_true, false_or, if_false, Bool.true_eq_false]
        exact ⟨fun _ => ⟨trivial, Sim.ok hk rfl⟩, fun hh => by simp at hh⟩
theorem sim_E {P : List UInt8} {k : Nat} {b : Bool} {l : List UInt8} {b' : Bool} (h : Sim P k b l b') :
    ((eD l b').2.1 = true → (rE P k b).1 = (eD l b').1 ∧ Sim P (rE P k b).2.1 (rE P k b).2.2 (eD l b').2.2.1 (eD l b').2.2.2) ∧ ((eD l b').2.1 = false → (rE P k b).2.2 = true) := by
  obtain ⟨hl1, hl2⟩ := sim_L h
  cases hlo : (dL l b').2.1 with
  | false =>
    have h1 := hl2 hlo
    refine ⟨fun hh => ?_, fun _ => ?_⟩
    · unfold eD at hh
      rw [hlo] at hh
      simp at hh
    · unfold rE
      dsimp only
      rw [h1]
      exact rRB_bad _ _ _
  | true =>
    obtain ⟨h0, hs⟩ := hl1 hlo
    obtain ⟨h1, h2⟩ := sim_B (m := 64) hs
    unfold eD rE
    dsimp only
    rw [h0, h1, hlo]
    generalize rB 64 (dL l b').2.2.1 (dL l b').2.2.2 = d at *
    generalize rRB 64 P (rL P k b).2.1 (rL P k b).2.2 = q at *
    obtain ⟨n, l1, b1⟩ := d
    obtain ⟨n', k1, b1'⟩ := q
    dsimp only at h2 ⊢
    obtain ⟨rfl, h5⟩ := h2
    cases b1' with
    | true => simp
    | false =>
      obtain ⟨hk, rfl⟩ := h5 rfl
      exact ⟨fun _ => ⟨rfl, Sim.ok hk rfl⟩, fun hh => by simp at hh⟩
theorem sim_Es {P : List UInt8} (n : Nat) : ∀ {k : Nat} {b : Bool} {l : List UInt8} {b' : Bool}, Sim P k b l b' → b = false →
    ((dEs n l b').2.1 = true → (rEs n P k b).1 = (dEs n l b').1 ∧ Sim P (rEs n P k b).2.1 (rEs n P k b).2.2 (dEs n l b').2.2.1 (dEs n l b').2.2.2) ∧ ((dEs n l b').2.1 = false → (rEs n P k b).2.2 = true) := by
  induction n with
  | zero =>
    intro k b l b' h hb
    exact ⟨fun _ => ⟨rfl, h⟩, fun hh => by simp [dEs] at hh⟩
  | succ n ih =>
    intro k b l b' h hb
    subst hb
    obtain ⟨h1, h2⟩ := sim_E h
    rw [dEs, rEs]
    simp only [Bool.false_eq_true, if_false]
    cases heo : (eD l b').2.1 with
    | false =>
      have h3 := h2 heo
      simp only [Bool.false_eq_true, if_false]
      refine ⟨fun hh => (by cases hh), fun _ => ?_⟩
      rw [h3, rEs_bad]
    | true =>
      obtain ⟨h3, h4⟩ := h1 heo
      have hg : (eD l b').2.2.2 = false := by
        have : (eD l b').2.1 = true → (eD l b').2.2.2 = false := by
          unfold eD
          simp
        exact this heo
      have hb2 : (rE P k false).2.2 = false := h4.1.trans hg
      have h5 := ih h4 hb2
      simp only [if_true]
      rw [h3]
      exact ⟨fun hh => ⟨by rw [(h5.1 hh).1], (h5.1 hh).2⟩, h5.2⟩
theorem dL_good (l : List UInt8) (b : Bool) : (dL l b).2.1 = true → (dL l b).2.2.2 = false := by
  unfold dL
  split
  · rename_i hh
    exact fun _ => hh.2.1
  · intro hh
    cases hh
theorem sim_Ls {P : List UInt8} (n : Nat) : ∀ {k : Nat} {b : Bool} {l : List UInt8} {b' : Bool}, Sim P k b l b' → b = false →
    ((dLs n l b').2.1 = true → (rLs n P k b).1 = (dLs n l b').1 ∧ Sim P (rLs n P k b).2.1 (rLs n P k b).2.2 (dLs n l b').2.2.1 (dLs n l b').2.2.2) ∧ ((dLs n l b').2.1 = false → (rLs n P k b).2.2 = true) := by
  induction n with
  | zero =>
    intro k b l b' h hb
    exact ⟨fun _ => ⟨rfl, h⟩, fun hh => by simp [dLs] at hh⟩
  | succ n ih =>
    intro k b l b' h hb
    subst hb
    obtain ⟨h1, h2⟩ := sim_L h
    rw [dLs, rLs]
    simp only [Bool.false_eq_true, if_false]
    cases heo : (dL l b').2.1 with
    | false =>
      have h3 := h2 heo
      simp only [Bool.false_eq_true, if_false]
      refine ⟨fun hh => (by cases hh), fun _ => ?_⟩
      rw [h3, rLs_bad]
    | true =>
      obtain ⟨h3, h4⟩ := h1 heo
      have hg := dL_good l b' heo
      have hb2 : (rL P k false).2.2 = false := h4.1.trans hg
      have h5 := ih h4 hb2
      simp only [if_true]
      rw [h3]
      exact ⟨fun hh => ⟨by rw [(h5.1 hh).1], (h5.1 hh).2⟩, h5.2⟩
end M
end Go.Proofs.Ytdgdiikijjlnnaa
