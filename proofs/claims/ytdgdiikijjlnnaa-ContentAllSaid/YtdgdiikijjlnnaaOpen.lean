/- What comes in, read off the row's own reading ('DataW.trod'). -/
import Derived.Test.YtdgdiikijjlnnaaMem
import Derived.Test.YtdgdiikijjlnnaaRows
import Derived.Deep.Slices
import Derived.Lib.SmallJoins
import Derived.ProofKit
namespace Go.Proofs.Ytdgdiikijjlnnaa
open Go.RowKit Go.Joins M
/-- What reads as a datum of type t is of kind d. -/
def M.Opens {α : Type} (d : Kd α) (t : TypeId) : Prop :=
  ∀ {H : Type} {enc : TypeId × Value → H} {w : World} {spare : Nat → Bool} {held : Bool} {fuel : Nat} {cs : List Value} {x : DataW H × List MemPlace}, DataW.trod enc Try.prog w 0 spare held fuel t cs = some x → ∃ y, d.K (fun _ => True) w y cs
theorem wf_u8 {n : Int} (h : (Lit.int .u8 n).wf = true) : n = (UInt8.ofNat n.toNat).toNat := by
  have h2 : 0 ≤ n ∧ n < 256 := by
    have e1 : IntKind.u8.min = 0 := by decide
    have e2 : IntKind.u8.max = 255 := by decide
    simp [Lit.wf] at h
    omega
  obtain ⟨k, rfl⟩ := Int.eq_ofNat_of_zero_le h2.1
  simp
  omega
theorem open_u8 : Opens kByte 5 := by
  intro _ _ _ _ _ _ _ _ h
  obtain ⟨n, rfl, _, hw⟩ := DataW.trod_int Try.underlying5 h
  exact ⟨UInt8.ofNat n.toNat, by show _ = _; rw [← wf_u8 hw]⟩
theorem choose_list {α : Type} {R : Nat → α → Prop} : ∀ n : Nat, (∀ i, i < n → ∃ y, R i y) → ∃ ys : List α, ys.length = n ∧ ∀ i y, ys[i]? = some y → R i y
  | 0, _ => ⟨[], rfl, by simp⟩
  | n + 1, h => by
    obtain ⟨ys, hl, hy⟩ := choose_list n (fun i hi => h i (by omega))
    obtain ⟨y, hr⟩ := h n (by omega)
    refine ⟨ys ++ [y], by simp [hl], fun i z hz => ?_⟩
    by_cases hi : i < n
    · rw [List.getElem?_append_left (by omega)] at hz
      exact hy i z hz
    · have hi2 : i = n := by
        have := (List.getElem?_eq_some_iff.1 hz).1
        simp at this
        omega
      subst hi2
      rw [← hl] at hz
      simp at hz
      exact hz ▸ hr
theorem open_row {α : Type} {d : Kd α} {t e : TypeId} (hd : Opens d e) (ht : Try.prog.underlying t = some (.slice e)) (he : Try.prog.cellsOf e = d.sz) : Opens (kSlice d) t := by
  intro H enc w spare held fuel cs x h
  rcases Deep.open_slice ht h with ⟨rfl, _⟩ | ⟨a, len, cap, m, n, D, Pl, rfl, _, hlc, hm, hmm, _, hel⟩
  · exact ⟨[], _, rfl, SV.nil _ _ _⟩
  have hle : len ≤ m := by rw [hmm]; split <;> omega
  have h1 : ∀ i, i < len → ∃ y, ∃ cs, d.K (fun _ => True) w y cs ∧ ∀ j v, cs[j]? = some v → w.cell? ((a.add (i * d.sz)).add j) = some v := by
    intro i hi
    obtain ⟨cs', hcs, hy⟩ := hel i (by omega)
    obtain ⟨y, hk⟩ := hd hy
    obtain ⟨_, hcl, hcell⟩ := World.cells?_some hcs
    rw [he] at hcell hcl
    refine ⟨y, cs', hk, fun j v hv => ?_⟩
    rw [hcell j (by rw [← hcl]; exact (List.getElem?_eq_some_iff.1 hv).1), hv]
  obtain ⟨ys, hl, hy⟩ := choose_list len h1
  subst hl
  refine ⟨ys, _, rfl, some a, cap, rfl, hlc, by simp only [maxLen] at hm; omega, fun hn => ?_⟩
  obtain ⟨b, o, sp⟩ := a
  obtain ⟨y, r, rfl⟩ := List.exists_cons_of_ne_nil hn
  obtain ⟨cs0, hk0, hc0⟩ := hy 0 y rfl
  have hp := hc0 0 _ (List.getElem?_eq_getElem (by rw [d.len hk0]; exact d.pos))
  have hsp : sp = none := by
    have := World.cell?_spot hp
    cases sp with
    | none => rfl
    | some s => simp [Addr.add] at this
  subst hsp
  refine ⟨b, o, rfl, trivial, fun j y hy2 => ?_⟩
  obtain ⟨cs, hk, hc⟩ := hy j y hy2
  refine ⟨cs, hk, fun i v hv => ?_⟩
  have := hc i v hv
  rwa [Addr.add_add, Addr.add_lit] at this
theorem cells_u64 : Try.prog.cellsOf 22 = 1 := by kernel_rfl
theorem cells_int : Try.prog.cellsOf 3 = 1 := by kernel_rfl
theorem cells_byte : Try.prog.cellsOf 5 = 1 := by kernel_rfl
theorem cells_bytes : Try.prog.cellsOf 27 = 1 := by kernel_rfl
theorem cells_vid : Try.prog.cellsOf 24 = 2 := by kernel_rfl
theorem cells_lab : Try.prog.cellsOf 26 = 4 := by kernel_rfl
theorem cells_ent : Try.prog.cellsOf 29 = 5 := by kernel_rfl
theorem wf_u64 {n : Int} (h : (Lit.int .u64 n).wf = true) : 0 ≤ n ∧ n ≤ 18446744073709551615 := by
  have e1 : IntKind.u64.min = 0 := by decide
  have e2 : IntKind.u64.max = 18446744073709551615 := by decide
  simp [Lit.wf] at h
  omega
theorem wf_i64 {n : Int} (h : (Lit.int .i64 n).wf = true) : -9223372036854775808 ≤ n ∧ n ≤ 9223372036854775807 := by
  have e1 : IntKind.i64.min = -9223372036854775808 := by decide
  have e2 : IntKind.i64.max = 9223372036854775807 := by decide
  simp [Lit.wf] at h
  omega
theorem list2 {α : Type} {cs : List α} (h : cs.length = 2) : ∃ a b, cs = [a, b] := by
  match cs, h with
  | [a, b], _ => exact ⟨a, b, rfl⟩
theorem list4 {α : Type} {cs : List α} (h : cs.length = 4) : ∃ a b c d, cs = [a, b, c, d] := by
  match cs, h with
  | [a, b, c, d], _ => exact ⟨a, b, c, d, rfl⟩
theorem list5 {α : Type} {cs : List α} (h : cs.length = 5) : ∃ a b c d e, cs = [a, b, c, d, e] := by
  match cs, h with
  | [a, b, c, d, e], _ => exact ⟨a, b, c, d, e, rfl⟩
theorem open_vid {H : Type} {enc : TypeId × Value → H} {w : World} {spare : Nat → Bool} {held : Bool} {fuel : Nat} {cs : List Value} {x : DataW H × List MemPlace} (h : DataW.trod enc Try.prog w 0 spare held fuel 24 cs = some x) :
    ∃ y : Vid, y.ok ∧ cs = [.int .u64 y.n, .int .i64 y.p] := by
  obtain ⟨y0, y1, n, _, hl, h0, h1⟩ := ChangeShapes.trod_struct2 Try.underlying24 h
  rw [cells_vid] at hl
  obtain ⟨c0, c1, rfl⟩ := list2 hl
  simp only [cells_u64, cells_int, List.drop_zero, List.drop_succ_cons, List.take_succ_cons, List.take_zero] at h0 h1
  obtain ⟨a, e0, _, w0⟩ := DataW.trod_int Try.underlying22 h0
  obtain ⟨b, e1, _, w1⟩ := DataW.trod_int Try.underlying3 h1
  simp only [List.cons.injEq, and_true] at e0 e1
  subst e0 e1
  exact ⟨⟨a, b⟩, ⟨(wf_u64 w0).1, (wf_u64 w0).2, (wf_i64 w1).1, (wf_i64 w1).2⟩, rfl⟩
theorem open_lab : Opens kLab 26 := by
  intro H enc w spare held fuel cs x h
  obtain ⟨y0, y1, y2, n, _, hl, h0, h1, h2⟩ := Deep.trod_struct3 Try.underlying26 h
  rw [cells_lab] at hl
  obtain ⟨c0, c1, c2, c3, rfl⟩ := list4 hl
  simp only [cells_u64, cells_int, cells_vid, List.drop_zero, List.drop_succ_cons, List.take_succ_cons, List.take_zero] at h0 h1 h2
  obtain ⟨v, hv, e0⟩ := open_vid h0
  obtain ⟨a, e1, _, w1⟩ := DataW.trod_int Try.underlying22 h1
  obtain ⟨b, e2, _, w2⟩ := DataW.trod_int Try.underlying3 h2
  simp only [List.cons.injEq, and_true] at e0 e1 e2
  obtain ⟨rfl, rfl⟩ := e0
  subst e1 e2
  exact ⟨⟨v.n, v.p, a, b⟩, rfl, hv.1, hv.2.1, hv.2.2.1, hv.2.2.2, (wf_u64 w1).1, (wf_u64 w1).2, (wf_i64 w2).1, (wf_i64 w2).2⟩
theorem open_bytes : Opens (kSlice kByte) 27 := open_row open_u8 Try.underlying27 cells_byte
theorem open_ent : Opens kEnt 29 := by
  intro H enc w spare held fuel cs x h
  obtain ⟨y0, y1, n, _, hl, h0, h1⟩ := ChangeShapes.trod_struct2 Try.underlying29 h
  rw [cells_ent] at hl
  obtain ⟨c0, c1, c2, c3, c4, rfl⟩ := list5 hl
  simp only [cells_lab, cells_bytes, List.drop_zero, List.drop_succ_cons, List.take_succ_cons, List.take_zero] at h0 h1
  obtain ⟨l, e0, hok⟩ := open_lab h0
  obtain ⟨m, v, e1, hm⟩ := open_bytes h1
  simp only [Lab.cs, List.cons.injEq, and_true] at e0 e1
  obtain ⟨rfl, rfl, rfl, rfl⟩ := e0
  subst e1
  exact ⟨⟨l, m⟩, _, rfl, hok, hm⟩
