/- The references: are two rows, two summaries, one? -/
import Derived.Test.YtdgdiikijjlnnaaRefA
import Derived.Laws.BytesArg
import Derived.Deep.QuietTactic
import Derived.BigQuiet
namespace Go.Proofs.Ytdgdiikijjlnnaa
open Go.RowKit M
/-- The bytes of a string. -/
def M.str (l : List UInt8) : ByteArray := ⟨l.toArray⟩
theorem str_toList (l : List UInt8) : (str l).toList = l := by
  rw [ByteArray.toList_eq]
  rfl
theorem convert_str {I : Nat → Prop} {W : World} {A : Option Addr} {c : Nat} {l : List UInt8} (h : Row kByte I W A l) :
    (convert 27 9 (.slice A l.length c)).run Try.prog W = .ok (.string (str l)) W := by
  by_cases hn : l = []
  · subst hn
    cases A with
    | none => exact run_convert_bytes_nil W _ _ Try.underlying27 Try.underlying5 0 c _ Try.underlying9
    | some a =>
      obtain ⟨b, o, sp⟩ := a
      rw [run_convert_bytes_string W _ _ _ _ _ _ Try.underlying27 Try.underlying5 Try.underlying9, run_bytesToString W _ _ _ [] (by simpa using run_loadCells_list (P := Try.prog) W ⟨b, o, sp⟩ [] (by simp))]
      rfl
  · obtain ⟨b, o, rfl, _, hc⟩ := Row.byte h hn
    rw [run_convert_bytes_arg W _ _ Try.underlying27 Try.underlying5 b o l.length c (l.map fun x => (x.toNat : Int)) (by simp) (fun i hi => by rw [hc i hi]; simp [List.getD, List.getElem?_eq_getElem hi]) _ Try.underlying9]
    congr 2
    simp [strOfNums, str, Function.comp_def]
/-- Nothing has turned but that orders were drawn. -/
def M.Quiet (w w' : World) : Prop := ∃ n, w' = w.drewN n
theorem M.Quiet.refl (w : World) : Quiet w w := ⟨0, rfl⟩
theorem M.Quiet.drew {w w1 : World} (h : Quiet w w1) : Quiet w w1.drew := let ⟨n, e⟩ := h; ⟨n + 1, by rw [e]; rfl⟩
theorem M.Quiet.drewN {w w1 : World} (h : Quiet w w1) (m : Nat) : Quiet w (w1.drewN m) := let ⟨n, e⟩ := h; ⟨n + m, by rw [e, World.drewN_drewN]⟩
theorem M.Quiet.trans {w w1 w2 : World} (h : Quiet w w1) (k : Quiet w1 w2) : Quiet w w2 := let ⟨m, e⟩ := k; e ▸ h.drewN m
theorem M.Quiet.below {w w1 : World} (h : Quiet w w1) : Below w.heap.size w w1 := let ⟨_, e⟩ := h; e ▸ ⟨rfl, rfl, rfl, Nat.le_refl _, fun _ _ => rfl⟩
theorem M.Quiet.row {α : Type} {d : Kd α} {I : Nat → Prop} {A : Option Addr} {xs : List α} {w w1 : World} (h : Quiet w w1) (hr : Row d I w A xs) : Row d I w1 A xs := hr.below h.below
theorem below_drewN {B : Nat} {w w1 : World} (h : Below B w w1) (n : Nat) : Below B w (w1.drewN n) := ⟨h.os, h.tape, h.output, h.size, h.block⟩
/-- Labels compared. -/
theorem lab_neq (x y : Lab) (W : World) : (binOp .neq 26 (.agg #[.int .u64 x.n, .int .i64 x.p, .int .u64 x.s, .int .i64 x.q]) (.agg #[.int .u64 y.n, .int .i64 y.p, .int .u64 y.s, .int .i64 y.q])).run Try.prog W = .ok (.bool (decide (x ≠ y))) W := by
  obtain ⟨n, p, s, q⟩ := x
  obtain ⟨n', p', s', q'⟩ := y
  simp only [run_neq_struct]
  by_cases h1 : n = n' <;> by_cases h2 : p = p' <;> by_cases h3 : s = s' <;> by_cases h4 : q = q' <;> simp [go_sem, h1, h2, h3, h4]
theorem Row.lab {I : Nat → Prop} {w : World} {A : Option Addr} {xs : List Lab} (h : Row kLab I w A xs) (hn : xs ≠ []) : ∃ b o, A = some ⟨b, o, none⟩ ∧ I b ∧
    ∀ j x, xs[j]? = some x → x.ok ∧ w.cell? ⟨b, o + j * 4, none⟩ = some (.int .u64 x.n) ∧ w.cell? ⟨b, o + j * 4 + 1, none⟩ = some (.int .i64 x.p) ∧ w.cell? ⟨b, o + j * 4 + 2, none⟩ = some (.int .u64 x.s) ∧ w.cell? ⟨b, o + j * 4 + 3, none⟩ = some (.int .i64 x.q) := by
  obtain ⟨b, o, e, hb, hc⟩ := h.2 hn
  refine ⟨b, o, e, hb, fun j x hx => ?_⟩
  obtain ⟨cs, ⟨rfl, hok⟩, hcc⟩ := hc j x hx
  exact ⟨hok, hcc 0 _ rfl, hcc 1 _ rfl, hcc 2 _ rfl, hcc 3 _ rfl⟩
theorem same_next {α : Type} {xs ys : List α} {i : Nat} {x y : α} (hx : xs[i]? = some x) (hy : ys[i]? = some y) (h : ∀ j, j < i → xs[j]? = ys[j]?) (he : x = y) : ∀ j, j < i + 1 → xs[j]? = ys[j]? := by
  intro j hj
  by_cases e : j = i
  · rw [e, hx, hy, he]
  · exact h j (by omega)
theorem same_end {α : Type} {xs ys : List α} {i : Nat} (hl : xs.length = ys.length) (hi : xs.length ≤ i) (h : ∀ j, j < i → xs[j]? = ys[j]?) : xs = ys := by
  apply List.ext_getElem?
  intro j
  by_cases hj : j < i
  · exact h j hj
  · rw [List.getElem?_eq_none (by omega), List.getElem?_eq_none (by omega)]
set_option maxRecDepth 100000 in
set_option maxHeartbeats 2000000 in
theorem ref05_Same {I : Nat → Prop} {A B : Option Addr} {c d : Nat} {xs ys : List Lab} {w : World} (hx : Row kLab I w A xs) (hy : Row kLab I w B ys) :
    Calls Try.prog 25 #[.slice A xs.length c, .slice B ys.length d] w fun e w' => e = .returned (.bool (decide (xs = ys))) ∧ Quiet w w' := by
  by_cases hl : xs.length = ys.length
  · by_cases hn : xs.length = 0
    · have e1 := List.eq_nil_of_length_eq_zero hn
      have e2 := List.eq_nil_of_length_eq_zero (hl ▸ hn)
      subst e1
      subst e2
      clear hx hy hl hn
      go_enter Try.func25, Try.ntmps25
      go_wp2
      go_loopw [5] (fun x W => x = .int .i64 0 ∧ Quiet w W) (fun _ _ => 0)
      case atStart => exact ⟨rfl, Quiet.refl _⟩
      case round =>
        obtain ⟨rfl, hb⟩ := hrel
        go_wp2
        go_ret
        exact ⟨by simp, hb⟩
    · obtain ⟨b, o, rfl, _, hcx⟩ := Row.lab hx (by rintro rfl; simp at hn)
      obtain ⟨b', o', rfl, _, hcy⟩ := Row.lab hy (by rintro rfl; exact hn (by simpa using hl))
      have HX := Lib.hid hcx
      have HY := Lib.hid hcy
      have hlx := hx.1
      clear hx hy hcx hcy
      go_enter Try.func25, Try.ntmps25
      go_wp2
      go_loopw [5] (fun x W => ∃ i : Nat, x = .int .i64 i ∧ i ≤ xs.length ∧ (∀ j, j < i → xs[j]? = ys[j]?) ∧ Quiet w W) (fun x _ => (xs.length - intOf x).toNat)
      case atStart => exact ⟨0, rfl, by omega, by omega, Quiet.refl _⟩
      case round =>
        obtain ⟨i, rfl, hi, hsm, hb⟩ := hrel
        by_cases hlt : i < xs.length
        · have ex := List.getElem?_eq_getElem hlt
          have ey := List.getElem?_eq_getElem (l := ys) (i := i) (by omega)
          generalize xs[i] = x at ex
          generalize ys[i] = y at ey
          obtain ⟨_, x0, x1, x2, x3⟩ := HX.out i x ex
          obtain ⟨_, y0, y1, y2, y3⟩ := HY.out i y ey
          have x0 := pw_cell hb.below x0
          have x1 := pw_cell hb.below x1
          have x2 := pw_cell hb.below x2
          have x3 := pw_cell hb.below x3
          have y0 := pw_cell hb.below y0
          have y1 := pw_cell hb.below y1
          have y2 := pw_cell hb.below y2
          have y3 := pw_cell hb.below y3
          have HB := Lib.hid hb
          have HS := Lib.hid hsm
          have hly : i < ys.length := by omega
          clear hb hsm
          have hne := fun W => lab_neq x y W
          by_cases he : x = y
          · rw [decide_eq_false (fun h => h he)] at hne
            go_wp2_with fail
            go_region
            go_wp2
            go_roundw
            case rel => exact ⟨i + 1, by go_num, by omega, same_next ex ey HS.out he, HB.out.drew⟩
            case measure => simp [intOf]; omega
          · rw [decide_eq_true he] at hne
            go_wp2_with fail
            go_region
            go_wp2
            go_ret
            refine ⟨ret_bool ?_, HB.out.drew⟩
            rw [decide_eq_false]
            rintro rfl
            rw [ex] at ey
            exact he (Option.some.inj ey)
        · have hlt' : ¬ (i : Int) < xs.length := by omega
          go_wp2
          go_ret
          exact ⟨ret_bool (decide_eq_true (same_end hl (by omega) hsm)).symm, hb⟩
  · have hl' : ((xs.length : Int) != ys.length) = true := by simp; omega
    clear hx hy
    go_enter Try.func25, Try.ntmps25
    go_wp2
    go_ret
    exact ⟨ret_bool (decide_eq_false (fun e => hl (by rw [e]))).symm, Quiet.refl _⟩
theorem Row.ent {I : Nat → Prop} {w : World} {A : Option Addr} {xs : List Ent} (h : Row kEnt I w A xs) (hn : xs ≠ []) : ∃ b o, A = some ⟨b, o, none⟩ ∧ I b ∧
    ∀ j x, xs[j]? = some x → ∃ B c, x.l.ok ∧ w.cell? ⟨b, o + j * 5, none⟩ = some (.int .u64 x.l.n) ∧ w.cell? ⟨b, o + j * 5 + 1, none⟩ = some (.int .i64 x.l.p) ∧ w.cell? ⟨b, o + j * 5 + 2, none⟩ = some (.int .u64 x.l.s) ∧ w.cell? ⟨b, o + j * 5 + 3, none⟩ = some (.int .i64 x.l.q) ∧
      w.cell? ⟨b, o + j * 5 + 4, none⟩ = some (.slice B x.m.length c) ∧ x.m.length ≤ c ∧ Row kByte I w B x.m := by
  obtain ⟨b, o, e, hb, hc⟩ := h.2 hn
  refine ⟨b, o, e, hb, fun j x hx => ?_⟩
  obtain ⟨cs, ⟨v, rfl, hok, B, c, rfl, hcl, hr⟩, hcc⟩ := hc j x hx
  exact ⟨B, c, hok, hcc 0 _ rfl, hcc 1 _ rfl, hcc 2 _ rfl, hcc 3 _ rfl, hcc 4 _ rfl, hcl, hr⟩
set_option maxRecDepth 100000 in
set_option maxHeartbeats 4000000 in
theorem ref15_Same {I : Nat → Prop} {A B : Option Addr} {c d : Nat} {xs ys : List Ent} {w : World} (hx : Row kEnt I w A xs) (hy : Row kEnt I w B ys) :
    Calls Try.prog 39 #[.slice A xs.length c, .slice B ys.length d] w fun e w' => e = .returned (.bool (decide (xs = ys))) ∧ Quiet w w' := by
  by_cases hl : xs.length = ys.length
  · by_cases hn : xs.length = 0
    · have e1 := List.eq_nil_of_length_eq_zero hn
      have e2 := List.eq_nil_of_length_eq_zero (hl ▸ hn)
      subst e1
      subst e2
      clear hx hy hl hn
      go_enter Try.func39, Try.ntmps39
      go_wp2
      go_loopw [5] (fun x W => x = .int .i64 0 ∧ Quiet w W) (fun _ _ => 0)
      case atStart => exact ⟨rfl, Quiet.refl _⟩
      case round =>
        obtain ⟨rfl, hb⟩ := hrel
        go_wp2
        go_ret
        exact ⟨by simp, hb⟩
    · obtain ⟨b, o, rfl, _, hcx⟩ := Row.ent hx (by rintro rfl; simp at hn)
      obtain ⟨b', o', rfl, _, hcy⟩ := Row.ent hy (by rintro rfl; exact hn (by simpa using hl))
      have HX := Lib.hid hcx
      have HY := Lib.hid hcy
      have hlx := hx.1
      clear hx hy hcx hcy
      go_enter Try.func39, Try.ntmps39
      go_wp2
      go_loopw [5] (fun x W => ∃ i : Nat, x = .int .i64 i ∧ i ≤ xs.length ∧ (∀ j, j < i → xs[j]? = ys[j]?) ∧ Quiet w W) (fun x _ => (xs.length - intOf x).toNat)
      case atStart => exact ⟨0, rfl, by omega, by omega, Quiet.refl _⟩
      case round =>
        obtain ⟨i, rfl, hi, hsm, hb⟩ := hrel
        by_cases hlt : i < xs.length
        · have ex := List.getElem?_eq_getElem hlt
          have ey := List.getElem?_eq_getElem (l := ys) (i := i) (by omega)
          generalize xs[i] = x at ex
          generalize ys[i] = y at ey
          obtain ⟨X, cx, _, x0, x1, x2, x3, x4, _, hrx⟩ := HX.out i x ex
          obtain ⟨Y, cy, _, y0, y1, y2, y3, y4, _, hry⟩ := HY.out i y ey
          have x0 := pw_cell hb.below x0
          have x1 := pw_cell hb.below x1
          have x2 := pw_cell hb.below x2
          have x3 := pw_cell hb.below x3
          have x4 := pw_cell hb.below x4
          have y0 := pw_cell hb.below y0
          have y1 := pw_cell hb.below y1
          have y2 := pw_cell hb.below y2
          have y3 := pw_cell hb.below y3
          have y4 := pw_cell hb.below y4
          have hcx := fun n => convert_str (c := cx) (hrx.below (below_drewN hb.below n))
          have hcy := fun n => convert_str (c := cy) (hry.below (below_drewN hb.below n))
          have HB := Lib.hid hb
          have HS := Lib.hid hsm
          have hly : i < ys.length := by omega
          have hst := str_toList
          have hne := fun W => lab_neq x.l y.l W
          obtain ⟨xl, xm⟩ := x
          obtain ⟨yl, ym⟩ := y
          dsimp only at *
          clear hb hsm hrx hry
          by_cases he : xl = yl
          · rw [decide_eq_false (fun h => h he)] at hne
            by_cases hm : xm = ym
            · have hxy := same_next ex ey HS.out (by rw [he, hm])
              subst hm
              have hm' : (xm == xm) = true := by simp
              go_wp2_with fail
              go_quiet (fail)
              go_wp2
              go_roundw
              case rel => exact ⟨i + 1, by go_num, by omega, hxy, HB.out.drewN _⟩
              case measure => simp [intOf]; omega
            · have hm' : (xm == ym) = false := by simp [hm]
              go_wp2_with fail
              go_quiet (fail)
              go_wp2
              go_ret
              refine ⟨ret_bool ?_, HB.out.drewN _⟩
              rw [decide_eq_false]
              rintro rfl
              rw [ex] at ey
              simp at ey
              exact hm ey.2
          · rw [decide_eq_true he] at hne
            go_wp2_with fail
            go_quiet (fail)
            go_wp2
            go_ret
            refine ⟨ret_bool ?_, HB.out.drewN _⟩
            rw [decide_eq_false]
            rintro rfl
            rw [ex] at ey
            simp at ey
            exact he ey.1
        · have hlt' : ¬ (i : Int) < xs.length := by omega
          go_wp2
          go_ret
          exact ⟨ret_bool (decide_eq_true (same_end hl (by omega) hsm)).symm, hb⟩
  · have hl' : ((xs.length : Int) != ys.length) = true := by simp; omega
    clear hx hy
    go_enter Try.func39, Try.ntmps39
    go_wp2
    go_ret
    exact ⟨ret_bool (decide_eq_false (fun e => hl (by rw [e]))).symm, Quiet.refl _⟩
