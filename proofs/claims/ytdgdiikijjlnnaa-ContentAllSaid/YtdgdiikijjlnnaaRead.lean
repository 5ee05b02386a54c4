/- The program's reader (package code), function by function: what each call does to the reader that it is given. -/
import Derived.Test.YtdgdiikijjlnnaaProg
import Derived.Test.YtdgdiikijjlnnaaMem
import Derived.Test.YtdgdiikijjlnnaaNum
import Derived.WalkKit
import Derived.Outline
import Derived.BigQuiet
import Derived.LoopTactic
import Derived.Deep.QuietTactic
import Derived.KernelRfl
namespace Go.Proofs.Ytdgdiikijjlnnaa
open Go.RowKit M

/-- A reader at block g: the bytes that are left, and whether there was a fault. -/
def Rdr (I : Nat → Prop) (W : World) (g : Nat) (l : List UInt8) (bad : Bool) : Prop :=
  ¬ I g ∧ l.length ≤ 140737488355328 ∧ ∃ A c, W.heap[g]? = some (.cells #[.slice A l.length c, .bool bad] 100 (0, 0)) ∧ l.length ≤ c ∧ Row kByte I W A l
theorem blk_cell {W : World} {g : Nat} {cs : Array Value} {t : TypeId} {fr : Nat × Nat} (h : W.heap[g]? = some (.cells cs t fr)) (j : Nat) : W.cell? ⟨g, j, none⟩ = cs[j]? := by simp [World.cell?, h]
theorem blk_free {W : World} {g : Nat} {cs : Array Value} {t : TypeId} (h : W.heap[g]? = some (.cells cs t (0, 0))) (j : Nat) : W.frozen? ⟨g, j, none⟩ = false := by simp [World.frozen?, h]
theorem blk_lt {W : World} {g : Nat} {o : Obj} (h : W.heap[g]? = some o) : g < W.heap.size := (Array.getElem?_eq_some_iff.1 h).1
theorem blk_set {W : World} {g : Nat} {cs : Array Value} {t : TypeId} {fr : Nat × Nat} (h : W.heap[g]? = some (.cells cs t fr)) (j : Nat) (v : Value) : (W.setCell ⟨g, j, none⟩ v).heap[g]? = some (.cells (cs.setIfInBounds j v) t fr) := by
  simp [World.setCell, Array.getElem?_modify, h]
theorem Rdr.step {I : Nat → Prop} {W W' : World} {g : Nat} {l : List UInt8} {bad : Bool} (h : Rdr I W g l bad) (hb : Below W.heap.size W W') : Rdr I W' g l bad := by
  obtain ⟨h1, h2, A, c, h3, h4, h5⟩ := h
  exact ⟨h1, h2, A, c, by rw [hb.block g (blk_lt h3)]; exact h3, h4, h5.below hb⟩
theorem Row.byte {I : Nat → Prop} {w : World} {A : Option Addr} {l : List UInt8} (h : Row kByte I w A l) (hn : l ≠ []) : ∃ b o, A = some ⟨b, o, none⟩ ∧ I b ∧ ∀ j, j < l.length → w.cell? ⟨b, o + j, none⟩ = some (.int .u8 (l[j]?.getD 0).toNat) := by
  obtain ⟨b, o, e, hb, hc⟩ := h.2 hn
  refine ⟨b, o, e, hb, fun j hj => ?_⟩
  obtain ⟨cs, hk, hcc⟩ := hc j _ (List.getElem?_eq_getElem hj)
  have := hcc 0 (.int .u8 (l[j]'hj).toNat) (by rw [show cs = _ from hk]; rfl)
  simpa [kByte, List.getElem?_eq_getElem hj] using this

set_option maxHeartbeats 400000 in
theorem reader_Bad {I : Nat → Prop} {g : Nat} {l : List UInt8} {bad : Bool} {w : World} (h : Rdr I w g l bad) :
    Calls Try.prog 64 #[.pointer (some ⟨g, 0, none⟩)] w fun e w' => e = .returned (.bool bad) ∧ w = w' := by
  obtain ⟨_, _, A, c, hb, _⟩ := h
  have h1 := blk_cell hb 1
  simp at h1
  go_enter Try.func64, Try.ntmps64
  go_wp2
  go_ret
  exact ⟨rfl, rfl⟩
set_option maxHeartbeats 400000 in
theorem reader_Left {I : Nat → Prop} {g : Nat} {l : List UInt8} {bad : Bool} {w : World} (h : Rdr I w g l bad) :
    Calls Try.prog 34 #[.pointer (some ⟨g, 0, none⟩)] w fun e w' => e = .returned (.int .i64 (if bad then 0 else l.length)) ∧ w = w' := by
  obtain ⟨_, _, A, c, hb, _⟩ := h
  have h1 := blk_cell hb 1
  have h0 := blk_cell hb 0
  simp at h1 h0
  cases bad
  all_goals
    go_enter Try.func34, Try.ntmps34
    go_wp2
    go_ret
    exact ⟨rfl, rfl⟩
set_option maxHeartbeats 400000 in
theorem reader_fail {I : Nat → Prop} {g : Nat} {l : List UInt8} {bad : Bool} {w : World} (h : Rdr I w g l bad) :
    Calls Try.prog 66 #[.pointer (some ⟨g, 0, none⟩)] w fun e w' => e = .returned (.tuple #[]) ∧ Rdr I w' g l true ∧ Mod (· = g) w w' := by
  obtain ⟨hI, hm, A, c, hb, hc, hr⟩ := h
  have h1 := blk_cell hb 1
  have h0 := blk_cell hb 0
  have f1 := blk_free hb 1
  simp at h1 h0
  have hM : Mod (· = g) w (w.setCell ⟨g, 1, none⟩ (.bool true)) := (Mod.refl (fun x => x = g) w).setCell (p := ⟨g, 1, none⟩) (.inl rfl) _
  have hR : Rdr I (w.setCell ⟨g, 1, none⟩ (.bool true)) g l true := ⟨hI, hm, A, c, by simpa using blk_set hb 1 (.bool true), hc, hr.step (hM.agr (fun k hk e => hI (e ▸ hk)))⟩
  go_enter Try.func66, Try.ntmps66
  go_wp2
  go_end0
  exact ⟨rfl, hR, hM⟩

/-- Behind the number's bytes. -/
theorem uint_ok {I : Nat → Prop} {g b o c k m : Nat} {l : List UInt8} {w : World} {e : Ending} (hI : ¬ I g) (hm : l.length ≤ 140737488355328) (hb : w.heap[g]? = some (.cells #[.slice (some ⟨b, o, none⟩) l.length c, .bool false] 100 (0, 0))) (hc : l.length ≤ c)
    (hr : Row kByte I w (some ⟨b, o, none⟩) l) (hk : k < l.length) (hk9 : k ≤ 9) (hm2 : m < 2 ^ (7 * k)) (hu : uGo 0 0 l = uGo k m (l.drop k)) (h128 : l[k].toNat < 128) (h9 : k = 9 → l[k].toNat ≤ 1) (h0 : 0 < k → l[k].toNat ≠ 0)
    (A : Option Addr) (c' : Nat) (hA : A = some ⟨b, o, none⟩ ∧ c = k + 1 ∨ A = some ⟨b, o + (k + 1), none⟩) (hc' : l.length - (k + 1) ≤ c') (he : e = .returned (.int .u64 (bits .or .u64 (m : Int) (IntKind.u64.wrap (IntKind.u64.wrap (bits .and .u8 (l[k].toNat : Int) 127) * 2 ^ (7 * k)))))) :
    e = .returned (.int .u64 (rU l false).1) ∧ Rdr I (w.setCell ⟨g, 0, none⟩ (.slice A (l.length - (k + 1)) c')) g (rU l false).2.1 (rU l false).2.2 ∧ Mod (· = g) w (w.setCell ⟨g, 0, none⟩ (.slice A (l.length - (k + 1)) c')) := by
  have hM : Mod (· = g) w (w.setCell ⟨g, 0, none⟩ (.slice A (l.length - (k + 1)) c')) := (Mod.refl (fun x => x = g) w).setCell (p := ⟨g, 0, none⟩) (.inl rfl) _
  have hg : uGo 0 0 l = some (m + l[k].toNat % 128 * 2 ^ (7 * k), l.drop (k + 1)) := by
    rw [hu, get_drop hk, uGo_last (by omega) h128]
  have hR : rU l false = (m + l[k].toNat % 128 * 2 ^ (7 * k), l.drop (k + 1), false) := by simp [rU, hg]
  rw [hR]
  refine ⟨by rw [he, uint_val hk9 hm2 h9], ⟨hI, by simp; omega, A, c', by simpa using blk_set hb 0 _, by simpa using hc', ?_⟩, hM⟩
  refine Row.step (hM.agr (fun j hj e => hI (e ▸ hj))) ?_
  rcases hA with ⟨rfl, hA⟩ | rfl
  · rw [List.drop_eq_nil_of_le (by omega)]
    exact Row.nil _ _ _ _
  · have := hr.drop (k + 1)
    simpa [kByte] using this
theorem uint_no {I : Nat → Prop} {g c : Nat} {A : Option Addr} {l : List UInt8} {w : World} {e : Ending} (hI : ¬ I g) (hm : l.length ≤ 140737488355328) (hb : w.heap[g]? = some (.cells #[.slice A l.length c, .bool false] 100 (0, 0))) (hc : l.length ≤ c)
    (hr : Row kByte I w A l) (hu : uGo 0 0 l = none) (he : e = .returned (.int .u64 0)) :
    e = .returned (.int .u64 (rU l false).1) ∧ Rdr I (w.setCell ⟨g, 1, none⟩ (.bool true)) g (rU l false).2.1 (rU l false).2.2 ∧ Mod (· = g) w (w.setCell ⟨g, 1, none⟩ (.bool true)) := by
  have hM : Mod (· = g) w (w.setCell ⟨g, 1, none⟩ (.bool true)) := (Mod.refl (fun x => x = g) w).setCell (p := ⟨g, 1, none⟩) (.inl rfl) _
  have hR : rU l false = (0, l, true) := by simp [rU, hu]
  rw [hR]
  exact ⟨he, ⟨hI, hm, A, c, by simpa using blk_set hb 1 _, hc, hr.step (hM.agr (fun j hj e => hI (e ▸ hj)))⟩, hM⟩
set_option maxRecDepth 100000 in
set_option maxHeartbeats 4000000 in
theorem reader_Uint {I : Nat → Prop} {g : Nat} {l : List UInt8} {w : World} (h : Rdr I w g l false) :
    Calls Try.prog 65 #[.pointer (some ⟨g, 0, none⟩)] w fun e w' => e = .returned (.int .u64 (rU l false).1) ∧ Rdr I w' g (rU l false).2.1 (rU l false).2.2 ∧ Mod (· = g) w w' := by
  obtain ⟨hI, hm, A, c, hb, hc, hr⟩ := h
  have h1 := blk_cell hb 1
  have h0 := blk_cell hb 0
  have f1 := blk_free hb 1
  have f0 := blk_free hb 0
  have HB := Lib.hid hb
  clear hb
  simp at h1 h0
  go_enter Try.func65, Try.ntmps65
  go_wp2
  go_loop [3, 19] (fun n i => ∃ k m : Nat, k ≤ l.length ∧ k ≤ 9 ∧ i = .int .i64 k ∧ n = .int .u64 m ∧ m < 2 ^ (7 * k) ∧ uGo 0 0 l = uGo k m (l.drop k)) (fun _ i => l.length - (intOf i).toNat)
  case atStart => exact ⟨0, 0, by omega, by omega, rfl, rfl, by simp, by simp⟩
  case round =>
    obtain ⟨k, m, hk, hk9, rfl, rfl, hm2, hu⟩ := hrel
    by_cases hlt : k < l.length
    · obtain ⟨b, o, rfl, hIb, hcell⟩ := Row.byte hr (by rintro rfl; simp at hlt)
      have hcl := hcell k hlt
      have HU := Lib.hid hu
      clear hcell hu
      have hb := l[k].toNat_lt
      have HR := Lib.hid hr
      clear hr
      by_cases hst : (k = 9 ∧ 1 < l[k].toNat) ∨ (0 < k ∧ l[k].toNat = 0)
      · have HS := Lib.hid hst
        have hno : uGo 0 0 l = none := by rw [HU.out, get_drop hlt, uGo_stop hst]
        have HN := Lib.hid hno
        clear hst hno
        go_wp2
        all_goals first
          | (go_ret; exact uint_no hI hm HB.out hc HR.out HN.out rfl)
          | (exfalso; have := HS.out; simp at *; omega)
      · have HS := Lib.hid hst
        clear hst
        have hz : k = 9 ∨ (k ≠ 9 ∧ 0 < k) ∨ k = 0 := by omega
        by_cases h128 : l[k].toNat < 128
        · by_cases hck : c = k + 1
          · rcases hz with h9 | ⟨h9, hk0⟩ | hk0
            · have hi9 : (k : Int) = 9 := by omega
              have hb1 : (l[k].toNat : Int) ≤ 1 := by have := HS.out; omega
              have hb0 : ((l[k].toNat : Int) == 0) = false := by have := HS.out; rw [beq_eq_false_iff_ne]; omega
              have hcl9 : w.cell? ⟨b, o + 9, none⟩ = some (.int .u8 (l[k]?.getD 0).toNat) := by rw [← h9]; exact hcl
              have H9 := Lib.hid h9
              clear h9
              go_wp2
              obtain rfl := H9.out
              go_ret
              exact uint_ok hI hm HB.out hc HR.out hlt hk9 hm2 HU.out h128 (by have := HS.out; omega) (by have := HS.out; omega) _ _ (.inl ⟨rfl, hck⟩) (by omega) rfl
            · have hi9 : ¬ (k : Int) = 9 := by omega
              have hb0 : ((l[k].toNat : Int) == 0) = false := by have := HS.out; rw [beq_eq_false_iff_ne]; omega
              go_wp2
              go_ret
              exact uint_ok hI hm HB.out hc HR.out hlt hk9 hm2 HU.out h128 (by have := HS.out; omega) (by have := HS.out; omega) _ _ (.inl ⟨rfl, hck⟩) (by omega) rfl
            · have hi9 : ¬ (k : Int) = 9 := by omega
              have hb0 : ¬ 0 < k := by omega
              have H0 := Lib.hid hk0
              clear hk0
              go_wp2
              go_ret
              exact uint_ok hI hm HB.out hc HR.out hlt hk9 hm2 HU.out h128 (by have := HS.out; omega) (by have := HS.out; omega) _ _ (.inl ⟨rfl, hck⟩) (by omega) rfl
          · rcases hz with h9 | ⟨h9, hk0⟩ | hk0
            · have hi9 : (k : Int) = 9 := by omega
              have hb1 : (l[k].toNat : Int) ≤ 1 := by have := HS.out; omega
              have hb0 : ((l[k].toNat : Int) == 0) = false := by have := HS.out; rw [beq_eq_false_iff_ne]; omega
              have hc9 : ¬ c = 10 := by omega
              have hcl9 : w.cell? ⟨b, o + 9, none⟩ = some (.int .u8 (l[k]?.getD 0).toNat) := by rw [← h9]; exact hcl
              have H9 := Lib.hid h9
              clear h9
              go_wp2
              obtain rfl := H9.out
              go_ret
              exact uint_ok hI hm HB.out hc HR.out hlt hk9 hm2 HU.out h128 (by have := HS.out; omega) (by have := HS.out; omega) _ _ (.inr rfl) (by omega) rfl
            · have hi9 : ¬ (k : Int) = 9 := by omega
              have hb0 : ((l[k].toNat : Int) == 0) = false := by have := HS.out; rw [beq_eq_false_iff_ne]; omega
              go_wp2
              go_ret
              exact uint_ok hI hm HB.out hc HR.out hlt hk9 hm2 HU.out h128 (by have := HS.out; omega) (by have := HS.out; omega) _ _ (.inr rfl) (by omega) rfl
            · have hi9 : ¬ (k : Int) = 9 := by omega
              have hb0 : ¬ 0 < k := by omega
              have H0 := Lib.hid hk0
              clear hk0
              go_wp2
              go_ret
              exact uint_ok hI hm HB.out hc HR.out hlt hk9 hm2 HU.out h128 (by have := HS.out; omega) (by have := HS.out; omega) _ _ (.inr rfl) (by omega) rfl
        · have h9 : k ≠ 9 := by have := HS.out; omega
          have hi9 : ¬ (k : Int) = 9 := by omega
          have hv := uint_val (m := m) (b := l[k]) hk9 hm2 (by omega)
          have HV := Lib.hid hv
          have hnx := uint_next (b := l[k]) hm2
          have HX := Lib.hid hnx
          clear hv hnx
          rcases hz with h9 | ⟨h9, hk0⟩ | hk0
          · omega
          · have hb0 : ((l[k].toNat : Int) == 0) = false := by have := HS.out; rw [beq_eq_false_iff_ne]; omega
            go_wp2
            go_round
            case rel => exact ⟨k + 1, m + l[k].toNat % 128 * 2 ^ (7 * k), by omega, by omega, by go_num, by rw [HV.out], HX.out, by rw [HU.out, get_drop hlt, uGo_next HS.out (by omega)]⟩
            case measure => simp [intOf]; omega
          · have hb0 : ¬ 0 < k := by omega
            have H0 := Lib.hid hk0
            clear hk0
            go_wp2
            go_round
            case rel => exact ⟨k + 1, m + l[k].toNat % 128 * 2 ^ (7 * k), by omega, by omega, by go_num, by rw [HV.out], HX.out, by rw [HU.out, get_drop hlt, uGo_next HS.out (by omega)]⟩
            case measure => simp [intOf]; omega
    · have hno : uGo 0 0 l = none := by rw [hu, List.drop_eq_nil_of_le (by omega), uGo_nil]
      have HN := Lib.hid hno
      clear hno hu
      go_wp2
      go_ret
      exact uint_no hI hm HB.out hc hr HN.out rfl
