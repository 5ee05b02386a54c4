/- slices.Values and slices.Collect over a row of labels. -/
import Derived.RangeFuncNested
import Derived.RangeFuncBound
import Derived.RangeFuncCalls
import Derived.RangeFuncLeaves
import Derived.Shelf.Abstract
import Derived.WalkKit
import Derived.OwnWalkIn
import Derived.TacticsInMore
import Derived.LoopNIn
import Derived.LoopIn
import Derived.Maps.AppendAt
import Derived.Test.YtdgdiikijjlnnaaRright
namespace Go.Proofs.Ytdgdiikijjlnnaa
open Go.RowKit Go.Shelf M
attribute [local go_sem] Oper.semAt_some
namespace M
/-- A label within its bounds. -/
abbrev LabOk := { x : Lab // x.ok }
def LabOk.enc (x : LabOk) : Array Value := #[.agg #[.int .u64 x.1.n, .int .i64 x.1.p, .int .u64 x.1.s, .int .i64 x.1.q]]
def LabOk.cells (xs : List LabOk) : List Value := xs.flatMap (fun x => x.1.cs)
end M
theorem take_next {α : Type} {xs : List α} {k : Nat} {x : α} (hx : xs[k]? = some x) : xs.take (k + 1) = xs.take k ++ [x] := by
  rw [List.take_add_one, hx]
  rfl
set_option maxRecDepth 100000 in
set_option maxHeartbeats 2000000 in
theorem vals1 (F : Fence) (n : Nat) (h91 : F.fn 91) (hro : F.round = none) (hn : 1 ≤ n) (l Bs n₀ b off cap : Nat) (xs : List LabOk) (hreach : xs.length ≤ 1000000) (hb : b < n₀) (J Jx : List LabOk → World → Prop) (B0 : Nat) (hJ : AbidesFrom B0 J)
    (hY : ∀ pre x W, J pre W → pre.length < xs.length → YieldAt F (n - 1) Try.prog l (LabOk.enc x) W fun e W' =>
      (e = .returned (.bool true) ∧ J (pre ++ [x]) W' ∧ Below n₀ W W') ∨ (e = .returned (.bool false) ∧ Jx (pre ++ [x]) W'))
    (W : World) (hn0 : n₀ ≤ W.heap.size) (hBs : W.cell? ⟨Bs, 0, none⟩ = some (.slice (some ⟨b, off, none⟩) xs.length cap))
    (hc : ∀ j x, xs[j]? = some x → W.cell? ⟨b, off + j * 4, none⟩ = some (.int .u64 x.1.n) ∧ W.cell? ⟨b, off + j * 4 + 1, none⟩ = some (.int .i64 x.1.p) ∧ W.cell? ⟨b, off + j * 4 + 2, none⟩ = some (.int .u64 x.1.s) ∧ W.cell? ⟨b, off + j * 4 + 3, none⟩ = some (.int .i64 x.1.q)) (h0 : J [] W) :
    CallsIn F n Try.prog 91 #[.func (.yield l) #[] #[], .pointer (some ⟨Bs, 0, none⟩)] W fun e W' => (∃ v, e = .returned v) ∧
      ((∃ ys, ys = xs ∧ J ys W') ∨ (∃ pre, pre <+: xs ∧ Jx pre W')) := by
  have HC := Lib.hid hc
  have HY := Lib.hid hY
  clear hc hY
  refine callsIn_of_wp Try.func91 rfl h91 ?_ hro
  simp only [Try.ntmps91, List.size_toArray, List.length_cons, List.length_nil, Nat.reduceAdd, Nat.reduceSub, Array.replicate_succ, Array.replicate_zero, List.push_toArray, List.append_toArray, List.nil_append, List.cons_append]
  gi_wp2
  gi_loopw [7] (fun i wr => ∃ k : Nat, k ≤ xs.length ∧ i = .int .i64 k ∧ J (xs.take k) wr ∧ Below n₀ W wr ∧ n₀ ≤ wr.heap.size)
    (fun i _ => xs.length - (intOf i).toNat)
  case atStart => exact ⟨0, Nat.zero_le _, rfl, h0, Below.refl _ _, hn0⟩
  case round =>
    obtain ⟨k, hk, rfl, hJs, hnx, hns⟩ := hrel
    have HJS := Lib.hid hJs
    have HNX := Lib.hid hnx
    clear hJs hnx
    by_cases hlt : k < xs.length
    · have ex := List.getElem?_eq_getElem hlt
      generalize xs[k] = x at ex
      obtain ⟨x0, x1, x2, x3⟩ := HC.out k x ex
      have x0 := (HNX.out.cell (p := ⟨b, off + k * 4, none⟩) hb).trans x0
      have x1 := (HNX.out.cell (p := ⟨b, off + k * 4 + 1, none⟩) hb).trans x1
      have x2 := (HNX.out.cell (p := ⟨b, off + k * 4 + 2, none⟩) hb).trans x2
      have x3 := (HNX.out.cell (p := ⟨b, off + k * 4 + 3, none⟩) hb).trans x3
      have HEX := Lib.hid (take_next ex)
      clear ex
      obtain ⟨fn, tmps, assign, body, hy, hR⟩ := HY.out (xs.take k) x (wr.alloc (.cells #[.int .u64 x.1.n, .int .i64 x.1.p, .int .u64 x.1.s, .int .i64 x.1.q] 26)) (hJ _ _ _ none HJS.out (World.grownBy_alloc _ _ none) (fun r e => by cases e)) (by simp; omega)
      unfold LabOk.enc at hy
      gi_wp2
      refine hR.mono ?_
      rintro e W3 (⟨rfl, hJ3, hk3⟩ | ⟨rfl, hJx3⟩)
      · have hns3 := hk3.size
        gi_wp2
        go_roundw
        case rel => exact ⟨k + 1, by omega, by go_num, by rw [HEX.out]; exact hJ3, HNX.out.trans (((Below.refl n₀ wr).alloc hns _).trans hk3), by simp at hns3; omega⟩
        case measure => simp [intOf]; omega
      · gi_wp2
        refine bodyPost_ret (results_none rfl _ _ _) rfl ?_
        exact ⟨⟨_, rfl⟩, .inr ⟨_, by rw [← HEX.out]; exact List.take_prefix _ _, hJx3⟩⟩
    · obtain rfl : k = xs.length := by omega
      have hJ4 := HJS.out
      rw [List.take_length] at hJ4
      have HJ4 := Lib.hid hJ4
      clear hJ4
      gi_wp2
      go_end0
      exact ⟨⟨_, rfl⟩, .inl ⟨_, rfl, HJ4.out⟩⟩
set_option maxRecDepth 100000 in
set_option maxHeartbeats 1000000 in
theorem vals0 (F : Fence) (n : Nat) (h91 : F.fn 91) (hro : F.round = none) (l Bs cap : Nat) (A : Option Addr) (J : List LabOk → World → Prop) (W : World) (hBs : W.cell? ⟨Bs, 0, none⟩ = some (.slice A 0 cap)) (h0 : J [] W) :
    CallsIn F n Try.prog 91 #[.func (.yield l) #[] #[], .pointer (some ⟨Bs, 0, none⟩)] W fun e W' => (∃ v, e = .returned v) ∧ J [] W' := by
  refine callsIn_of_wp Try.func91 rfl h91 ?_ hro
  simp only [Try.ntmps91, List.size_toArray, List.length_cons, List.length_nil, Nat.reduceAdd, Nat.reduceSub, Array.replicate_succ, Array.replicate_zero, List.push_toArray, List.append_toArray, List.nil_append, List.cons_append]
  gi_wp2
  gi_loopw [7] (fun i wr => i = .int .i64 0 ∧ J [] wr) (fun _ _ => 0)
  case atStart => exact ⟨rfl, h0⟩
  case round =>
    obtain ⟨rfl, hJs⟩ := hrel
    gi_wp2
    go_end0
    exact ⟨⟨_, rfl⟩, hJs⟩
set_option maxHeartbeats 1000000 in
theorem vals_in (F : Fence) (n : Nat) (h : F.fn 84) (hro : F.round = none) (a : Option Addr) (len cap : Nat) (w : World) :
    CallsIn F n Try.prog 84 #[.slice a len cap] w fun e w' => e = .returned (.func (.func 91) #[] #[.pointer (some ⟨w.heap.size, 0, none⟩)]) ∧ w' = w.alloc (.cells #[.slice a len cap] 36) := by
  refine callsIn_of_wp Try.func84 rfl h ?_ hro
  simp only [Try.ntmps84, List.size_toArray, List.length_cons, List.length_nil, Nat.reduceAdd, Nat.reduceSub, Array.replicate_succ, Array.replicate_zero, List.push_toArray, List.append_toArray, List.nil_append, List.cons_append]
  gi_wp2
  go_ret
  exact ⟨rfl, rfl⟩
/-- A slice's value reads as labels, in a block below n₀. -/
def LabsAt (n₀ : Nat) (W : World) (sv : Value) (xs : List LabOk) : Prop :=
  (∃ A cap, sv = .slice A 0 cap ∧ xs = []) ∨ ∃ b off cap, sv = .slice (some ⟨b, off, none⟩) xs.length cap ∧ b < n₀ ∧ ∀ j x, xs[j]? = some x → W.cell? ⟨b, off + j * 4, none⟩ = some (.int .u64 x.1.n) ∧ W.cell? ⟨b, off + j * 4 + 1, none⟩ = some (.int .i64 x.1.p) ∧ W.cell? ⟨b, off + j * 4 + 2, none⟩ = some (.int .u64 x.1.s) ∧ W.cell? ⟨b, off + j * 4 + 3, none⟩ = some (.int .i64 x.1.q)
theorem LabsAt.below {n₀ : Nat} {A B : World} (h : Below n₀ A B) {sv : Value} {xs : List LabOk} : LabsAt n₀ A sv xs → LabsAt n₀ B sv xs
  | .inl e => .inl e
  | .inr ⟨b, off, cap, e, hb, hc⟩ => .inr ⟨b, off, cap, e, hb, fun j x hx => ⟨(h.cell (p := ⟨b, off + j * 4, none⟩) hb).trans (hc j x hx).1, (h.cell (p := ⟨b, off + j * 4 + 1, none⟩) hb).trans (hc j x hx).2.1, (h.cell (p := ⟨b, off + j * 4 + 2, none⟩) hb).trans (hc j x hx).2.2.1, (h.cell (p := ⟨b, off + j * 4 + 3, none⟩) hb).trans (hc j x hx).2.2.2⟩⟩
theorem vals_stops (F : Fence) (n : Nat) (h91 : F.fn 91) (hro : F.round = none) (hn : 1 ≤ n) (Bs n₀ : Nat) (sv : Value) (xs : List LabOk) (hreach : xs.length ≤ 1000000) (w : World) (hBs : Bs < w.heap.size) (hn₀ : n₀ ≤ w.heap.size)
    (hc : w.cell? ⟨Bs, 0, none⟩ = some sv) (hI : LabsAt n₀ w sv xs) :
    SeqStopsK F n Try.prog 91 #[.pointer (some ⟨Bs, 0, none⟩)] LabOk.enc (Below n₀) (fun ys => ys = xs) (fun pre => pre <+: xs) xs.length w := fun l J Jx W hW hJ _ hY h0 => by
  have hc' := (hW.cell (p := ⟨Bs, 0, none⟩) hBs).trans hc
  rcases hI.below (hW.mono hn₀) with ⟨A, cap, rfl, rfl⟩ | ⟨b, off, cap, rfl, hb, hcs⟩
  · exact (vals0 F n h91 hro l Bs cap A J W hc' h0).mono fun e W' ⟨he, hj⟩ => ⟨he, .inl ⟨_, rfl, hj⟩⟩
  · exact vals1 F n h91 hro hn l Bs n₀ b off cap xs hreach hb J Jx _ hJ hY W (Nat.le_trans hn₀ hW.size) hc' hcs h0
theorem cells_new4 (w : World) (x : Lab) (t : TypeId) : ∀ j u, x.cs[j]? = some u → (w.alloc (.cells #[.int .u64 x.n, .int .i64 x.p, .int .u64 x.s, .int .i64 x.q] t)).cell? ((⟨w.heap.size, 0, none⟩ : Addr).add j) = some u := by
  intro j u hj
  rw [Addr.add_lit, Nat.zero_add]
  have := blk_cell (heap_alloc_new w (.cells #[.int .u64 x.n, .int .i64 x.p, .int .u64 x.s, .int .i64 x.q] t)) j
  rw [this, ← hj]
  simp [Lab.cs]
theorem LabOk.cells_len (xs : List LabOk) : (LabOk.cells xs).length = xs.length * 4 := by
  induction xs with
  | nil => rfl
  | cons x xs ih =>
    show (x.1.cs ++ LabOk.cells xs).length = _
    rw [List.length_append, ih]
    simp [Lab.cs]
    omega
theorem LabOk.cells_snoc (xs : List LabOk) (x : LabOk) : LabOk.cells (xs ++ [x]) = LabOk.cells xs ++ x.1.cs := by
  simp [LabOk.cells]
set_option maxRecDepth 100000 in
set_option maxHeartbeats 2000000 in
theorem appendSeq_in (F : Fence) (n : Nat) (h97 : F.fn 97) (h91 : F.fn 91) (hro : F.round = none) (hn : 3 ≤ n) (Bs n₀ : Nat) (sv : Value) (xs : List LabOk) (hlen : xs.length ≤ 1000000) (w : World) (hBs : Bs < w.heap.size) (hn₀ : n₀ ≤ w.heap.size)
    (hc : w.cell? ⟨Bs, 0, none⟩ = some sv) (hI : LabsAt n₀ w sv xs) :
    CallsIn F n Try.prog 97 #[.slice none 0 0, .func (.func 91) #[] #[.pointer (some ⟨Bs, 0, none⟩)]] w fun e W' => ∃ v, e = .returned v ∧ W'.ownsRow w.heap.size 26 4 v xs.length (LabOk.cells xs) ∧ Below w.heap.size w W' := by
  have h1 : 1 ≤ n := by omega
  obtain ⟨i0, hi, hz0, hz1, hz2⟩ := info_parts infoLab
  refine callsIn_of_wp_marks Try.func97 rfl h97 ?_ hro
  simp only [Try.ntmps97, List.size_toArray, List.length_cons, List.length_nil, Nat.reduceAdd, Nat.reduceSub, Array.replicate_succ, Array.replicate_zero, List.push_toArray, List.append_toArray, List.nil_append, List.cons_append]
  gi_wp2
  have bO := Boxed.new w 36 (.slice none 0 0)
  have hB0 : Below w.heap.size w (w.alloc (.cells #[.slice none 0 0] 36)) := below_alloc1 w _
  have hsz : (w.alloc (.cells #[.slice none 0 0] 36)).heap.size = w.heap.size + 1 := by simp
  have hBc := (hB0.cell (p := ⟨Bs, 0, none⟩) hBs).trans hc
  have hI0 := hI.below (hB0.mono hn₀)
  obtain ⟨W0, hW0⟩ : ∃ W0, w.alloc (.cells #[.slice none 0 0] 36) = W0 := ⟨_, rfl⟩
  rw [hW0] at bO hB0 hsz hBc hI0 ⊢
  clear hW0 hc hI
  refine wpIn_rangeFunc_ownH hro h1 (gf := 91) (lb := #[.pointer (some ⟨Bs, 0, none⟩)]) rfl h91 (enters_of Try.func91 (by kernel_rfl) rfl)
    (vals_stops F (n - 1) h91 hro (by omega) Bs n₀ sv xs hlen W0 (by omega) (by omega) hBc hI0) belowK_t (belowK_b (by omega)) (Below.refl _ _) (fun _ => rfl)
    (fun pre W => (∃ v, Boxed W w.heap.size 36 v ∧ W.ownsRow w.heap.size 26 4 v pre.length (LabOk.cells pre) ∧ True) ∧ Below w.heap.size w W)
    (fun _ _ _ => False)
    (OwnFrom.and (Own.from (holdsRow_own w.heap.size w.heap.size 36 26 4 (fun pre : List LabOk => pre.length) (fun pre => LabOk.cells pre) (fun _ _ => True)) _) (ownFrom_below (Nat.le_refl _) (by omega)))
    (fun _ _ _ _ _ hs _ _ => hs)
    ⟨⟨_, bO, World.ownsRow_nil _ _ _ _, trivial⟩, hB0⟩
    (fun x a' W => ∃ Bx, w.heap.size < Bx ∧ W.heap[Bx]? = some (.cells #[.int .u64 x.1.n, .int .i64 x.1.p, .int .u64 x.1.s, .int .i64 x.1.q] 26 (0, 0)) ∧ a' = { tmps := #[.slice none 0 0, .func (.func 91) #[] #[.pointer (some ⟨Bs, 0, none⟩)], .pointer (some ⟨w.heap.size, 0, none⟩), undef, .slice none 0 0, .pointer (some ⟨Bx, 0, none⟩), .func (.func 91) #[] #[.pointer (some ⟨Bs, 0, none⟩)], .agg #[.int .u64 x.1.n, .int .i64 x.1.p, .int .u64 x.1.s, .int .i64 x.1.q], undef, undef, undef, undef, undef], defers := [] })
    (fun x a' _ X Y row hs hg hr => by
      obtain ⟨Bx, h1, h2, h3⟩ := hs
      refine ⟨Bx, h1, (hg.block Bx (Array.getElem?_eq_some_iff.1 h2).1 (fun e => ?_)).trans h2, h3⟩
      obtain ⟨_, o, ho, hno⟩ := hr Bx e.symm
      rw [h2] at ho
      cases ho
      cases hno)
    ?assign ?body ?done ?stop
  case assign =>
    rintro l pre x W K ⟨⟨v, hv, hrow, _⟩, hB⟩ hK
    unfold LabOk.enc
    gi_wp2
    exact hK _ _ ((KeepsOthers.alloc _ _).from _) ((Below.refl _ W).alloc (Nat.le_trans hn₀ hB.size) _) ⟨⟨v, hv.alloc _, hrow.alloc _, trivial⟩, hB.alloc hB.size _⟩ ⟨W.heap.size, hv.lt, heap_alloc_new W _, rfl⟩
  case body =>
    rintro l pre x a' W hl ⟨r, hr⟩ ⟨⟨v, hv, hrow, _⟩, hB⟩ ⟨Bx, hBx, hX, rfl⟩ hlt
    have hc := hv.cell
    obtain ⟨x0, x1, x2, x3⟩ := cells4 hX
    gi_wp2_with (gi_at_builtin; refine wpListIn_append_own _ rfl _ _ 36 rfl w.heap.size 26 i0 (.agg #[.int .u64 0, .int .i64 0, .int .u64 0, .int .i64 0]) 4 32 Try.underlying36 hi hz0 hz1 hz2 rfl (by decide) _ _ _ rfl (hrow.alloc _) ⟨W.heap.size, 0, none⟩ 1 1 x.1.cs rfl rfl (cells_new4 _ _ _) (by simp [Lab.cs, Value.oneCell']) (by unfold maxLen; omega) (by omega) (by have := hB.size; simp; omega) ?_; intro v' w1 hown' hgrow _; obtain ⟨g', cap', rfl⟩ := ownsRow_succ hown'; obtain ⟨hv1, hv2, hr2, hk2, hb2⟩ := hv.appended (by decide) hrow hB.size (Nat.le_refl _) hown' hgrow; have hc1 := hv1.cell; have hf1 := hv1.frozen)
    exact ⟨hk2.from _, hb2.mono hn₀, ⟨⟨_, hv2, by rw [LabOk.cells_snoc]; simpa using hr2, trivial⟩, hB.trans hb2⟩⟩
  case done =>
    rintro D ys W hD rfl ⟨⟨v, hv, hrow, _⟩, hB⟩ hK
    have hc := hv.cell
    gi_wp2
    refine ⟨by simp, .inl ⟨_, _, rfl, run_takeDeferred hK, ?_⟩⟩
    exact ⟨_, results_tmp rfl _ _ _, v, rfl, ownsRow_putObj hrow _ hK rfl, hB.trans (belowK_b (w := w) (Nat.le_refl _) W D _ _ (by omega) hK rfl rfl)⟩
  case stop =>
    rintro D c pre W _ _ h _
    exact h.elim
end Go.Proofs.Ytdgdiikijjlnnaa
