/- slices.CompactFunc over a row of labels of the call's own. -/
import Derived.Test.YtdgdiikijjlnnaaSrt
import Derived.Laws.CopyRow
import Derived.Lib.SliceRun
namespace Go.Proofs.Ytdgdiikijjlnnaa
open Go.RowKit Go.Sort M
theorem srt_next {xs zs : List Lab} {m : Nat} {x y : Lab} (hs : SrtW xs) (hx : xs[m]? = some x) (hy : xs[m + 1]? = some y) (hne : y ≠ x) (hz : Srt zs) (hm : ∀ z ∈ zs, z ∈ xs.take (m + 1)) : Srt (zs ++ [y]) := by
  unfold Srt
  rw [List.pairwise_append]
  refine ⟨hz, by simp, fun a ha b hb => ?_⟩
  simp at hb
  subst hb
  have h1 : x.lt b = true := by
    have := hs m (m + 1) x b (by omega) hx hy
    rcases Lab.lt_tri x b with h | h | h
    · exact h
    · exact absurd h.symm hne
    · rw [h] at this; cases this
  obtain ⟨i, hi⟩ := List.getElem?_of_mem (hm a ha)
  rw [List.getElem?_take] at hi
  split at hi
  · rename_i hlt
    rcases Nat.lt_or_ge i m with h | h
    · have h2 := hs i m a x h hi hx
      rcases Lab.lt_tri a x with h3 | rfl | h3
      · exact Lab.lt_trans h3 h1
      · exact h1
      · rw [h3] at h2; cases h2
    · have : i = m := by omega
      subst this
      rw [hx] at hi
      cases hi
      exact h1
  · cases hi
set_option maxHeartbeats 1000000 in
theorem eq_fn (x y : Lab) (w : World) : Calls Try.prog 85 #[.agg #[.int .u64 x.n, .int .i64 x.p, .int .u64 x.s, .int .i64 x.q], .agg #[.int .u64 y.n, .int .i64 y.p, .int .u64 y.s, .int .i64 y.q]] w fun e w' => e = .returned (.bool (decide (x = y))) ∧ Below w.heap.size w w' := by
  have he := fun W => lab_eql x y W
  generalize decide (x = y) = r at he
  go_enter Try.func85, Try.ntmps85
  go_wp2
  go_ret
  exact ⟨rfl, (below_alloc1 w _).alloc (by simp) _⟩
theorem M.Wr.set {W : World} {g k : Nat} {ys : List Lab} {y : Lab} (h : Wr W g ys) (hk : k < ys.length) (hy : y.ok) :
    Wr ((((W.setCell ⟨g, k * 4, none⟩ (.int .u64 y.n)).setCell ⟨g, k * 4 + 1, none⟩ (.int .i64 y.p)).setCell ⟨g, k * 4 + 2, none⟩ (.int .u64 y.s)).setCell ⟨g, k * 4 + 3, none⟩ (.int .i64 y.q)) g (ys.set k y) := by
  obtain ⟨⟨cur, t, h1, h2⟩, h3, h4⟩ := h
  rw [setCell_eq_setRow W g (k * 4) cur t (0, 0) _ h1, setCell_eq_setRow _ g (k * 4 + 1) _ t (0, 0) _ (setRow_heap W g cur _ t _ h1), setRow_setRow,
    setCell_eq_setRow _ g (k * 4 + 2) _ t (0, 0) _ (setRow_heap W g cur _ t _ h1), setRow_setRow, setCell_eq_setRow _ g (k * 4 + 3) _ t (0, 0) _ (setRow_heap W g cur _ t _ h1), setRow_setRow]
  refine ⟨⟨_, t, setRow_heap W g cur _ t _ h1, by simpa using h2⟩, fun x hx => ?_, fun j x hx i v hv => ?_⟩
  · rcases List.mem_or_eq_of_mem_set hx with h | rfl
    · exact h3 x h
    · exact hy
  · have hi : i < 4 := (List.getElem?_eq_some_iff.1 hv).1
    simp only [World.cell?, setRow_heap W g cur _ t _ h1, Option.isSome_none, Bool.false_eq_true, if_false]
    rw [List.getElem?_set] at hx
    split at hx
    · rename_i hjk
      subst hjk
      simp [hk] at hx
      subst hx
      have hs : k * 4 + 3 < cur.size := by omega
      obtain rfl | rfl | rfl | rfl : i = 0 ∨ i = 1 ∨ i = 2 ∨ i = 3 := by omega
      all_goals
        simp [Lab.cs] at hv
        subst hv
        simp [Array.getElem?_setIfInBounds]
        try omega
    · rename_i hjk
      have := h4 j x hx i v hv
      simp only [World.cell?, h1] at this
      have this : cur[j * 4 + i]? = some v := by simpa using this
      simp only [Array.getElem?_setIfInBounds]
      rw [if_neg (by omega), if_neg (by omega), if_neg (by omega), if_neg (by omega)]
      simpa using this
theorem slice_from {g n c k : Nat} (hk : k ≤ n) (hc : k < c) (W : World) : (Instr.slice 36 (.slice (some ⟨g, 0, none⟩) n c) (some (.int .i64 (k : Int))) none none).run Try.prog W = .ok (.slice (some ⟨g, k * 4, none⟩) (n - k) (c - k)) W := by
  obtain ⟨i, hi, hq⟩ := Option.map_eq_some_iff.1 infoLab
  simp only [Prod.mk.injEq] at hq
  have hel : Try.prog.elem 36 = 26 := by simp [Program.elem, Try.underlying36]
  have hu : Try.prog.underlying 36 = some (.slice (Try.prog.elem 36)) := by rw [hel]; exact Try.underlying36
  rw [run_slice_l W 36 (some ⟨g, 0, none⟩) n c hu .i64 (k : Int) (by omega) (by omega), hel]
  simp [sizeOf, typeInfo, hi, hq.2.1, sliced, Result.andThen, Addr.add_lit]
  omega
theorem run_clear {W : World} {g n c k : Nat} {cur : Array Value} {t : TypeId} (hg : W.heap[g]? = some (.cells cur t (0, 0))) (hk : k < n) (hn : n * 4 ≤ cur.size) :
    ∃ zs : List Value, zs.length = (n - k) * 4 ∧ ∀ ty : TypeId, (Builtin.clear_ #[36] ty #[.slice (some ⟨g, k * 4, none⟩) (n - k) c]).run Try.prog W = .ok (.tuple #[]) (W.setRow g (cur.toList.take (k * 4) ++ zs ++ cur.toList.drop (k * 4 + zs.length)).toArray) := by
  have hL : (Builtin.zeroCells #[.int .u64 0, .int .i64 0, .int .u64 0, .int .i64 0] (n - k)).toList.length = (n - k) * 4 := by simp [size_zeroCells]
  refine ⟨(Builtin.zeroCells #[.int .u64 0, .int .i64 0, .int .u64 0, .int .i64 0] (n - k)).toList, hL, fun ty => ?_⟩
  have hst := run_storeCells_at (P := Try.prog) g (k * 4) t (Builtin.zeroCells #[.int .u64 0, .int .i64 0, .int .u64 0, .int .i64 0] (n - k)).toList 0 cur W hg (by rw [hL]; omega) (by
    intro v hv
    have : ∀ v ∈ [Value.int .u64 0, .int .i64 0, .int .u64 0, .int .i64 0], v.oneCell' = true := by intro v hv; simp at hv; rcases hv with rfl | rfl | rfl | rfl <;> rfl
    apply this
    simp only [Builtin.zeroCells, Array.toList_map, List.mem_map, Array.toList_range] at hv
    obtain ⟨j, hj, rfl⟩ := hv
    have h4 : j % 4 < 4 := Nat.mod_lt _ (by decide)
    obtain h | h | h | h : j % 4 = 0 ∨ j % 4 = 1 ∨ j % 4 = 2 ∨ j % 4 = 3 := by omega
    all_goals simp [h])
  simp only [Nat.add_zero] at hst
  obtain ⟨m, hm⟩ : ∃ m, n - k = m + 1 := ⟨n - k - 1, by omega⟩
  rw [hm] at hst ⊢
  have hz := fun w => Try.zeroValue26 w
  simp [Builtin.clear_, run_underlying Try.underlying36, hz, Value.cells, hst]
namespace M
/-- What the inner loop keeps: k labels kept, j read. -/
structure Kept (xs zs : List Lab) (k j : Nat) : Prop where
  len : zs.length = xs.length
  lt : k + 1 ≤ j
  le : j ≤ xs.length
  rest : ∀ i, k ≤ i → zs[i]? = xs[i]?
  srt : Srt (zs.take k)
  mem : ∀ x, x ∈ zs.take k ↔ x ∈ xs.take j
theorem mem_take_next {xs : List Lab} {j : Nat} {y : Lab} (hy : xs[j]? = some y) (x : Lab) : x ∈ xs.take (j + 1) ↔ x ∈ xs.take j ∨ x = y := by
  rw [List.take_add_one, hy]
  simp
theorem mem_take_at {xs : List Lab} {j m : Nat} {y : Lab} (hy : xs[m]? = some y) (h : m < j) : y ∈ xs.take j := by
  apply List.mem_of_getElem? (i := m)
  rw [List.getElem?_take, if_pos h]
  exact hy
theorem Kept.start {xs : List Lab} {m : Nat} {x : Lab} (hs : Srt (xs.take (m + 1))) (h0 : xs[m]? = some x) (h1 : xs[m + 1]? = some x) : Kept xs xs (m + 1) (m + 2) := by
  have hl := (List.getElem?_eq_some_iff.1 h1).1
  refine ⟨rfl, by omega, by omega, fun _ _ => rfl, hs, fun y => ?_⟩
  rw [mem_take_next h1]
  constructor
  · exact .inl
  · rintro (h | rfl)
    · exact h
    · exact mem_take_at h0 (by omega)
theorem Kept.same {xs zs : List Lab} {k j : Nat} {x : Lab} (h : Kept xs zs k (j + 1)) (h0 : xs[j]? = some x) (h1 : xs[j + 1]? = some x) : Kept xs zs k (j + 2) := by
  have hl := (List.getElem?_eq_some_iff.1 h1).1
  refine ⟨h.len, by have := h.lt; omega, by omega, h.rest, h.srt, fun y => ?_⟩
  rw [h.mem, mem_take_next h1]
  constructor
  · exact .inl
  · rintro (h | rfl)
    · exact h
    · exact mem_take_at h0 (by omega)
theorem Kept.diff {xs zs : List Lab} {k j : Nat} {x y : Lab} (h : Kept xs zs k (j + 1)) (hs : SrtW xs) (h0 : xs[j]? = some x) (h1 : xs[j + 1]? = some y) (hne : y ≠ x) : Kept xs (zs.set k y) (k + 1) (j + 2) := by
  have hl := (List.getElem?_eq_some_iff.1 h1).1
  have hlt := h.lt
  have hlen := h.len
  have ht : (zs.set k y).take (k + 1) = zs.take k ++ [y] := by
    rw [List.take_add_one, List.getElem?_set_self (by omega)]
    simp [List.take_set_of_le]
  refine ⟨by simpa using h.len, by omega, by omega, fun i hi => ?_, ?_, fun z => ?_⟩
  · rw [List.getElem?_set_ne (by omega)]
    exact h.rest i (by omega)
  · rw [ht]
    exact srt_next hs h0 h1 hne h.srt (fun z hz => (h.mem z).1 hz)
  · rw [ht, mem_take_next h1, ← h.mem]
    simp
theorem srt_zero (xs : List Lab) : Srt (xs.take 0) := by simp [Srt]
theorem srt_one {xs : List Lab} {x : Lab} (h : xs[0]? = some x) : Srt (xs.take 1) := by
  rw [List.take_add_one, h]
  simp [Srt]
theorem srt_step {xs : List Lab} {m : Nat} {x y : Lab} (hs : SrtW xs) (h : Srt (xs.take (m + 1))) (h0 : xs[m]? = some x) (h1 : xs[m + 1]? = some y) (hne : y ≠ x) : Srt (xs.take (m + 2)) := by
  rw [List.take_add_one, h1]
  exact srt_next hs h0 h1 hne h (fun z hz => hz)
theorem Wr.cell {W : World} {g : Nat} {ys : List Lab} {j : Nat} {x : Lab} (h : Wr W g ys) (hx : ys[j]? = some x) :
    x.ok ∧ W.cell? ⟨g, j * 4, none⟩ = some (.int .u64 x.n) ∧ W.cell? ⟨g, j * 4 + 1, none⟩ = some (.int .i64 x.p) ∧ W.cell? ⟨g, j * 4 + 2, none⟩ = some (.int .u64 x.s) ∧ W.cell? ⟨g, j * 4 + 3, none⟩ = some (.int .i64 x.q) :=
  ⟨h.2.1 x (List.mem_of_getElem? hx), h.2.2 j x hx 0 _ rfl, h.2.2 j x hx 1 _ rfl, h.2.2 j x hx 2 _ rfl, h.2.2 j x hx 3 _ rfl⟩
theorem Wr.cut {W : World} {g k : Nat} {ys : List Lab} (h : Wr W g ys) {cur : Array Value} {t : TypeId} (hg : W.heap[g]? = some (.cells cur t (0, 0))) (zs : List Value) (hk : k < ys.length) (hz : zs.length = (ys.length - k) * 4) (hc : ys.length * 4 ≤ cur.size) :
    Wr (W.setRow g (cur.toList.take (k * 4) ++ zs ++ cur.toList.drop (k * 4 + zs.length)).toArray) g (ys.take k) := by
  refine ⟨⟨_, t, setRow_heap W g cur _ t _ hg, by simp; omega⟩, fun x hx => h.2.1 x (List.mem_of_mem_take hx), fun j x hx i v hv => ?_⟩
  have hi : i < 4 := (List.getElem?_eq_some_iff.1 hv).1
  have hj := (List.getElem?_eq_some_iff.1 hx).1
  rw [List.getElem?_take] at hx
  simp at hj
  rw [if_pos (by omega)] at hx
  have := h.2.2 j x hx i v hv
  simp [World.cell?, hg] at this
  simp [World.cell?, setRow_heap W g cur _ t _ hg]
  rw [List.getElem?_append_left (by simp; omega), List.getElem?_take, if_pos (by omega)]
  simpa using this
end M
end Go.Proofs.Ytdgdiikijjlnnaa
