/- slices.SortFunc over a row of labels of the call's own. -/
import Derived.Test.YtdgdiikijjlnnaaSq
import Derived.Test.YtdgdiikijjlnnaaOrd
import Derived.Test.YtdgdiikijjlnnaaLay
namespace Go.Proofs.Ytdgdiikijjlnnaa
open Go.RowKit Go.Shelf Go.Sort M
namespace M
/-- Block g may be written, and its first cells hold these labels. -/
def Wr (W : World) (g : Nat) (ys : List Lab) : Prop := (∃ cur t, W.heap[g]? = some (.cells cur t (0, 0)) ∧ ys.length * 4 ≤ cur.size) ∧ (∀ x ∈ ys, x.ok) ∧ ∀ j x, ys[j]? = some x → ∀ i v, x.cs[i]? = some v → W.cell? ⟨g, j * 4 + i, none⟩ = some v
/-- None behind is less. -/
def SrtW (ys : List Lab) : Prop := ∀ (i j : Nat) (x y : Lab), i < j → ys[i]? = some x → ys[j]? = some y → y.lt x = false
/-- Rising, each once. -/
def Srt (ys : List Lab) : Prop := ys.Pairwise (fun x y : Lab => x.lt y = true)
end M
theorem Lab.cs_len (x : Lab) : x.cs.length = 4 := rfl
theorem M.Wr.row {W : World} {g : Nat} {ys : List Lab} (h : Wr W g ys) (hl : ys.length ≤ 9223372036854775807) : Row kLab (fun k => k = g) W (some ⟨g, 0, none⟩) ys := by
  refine ⟨hl, fun _ => ⟨g, 0, rfl, rfl, fun j x hx => ⟨x.cs, ⟨rfl, h.2.1 x (List.mem_of_getElem? hx)⟩, fun i v hv => ?_⟩⟩⟩
  have := h.2.2 j x hx i v hv
  rwa [Nat.zero_add]
theorem M.Wr.lt {W : World} {g : Nat} {ys : List Lab} (h : Wr W g ys) : g < W.heap.size := let ⟨⟨_, _, hg, _⟩, _⟩ := h; blk_lt hg
theorem M.Wr.move {S : Nat → Prop} {W W1 : World} {g : Nat} {ys : List Lab} (h : Wr W g ys) (hm : Mod S W W1) (hg : ¬ S g) : Wr W1 g ys := by
  obtain ⟨⟨cur, t, h1, h2⟩, h3, h4⟩ := h
  exact ⟨⟨cur, t, mod_blk hm h1 hg, h2⟩, h3, fun j x hx i v hv => mod_cell hm hg (h4 j x hx i v hv)⟩
theorem M.Wr.below {W W1 : World} {g : Nat} {ys : List Lab} (h : Wr W g ys) (hb : Below W.heap.size W W1) : Wr W1 g ys := h.move (S := fun _ => False) (Mod.of_below hb) (fun x => x)
theorem lt_cf (x y : Lab) : ltOf Lab.cf x y = x.lt y := by
  unfold ltOf
  rw [Bool.eq_iff_iff, decide_eq_true_eq]
  exact Lab.cf_lt x y
theorem swo_lab : SWO (ltOf Lab.cf) where
  irrefl x := by rw [lt_cf]; exact Lab.lt_irrefl x
  trans x y z h1 h2 := by rw [lt_cf] at *; exact Lab.lt_trans h1 h2
  ntrans x y z h1 h2 := by
    rw [lt_cf] at *
    rw [Bool.eq_false_iff]
    intro h3
    rcases Lab.lt_tri x y with h | rfl | h
    · rw [h] at h1; cases h1
    · rw [h3] at h2; cases h2
    · have := Lab.lt_trans h h3
      rw [this] at h2
      cases h2
theorem heap_mapBlock (w : World) (g : Nat) (f : Array Value → Array Value) {cur : Array Value} {t : TypeId} {fr : Nat × Nat} (h : w.heap[g]? = some (.cells cur t fr)) : (mapBlock w g f).heap[g]? = some (.cells (f cur) t fr) := by
  unfold mapBlock
  simp [Array.getElem?_modify, h, onCells]
theorem heap_mapBlock_ne (w : World) (g k : Nat) (f : Array Value → Array Value) (h : k ≠ g) : (mapBlock w g f).heap[k]? = w.heap[k]? := by
  unfold mapBlock
  simp [Array.getElem?_modify, Ne.symm h]
theorem size_mapBlock (w : World) (g : Nat) (f : Array Value → Array Value) : (mapBlock w g f).heap.size = w.heap.size := by simp [mapBlock]
theorem holds_wr {W : World} {g : Nat} {ys : List Lab} (h : Wr W g ys) : HoldsK Lab.cs 4 W g 0 ys.toArray := by
  obtain ⟨⟨cur, t, h1, h2⟩, h3, h4⟩ := h
  intro j hj
  simp only [size_flatK, List.size_toArray] at hj
  refine ⟨?_, by simp [World.frozen?, h1]⟩
  have hlt : j / 4 < ys.length := by omega
  have ex := List.getElem?_eq_getElem hlt
  have hm : j % 4 < 4 := Nat.mod_lt _ (by decide)
  have := h4 (j / 4) _ ex (j % 4) _ (List.getElem?_eq_getElem (by rw [Lab.cs_len]; exact hm))
  rw [show j / 4 * 4 + j % 4 = j by omega] at this
  rw [Nat.zero_add, this, get_flatK _ _ _ _ (by simpa using hj)]
  simp [hlt]
  rw [List.getElem?_eq_getElem (by rw [Lab.cs_len]; exact hm)]
  rfl
theorem wr_holds {W : World} {g : Nat} {d : Array Lab} (h : HoldsK Lab.cs 4 W g 0 d) (h1 : ∃ cur t, W.heap[g]? = some (.cells cur t (0, 0)) ∧ d.toList.length * 4 ≤ cur.size) (h2 : ∀ x ∈ d.toList, x.ok) : Wr W g d.toList := by
  refine ⟨h1, h2, fun j x hx i v hv => ?_⟩
  obtain ⟨hj, rfl⟩ := List.getElem?_eq_some_iff.1 hx
  obtain ⟨hi, rfl⟩ := List.getElem?_eq_some_iff.1 hv
  rw [Lab.cs_len] at hi
  have hj2 : j < d.size := by simpa using hj
  have := (h (j * 4 + i) (by simp; omega)).1
  rw [Nat.zero_add, get_flatK _ _ _ _ (by omega)] at this
  rw [this]
  have e1 : (j * 4 + i) / 4 = j := by omega
  have e2 : (j * 4 + i) % 4 = i := by omega
  rw [e1, e2]
  simp [hj2]
  rw [List.getElem?_eq_getElem (by rw [Lab.cs_len]; exact hi)]
  rfl
set_option maxHeartbeats 1000000 in
theorem sort_lab {W : World} {g cap : Nat} {xs : List Lab} (h : Wr W g xs) (hl : xs.length ≤ 1000000) :
    Calls Try.prog 90 #[.slice (some ⟨g, 0, none⟩) xs.length cap, .func (.func 44) #[] #[]] W fun e w' => e = .returned (.tuple #[]) ∧ ∃ ys, ys.Perm xs ∧ SrtW ys ∧ Wr w' g ys ∧ Mod (· = g) W w' := by
  have hblk := h.lt
  have hH := holds_wr h
  have hcon := AnyQ.slices_SortFunc Try.sortLab 4 Try.isAgg26 Try.sizeOf26 Lab.cs (fun _ => rfl) (fun x v hv => by simp [Lab.cs] at hv; rcases hv with rfl | rfl | rfl | rfl <;> rfl) Lab.cf swo_lab 44 #[] g 0 cap xs.toArray W
    (enters_of Try.func44 (by kernel_rfl) rfl) (fun m os dk _ x y => label_Compare x y _) hH hblk (by simp; omega)
  refine Calls.mono hcon ?_
  rintro e w' ⟨he, d', n, os, hp, hs, rfl⟩
  obtain ⟨hp1, _, hp3⟩ := hp
  have hperm : d'.toList.Perm xs := by
    have e1 : d'.extract 0 xs.toArray.size = d' := by rw [← hp1]; simp
    have e2 : xs.toArray.extract 0 xs.toArray.size = xs.toArray := by simp
    rw [e1, e2] at hp3
    simpa using hp3
  obtain ⟨⟨cur, t, g1, g2⟩, g3, _⟩ := h
  have hb1 : (sortWorldK Lab.cs 4 W g 0 n d' os).heap[g]? = some (.cells (putCells id 0 (flatK Lab.cs 4 d') cur) t (0, 0)) := by
    unfold sortWorldK putRowK putRow
    have := heap_mapBlock (Sort.ahead W n) g (putCells id 0 (flatK Lab.cs 4 d')) (cur := cur) (t := t) (fr := (0, 0)) g1
    simp only [grow]
    rw [Array.getElem?_append_left (by rw [size_mapBlock]; exact hblk)]
    exact this
  refine ⟨he, d'.toList, hperm, ?_, wr_holds (holdsK_sortWorldK_c Lab.cs 4 W g 0 xs.toArray d' n os hH hblk hp1) ⟨_, t, hb1, ?_⟩ (fun x hx => g3 x (hperm.mem_iff.1 hx)), ?_⟩
  · intro i j x y hij hx hy
    obtain ⟨hi, rfl⟩ := List.getElem?_eq_some_iff.1 hx
    obtain ⟨hj, rfl⟩ := List.getElem?_eq_some_iff.1 hy
    have hi2 : i < d'.size := by simpa using hi
    have hj2 : j < d'.size := by simpa using hj
    have := hs i j (Nat.zero_le _) hij (by rw [← hp1]; exact hj2)
    rw [lt_cf] at this
    simpa [hi2, hj2] using this
  · have : d'.toList.length = xs.length := hperm.length_eq
    rw [this]
    simpa [putCells] using g2
  · refine ⟨rfl, rfl, rfl, size_sortWorldK_c Lab.cs 4 W g 0 n d' os, fun k hk hne => ?_⟩
    unfold sortWorldK putRowK putRow
    simp only [grow]
    rw [Array.getElem?_append_left (by rw [size_mapBlock]; exact hk)]
    exact heap_mapBlock_ne (Sort.ahead W n) g k _ hne
end Go.Proofs.Ytdgdiikijjlnnaa
