/- label.Sort and label.Twice. -/
import Derived.Test.YtdgdiikijjlnnaaCptb
import Derived.Test.YtdgdiikijjlnnaaRall
import Derived.Test.YtdgdiikijjlnnaaDcf
import Derived.Shelf.SlSortCmp.NoneTotal
namespace Go.Proofs.Ytdgdiikijjlnnaa
open Go.RowKit Go.Shelf Go.Sort M
namespace M
/-- A row of labels that was made since. -/
def LRow (W : World) (base : Nat) (v : Value) (xs : List Lab) : Prop :=
  (v = .slice none 0 0 ∧ xs = []) ∨ ∃ g cap, v = .slice (some ⟨g, 0, none⟩) xs.length cap ∧ xs.length ≤ cap ∧ base ≤ g ∧ Wr W g xs
def toOk : (xs : List Lab) → (∀ x ∈ xs, x.ok) → List LabOk
  | [], _ => []
  | x :: xs, h => ⟨x, h x (List.mem_cons_self ..)⟩ :: toOk xs (fun y hy => h y (List.mem_cons_of_mem _ hy))
theorem toOk_len : (xs : List Lab) → (h : ∀ x ∈ xs, x.ok) → (toOk xs h).length = xs.length
  | [], _ => rfl
  | _ :: xs, h => by simp [toOk, toOk_len xs]
theorem toOk_get : (xs : List Lab) → (h : ∀ x ∈ xs, x.ok) → (j : Nat) → (toOk xs h)[j]?.map (·.1) = xs[j]?
  | [], _, _ => by simp [toOk]
  | _ :: xs, h, 0 => by simp [toOk]
  | _ :: xs, h, j + 1 => by simpa [toOk] using toOk_get xs _ j
theorem toOk_cells : (xs : List Lab) → (h : ∀ x ∈ xs, x.ok) → LabOk.cells (toOk xs h) = xs.flatMap Lab.cs
  | [], _ => rfl
  | x :: xs, h => by
    have := toOk_cells xs (fun y hy => h y (List.mem_cons_of_mem _ hy))
    unfold LabOk.cells at this ⊢
    simp [toOk, this]
theorem cs_at (xs : List Lab) {j i : Nat} {x : Lab} {v : Value} (hx : xs[j]? = some x) (hv : x.cs[i]? = some v) : (xs.flatMap Lab.cs)[j * 4 + i]? = some v := by
  have hi : i < 4 := (List.getElem?_eq_some_iff.1 hv).1
  induction xs generalizing j with
  | nil => simp at hx
  | cons y ys ih =>
    rw [List.flatMap_cons]
    cases j with
    | zero =>
      simp at hx
      subst hx
      rw [List.getElem?_append_left (by rw [Lab.cs_len]; omega)]
      simpa using hv
    | succ j =>
      rw [List.getElem?_append_right (by rw [Lab.cs_len]; omega), Lab.cs_len]
      rw [show (j + 1) * 4 + i - 4 = j * 4 + i by omega]
      exact ih (by simpa using hx)
theorem lrow_of {W : World} {base : Nat} {v : Value} {xs : List Lab} (h : W.ownsRow base 26 4 v xs.length (xs.flatMap Lab.cs)) (hok : ∀ x ∈ xs, x.ok) : LRow W base v xs := by
  obtain ⟨_, ⟨rfl, h0⟩ | ⟨g, cap, cur, rfl, hb, hg, hn, _, hsz, ht⟩⟩ := h
  · exact .inl ⟨rfl, List.eq_nil_of_length_eq_zero h0⟩
  · refine .inr ⟨g, cap, rfl, hn, hb, ⟨cur, _, hg, by rw [hsz]; omega⟩, hok, fun j x hx i v hv => ?_⟩
    have h1 := cs_at xs hx hv
    rw [← ht, List.getElem?_take] at h1
    split at h1
    · simpa [World.cell?, hg] using h1
    · cases h1
theorem labsAt_of {I : Nat → Prop} {w : World} {A : Option Addr} {c : Nat} {xs : List Lab} (h : Row kLab I w A xs) : LabsAt w.heap.size w (.slice A xs.length c) (toOk xs (row_okl h)) := by
  by_cases hn : xs = []
  · subst hn
    exact .inl ⟨A, c, rfl, rfl⟩
  · obtain ⟨b, o, rfl, _, hcx⟩ := Row.lab h hn
    refine .inr ⟨b, o, c, by rw [toOk_len], ?_, fun j x hx => ?_⟩
    · have e0 := List.getElem?_eq_getElem (l := xs) (i := 0) (by cases xs; exact absurd rfl hn; simp)
      obtain ⟨_, x0, _⟩ := hcx 0 _ e0
      exact World.block_lt_of_cell? w _ x0
    · have := toOk_get xs (row_okl h) j
      rw [hx] at this
      exact (hcx j x.1 this.symm).2
end M
set_option maxHeartbeats 1000000 in
theorem values_lab {A : Option Addr} {c n : Nat} (w : World) : Calls Try.prog 84 #[.slice A n c] w fun e w' => e = .returned (.func (.func 91) #[] #[.pointer (some ⟨w.heap.size, 0, none⟩)]) ∧ w' = w.alloc (.cells #[.slice A n c] 36) :=
  callsIn_wide.1 (vals_in Fence.wide 3 trivial rfl A n c w)
theorem appendSeq_lab {I : Nat → Prop} {w : World} {A : Option Addr} {c Bs : Nat} {xs : List Lab} (h : Row kLab I w A xs) (hl : xs.length ≤ 1000000) (hc : w.cell? ⟨Bs, 0, none⟩ = some (.slice A xs.length c)) :
    Calls Try.prog 97 #[.slice none 0 0, .func (.func 91) #[] #[.pointer (some ⟨Bs, 0, none⟩)]] w fun e w' => ∃ v, e = .returned v ∧ LRow w' w.heap.size v xs ∧ Below w.heap.size w w' := by
  have h1 := callsIn_wide.1 (appendSeq_in Fence.wide 3 trivial trivial rfl (Nat.le_refl _) Bs w.heap.size (.slice A xs.length c) (toOk xs (row_okl h)) (by rw [toOk_len]; exact hl) w (World.block_lt_of_cell? w _ hc) (Nat.le_refl _) hc (labsAt_of h))
  refine h1.mono ?_
  rintro e w' ⟨v, rfl, ho, hb⟩
  rw [toOk_len, toOk_cells] at ho
  exact ⟨v, rfl, lrow_of ho (row_okl h), hb⟩
set_option maxHeartbeats 1000000 in
theorem collect_lab {I : Nat → Prop} {w : World} {A : Option Addr} {c Bs : Nat} {xs : List Lab} (h : Row kLab I w A xs) (hl : xs.length ≤ 1000000) (hc : w.cell? ⟨Bs, 0, none⟩ = some (.slice A xs.length c)) :
    Calls Try.prog 89 #[.func (.func 91) #[] #[.pointer (some ⟨Bs, 0, none⟩)]] w fun e w' => ∃ v, e = .returned v ∧ LRow w' w.heap.size v xs ∧ Below w.heap.size w w' := by
  have HF := Lib.hid (appendSeq_lab h hl hc)
  clear h hc
  go_enter Try.func89, Try.ntmps89
  go_wp2_with fail
  refine HF.out.mono ?_
  rintro e w1 ⟨v, rfl, ho, hb⟩
  have HO := Lib.hid ho
  clear ho
  go_wp2
  go_ret
  exact ⟨v, rfl, HO.out, hb⟩
theorem below_new {g : Nat} {w w1 w2 : World} (hb : Below w.heap.size w w1) (h : Mod (· = g) w1 w2) (hg : w.heap.size ≤ g) : Below w.heap.size w w2 :=
  ((Mod.of_below (S := fun _ => False) hb).trans' h (fun i hi => .inr (by rw [hi]; exact hg))).to_below
set_option maxHeartbeats 1000000 in
theorem sortedFunc_lab {I : Nat → Prop} {w : World} {A : Option Addr} {c Bs : Nat} {xs : List Lab} (h : Row kLab I w A xs) (hl : xs.length ≤ 1000000) (hc : w.cell? ⟨Bs, 0, none⟩ = some (.slice A xs.length c)) :
    Calls Try.prog 83 #[.func (.func 91) #[] #[.pointer (some ⟨Bs, 0, none⟩)], .func (.func 44) #[] #[]] w fun e w' => ∃ v ys, e = .returned v ∧ LRow w' w.heap.size v ys ∧ ys.Perm xs ∧ SrtW ys ∧ Below w.heap.size w w' := by
  have HF := Lib.hid (collect_lab h hl hc)
  clear h hc
  go_enter Try.func83, Try.ntmps83
  go_wp2_with fail
  refine HF.out.mono ?_
  rintro e w1 ⟨v, rfl, ho, hb⟩
  rcases ho with ⟨rfl, rfl⟩ | ⟨g, cap, rfl, hcap, hg, hw⟩
  · have HN := Lib.hid (fun W => AnyF.slices_SortFunc_none (P := Try.prog) (ρ := Try.sortLab_ren) { Try.sortLab with } none 0 (.func (.func 44) #[] #[]) W)
    go_wp2_with fail
    refine (HN.out _).mono ?_
    rintro e w2 ⟨rfl, rfl⟩
    go_wp2
    go_ret
    exact ⟨_, [], rfl, .inl ⟨rfl, rfl⟩, List.Perm.refl _, fun i j x y _ hx => by simp at hx, hb⟩
  · have HN := Lib.hid (sort_lab (cap := cap) hw hl)
    clear hw
    go_wp2_with fail
    refine HN.out.mono ?_
    rintro e w2 ⟨rfl, ys, hp, hs, hw, hm⟩
    have HP := Lib.hid hp
    have HS := Lib.hid hs
    have HW := Lib.hid hw
    have HM := Lib.hid hm
    clear hp hs hw hm
    go_wp2
    go_ret
    refine ⟨.slice (some ⟨g, 0, none⟩) xs.length cap, ys, rfl, .inr ⟨g, cap, by rw [HP.out.length_eq], by rw [HP.out.length_eq]; exact hcap, hg, HW.out⟩, HP.out, HS.out, below_new hb HM.out hg⟩
set_option maxHeartbeats 1000000 in
theorem compact_nil (w : World) (f : Value) : Calls Try.prog 82 #[.slice none 0 0, f] w fun e w' => e = .returned (.slice none 0 0) ∧ w' = w := by
  go_enter Try.func82, Try.ntmps82
  go_wp2
  go_ret
  exact ⟨rfl, rfl⟩
set_option maxHeartbeats 1000000 in
theorem label_Sort {I : Nat → Prop} {w : World} {A : Option Addr} {c : Nat} {xs : List Lab} (h : Row kLab I w A xs) (hl : xs.length ≤ 1000000) :
    Calls Try.prog 75 #[.slice A xs.length c] w fun e w' => ∃ v zs, e = .returned v ∧ LRow w' w.heap.size v zs ∧ Srt zs ∧ (∀ x, x ∈ zs ↔ x ∈ xs) ∧ Below w.heap.size w w' := by
  have HV := Lib.hid (values_lab (A := A) (c := c) (n := xs.length) w)
  have hb0 := below_alloc1 w (.cells #[.slice A xs.length c] 36)
  have HF := Lib.hid (sortedFunc_lab (Bs := w.heap.size) (c := c) (h.below hb0) hl (by simp only [World.cell?, heap_alloc_new]; rfl))
  have HB0 := Lib.hid hb0
  clear h hb0
  go_enter Try.func75, Try.ntmps75
  go_wp2_with fail
  refine HV.out.mono ?_
  rintro e w1 ⟨rfl, rfl⟩
  go_wp2_with fail
  refine HF.out.mono ?_
  rintro e w2 ⟨v, ys, rfl, ho, hp, hs, hb⟩
  have HP := Lib.hid hp
  have HS := Lib.hid hs
  have HB := Lib.hid (HB0.out.trans (hb.mono HB0.out.size))
  clear hp hs hb
  rcases ho with ⟨rfl, rfl⟩ | ⟨g, cap, rfl, hcap, hg, hw⟩
  · have HN := Lib.hid (fun W => compact_nil W (.func (.func 85) #[] #[]))
    go_wp2_with fail
    refine (HN.out _).mono ?_
    rintro e w3 ⟨rfl, rfl⟩
    go_wp2
    go_ret
    have := HP.out.length_eq
    have hx : xs = [] := List.eq_nil_of_length_eq_zero (by simpa using this.symm)
    exact ⟨.slice none 0 0, [], rfl, .inl ⟨rfl, rfl⟩, by simp [Srt], fun x => by rw [hx], HB.out⟩
  · have HN := Lib.hid (compact_lab hw HS.out hcap (by rw [HP.out.length_eq]; exact hl))
    clear hw
    go_wp2_with fail
    refine HN.out.mono ?_
    rintro e w3 ⟨zs, c2, rfl, hc2, hw, hs, hm, hmod⟩
    have HW := Lib.hid hw
    have HZ := Lib.hid hs
    have HM := Lib.hid hm
    have HD := Lib.hid hmod
    clear hw hs hm hmod
    go_wp2
    go_ret
    have hg2 : w.heap.size ≤ g := Nat.le_trans HB0.out.size hg
    exact ⟨.slice (some ⟨g, 0, none⟩) zs.length c2, zs, rfl, .inr ⟨g, c2, rfl, hc2, hg2, HW.out⟩, HZ.out, fun x => by rw [HM.out, HP.out.mem_iff], below_new HB.out HD.out hg2⟩
namespace M
theorem Srt.nodup {zs : List Lab} (h : Srt zs) : zs.Nodup := by
  refine List.Pairwise.imp ?_ h
  intro a b hab e
  rw [e, Lab.lt_irrefl] at hab
  cases hab
theorem sub_perm : ∀ (zs xs : List Lab), zs.Nodup → (∀ x ∈ zs, x ∈ xs) → zs.length ≤ xs.length ∧ (xs.length ≤ zs.length → zs.Perm xs)
  | [], xs, _, _ => ⟨Nat.zero_le _, fun h => by rw [List.eq_nil_of_length_eq_zero (l := xs) (by simpa using h)]⟩
  | z :: zs, xs, hn, hs => by
    rw [List.nodup_cons] at hn
    have hz : z ∈ xs := hs z (List.mem_cons_self ..)
    have hp := List.perm_cons_erase hz
    have hl := hp.length_eq
    obtain ⟨h1, h2⟩ := sub_perm zs (xs.erase z) hn.2 (fun x hx => (List.mem_erase_of_ne (by rintro rfl; exact hn.1 hx)).2 (hs x (List.mem_cons_of_mem _ hx)))
    simp only [List.length_cons] at hl ⊢
    exact ⟨by omega, fun h => ((h2 (by omega)).cons z).trans hp.symm⟩
theorem twice_iff {xs zs : List Lab} (h : Srt zs) (hm : ∀ x, x ∈ zs ↔ x ∈ xs) : zs.length < xs.length ↔ ¬ xs.Nodup := by
  have hz := h.nodup
  constructor
  · intro hlt hn
    have := (List.perm_ext_iff_of_nodup hz hn).2 hm
    have := this.length_eq
    omega
  · intro hn
    obtain ⟨h1, h2⟩ := sub_perm zs xs hz (fun x hx => (hm x).1 hx)
    rcases Nat.lt_or_ge zs.length xs.length with h | h
    · exact h
    · exact absurd ((h2 h).nodup_iff.1 hz) hn
end M
set_option maxHeartbeats 1000000 in
theorem twice_says : TwiceSays := by
  intro I A c xs w h hc hl
  have HF := Lib.hid (label_Sort (c := c) h hl)
  clear h
  go_enter Try.func47, Try.ntmps47
  go_wp2_with fail
  refine HF.out.mono ?_
  rintro e w1 ⟨v, zs, rfl, ho, hs, hm, hb⟩
  have HT := Lib.hid (twice_iff hs hm)
  clear hs hm
  obtain ⟨A2, c2, rfl⟩ : ∃ A2 c2, v = .slice A2 zs.length c2 := by
    rcases ho with ⟨rfl, rfl⟩ | ⟨g, cap, rfl, _⟩
    · exact ⟨none, 0, rfl⟩
    · exact ⟨_, cap, rfl⟩
  clear ho
  go_wp2
  go_ret
  refine ⟨ret_bool ?_, hb⟩
  rw [Bool.eq_iff_iff, decide_eq_true_eq, decide_eq_true_eq, ← HT.out]
end Go.Proofs.Ytdgdiikijjlnnaa
