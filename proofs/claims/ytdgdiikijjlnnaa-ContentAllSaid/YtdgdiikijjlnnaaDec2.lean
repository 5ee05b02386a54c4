/- How a summary is read (content.Decode, where the first byte is 2). -/
import Derived.Test.YtdgdiikijjlnnaaDcf
import Derived.Test.YtdgdiikijjlnnaaDec1
import Derived.Test.YtdgdiikijjlnnaaOwn2
import Derived.Test.YtdgdiikijjlnnaaRdall
namespace Go.Proofs.Ytdgdiikijjlnnaa
open Go.RowKit Go.Sort M
namespace M
/-- So many entries, while all goes well. -/
def dEs : Nat → List UInt8 → Bool → List Ent × Bool × List UInt8 × Bool
  | 0, l, bad => ([], true, l, bad)
  | n + 1, l, bad => if (eD l bad).2.1 then ((eD l bad).1 :: (dEs n (eD l bad).2.2.1 (eD l bad).2.2.2).1, (dEs n (eD l bad).2.2.1 (eD l bad).2.2.2).2) else ([(eD l bad).1], false, (eD l bad).2.2)
def dLs : Nat → List UInt8 → Bool → List Lab × Bool × List UInt8 × Bool
  | 0, l, bad => ([], true, l, bad)
  | n + 1, l, bad => if (dL l bad).2.1 then ((dL l bad).1 :: (dLs n (dL l bad).2.2.1 (dL l bad).2.2.2).1, (dLs n (dL l bad).2.2.1 (dL l bad).2.2.2).2) else ([(dL l bad).1], false, (dL l bad).2.2)
theorem dEs_len (n : Nat) (l : List UInt8) (bad : Bool) : (dEs n l bad).1.length ≤ n := by
  induction n generalizing l bad with
  | zero => simp [dEs]
  | succ n ih =>
    rw [dEs]
    split
    · simpa using ih _ _
    · simp
theorem dLs_len (n : Nat) (l : List UInt8) (bad : Bool) : (dLs n l bad).1.length ≤ n := by
  induction n generalizing l bad with
  | zero => simp [dLs]
  | succ n ih =>
    rw [dLs]
    split
    · simpa using ih _ _
    · simp
theorem dV_good (l : List UInt8) (bad : Bool) : (dV l bad).2.1 = true → (dV l bad).2.2.2 = false := by
  unfold dV
  split
  · rename_i hh
    exact fun _ => hh.1
  · intro hh
    cases hh
/-- What the loop over entries has done: m rounds are left, xs read. -/
def EdAt (n : Nat) (l0 : List UInt8) (b0 : Bool) (m : Nat) (xs : List Ent) (ok : Bool) (l : List UInt8) (bad : Bool) : Prop :=
  xs.length + m = n ∧ dEs n l0 b0 = if ok then (xs ++ (dEs m l bad).1, (dEs m l bad).2) else (xs, false, l, bad)
theorem EdAt.start (n : Nat) (l0 : List UInt8) (b0 : Bool) : EdAt n l0 b0 n [] true l0 b0 := ⟨by simp, by simp⟩
theorem EdAt.next {n : Nat} {l0 : List UInt8} {b0 : Bool} {m : Nat} {xs : List Ent} {l : List UInt8} {bad : Bool} (h : EdAt n l0 b0 (m + 1) xs true l bad) : EdAt n l0 b0 m (xs ++ [(eD l bad).1]) (eD l bad).2.1 (eD l bad).2.2.1 (eD l bad).2.2.2 := by
  obtain ⟨h1, h2⟩ := h
  refine ⟨by simp; omega, ?_⟩
  rw [h2, if_pos rfl, dEs]
  cases (eD l bad).2.1 <;> simp
theorem EdAt.done {n : Nat} {l0 : List UInt8} {b0 : Bool} {m : Nat} {xs : List Ent} {ok : Bool} {l : List UInt8} {bad : Bool} (h : EdAt n l0 b0 m xs ok l bad) (hm : m = 0 ∨ ok = false) : dEs n l0 b0 = (xs, ok, l, bad) := by
  obtain ⟨h1, h2⟩ := h
  rw [h2]
  rcases hm with rfl | rfl
  · cases ok <;> simp [dEs]
  · simp
def LdAt (n : Nat) (l0 : List UInt8) (b0 : Bool) (m : Nat) (xs : List Lab) (ok : Bool) (l : List UInt8) (bad : Bool) : Prop :=
  xs.length + m = n ∧ dLs n l0 b0 = if ok then (xs ++ (dLs m l bad).1, (dLs m l bad).2) else (xs, false, l, bad)
theorem LdAt.start (n : Nat) (l0 : List UInt8) (b0 : Bool) : LdAt n l0 b0 n [] true l0 b0 := ⟨by simp, by simp⟩
theorem LdAt.next {n : Nat} {l0 : List UInt8} {b0 : Bool} {m : Nat} {xs : List Lab} {l : List UInt8} {bad : Bool} (h : LdAt n l0 b0 (m + 1) xs true l bad) : LdAt n l0 b0 m (xs ++ [(dL l bad).1]) (dL l bad).2.1 (dL l bad).2.2.1 (dL l bad).2.2.2 := by
  obtain ⟨h1, h2⟩ := h
  refine ⟨by simp; omega, ?_⟩
  rw [h2, if_pos rfl, dLs]
  cases (dL l bad).2.1 <;> simp
theorem LdAt.done {n : Nat} {l0 : List UInt8} {b0 : Bool} {m : Nat} {xs : List Lab} {ok : Bool} {l : List UInt8} {bad : Bool} (h : LdAt n l0 b0 m xs ok l bad) (hm : m = 0 ∨ ok = false) : dLs n l0 b0 = (xs, ok, l, bad) := by
  obtain ⟨h1, h2⟩ := h
  rw [h2]
  rcases hm with rfl | rfl
  · cases ok <;> simp [dLs]
  · simp
/-- The labels' loop is not entered behind a fault. -/
def dLf (ok : Bool) (n : Nat) (l : List UInt8) (bad : Bool) : List Lab × Bool × List UInt8 × Bool := if ok then dLs n l bad else ([], false, l, bad)
def LfAt (ok1 : Bool) (n : Nat) (l0 : List UInt8) (b0 : Bool) (m : Nat) (xs : List Lab) (ok : Bool) (l : List UInt8) (bad : Bool) : Prop :=
  xs.length + m = n ∧ ((ok1 = true ∧ LdAt n l0 b0 m xs ok l bad) ∨ (ok1 = false ∧ ok = false ∧ xs = [] ∧ l = l0 ∧ bad = b0))
theorem LfAt.start (ok1 : Bool) (n : Nat) (l0 : List UInt8) (b0 : Bool) : LfAt ok1 n l0 b0 n [] ok1 l0 b0 := by
  refine ⟨by simp, ?_⟩
  cases ok1
  · exact .inr ⟨rfl, rfl, rfl, rfl, rfl⟩
  · exact .inl ⟨rfl, LdAt.start _ _ _⟩
theorem LfAt.next {ok1 : Bool} {n : Nat} {l0 : List UInt8} {b0 : Bool} {m : Nat} {xs : List Lab} {l : List UInt8} {bad : Bool} (h : LfAt ok1 n l0 b0 (m + 1) xs true l bad) : LfAt ok1 n l0 b0 m (xs ++ [(dL l bad).1]) (dL l bad).2.1 (dL l bad).2.2.1 (dL l bad).2.2.2 := by
  obtain ⟨h1, h2⟩ := h
  rcases h2 with ⟨h2, h3⟩ | ⟨_, h3, _⟩
  · exact ⟨h3.next.1, .inl ⟨h2, h3.next⟩⟩
  · cases h3
theorem LfAt.done {ok1 : Bool} {n : Nat} {l0 : List UInt8} {b0 : Bool} {m : Nat} {xs : List Lab} {ok : Bool} {l : List UInt8} {bad : Bool} (h : LfAt ok1 n l0 b0 m xs ok l bad) (hm : m = 0 ∨ ok = false) : dLf ok1 n l0 b0 = (xs, ok, l, bad) := by
  obtain ⟨h1, h2⟩ := h
  rcases h2 with ⟨rfl, h3⟩ | ⟨rfl, rfl, rfl, rfl, rfl⟩
  · simpa [dLf] using h3.done hm
  · rfl
theorem dLf_len (ok : Bool) (n : Nat) (l : List UInt8) (bad : Bool) : (dLf ok n l bad).1.length ≤ n := by
  cases ok
  · simp [dLf]
  · exact dLs_len n l bad
def dS1 (L : Nat) (r : List UInt8) : List Ent × Bool × List UInt8 × Bool := dEs (rI L r false).1 (rI L r false).2.1 (rI L r false).2.2
def dS2 (L : Nat) (r : List UInt8) : List Lab × Bool × List UInt8 × Bool := dLf (dS1 L r).2.1 (rI L (dS1 L r).2.2.1 (dS1 L r).2.2.2).1 (rI L (dS1 L r).2.2.1 (dS1 L r).2.2.2).2.1 (rI L (dS1 L r).2.2.1 (dS1 L r).2.2.2).2.2
def dS3 (L : Nat) (r : List UInt8) : Nat × List UInt8 × Bool := rI L (dS2 L r).2.2.1 (dS2 L r).2.2.2
def dS4 (L : Nat) (r : List UInt8) : Vid × Bool × List UInt8 × Bool := dV (dS3 L r).2.1 (dS3 L r).2.2
def dSum (L : Nat) (r : List UInt8) : Sum := ⟨(dS1 L r).1, (dS2 L r).1, (dS3 L r).1, (dS4 L r).1⟩
/-- It is told. -/
def dOk (L : Nat) (r : List UInt8) : Prop := (dS2 L r).2.1 = true ∧ (dS4 L r).2.1 = true ∧ (dS4 L r).2.2.1.length = 0 ∧ (dSum L r).Right
end M
theorem dV_ok (l : List UInt8) (bad : Bool) : (dV l bad).1.ok := by
  have h1 := rU_lt l bad
  have h2 := rI_le 15 (rU l bad).2.1 (rU l bad).2.2
  unfold dV
  split
  · unfold Vid.ok
    dsimp only
    omega
  · unfold Vid.ok
    dsimp only
    omega
theorem dL_ok (l : List UInt8) (bad : Bool) : (dL l bad).1.ok := by
  have h0 := dV_ok l bad
  have h1 := rU_lt (dV l bad).2.2.1 (dV l bad).2.2.2
  have h2 := rI_le 15 (rU (dV l bad).2.2.1 (dV l bad).2.2.2).2.1 (rU (dV l bad).2.2.1 (dV l bad).2.2.2).2.2
  unfold Vid.ok at h0
  unfold dL
  split
  · unfold Lab.ok
    dsimp only
    omega
  · unfold Lab.ok
    dsimp only
    omega
theorem Rdr.move {I S : Nat → Prop} {g : Nat} {l : List UInt8} {bad : Bool} {w w1 : World} (h : Rdr I w g l bad) (hm : Mod S w w1) (hg : ¬ S g) (hI : ∀ k, I k → ¬ S k) : Rdr I w1 g l bad := by
  obtain ⟨h1, h2, A, c, h3, h4, h5⟩ := h
  exact ⟨h1, h2, A, c, mod_blk hm h3 hg, h4, h5.step (hm.agr hI)⟩
theorem eD_ok (l : List UInt8) (bad : Bool) : (eD l bad).1.l.ok := dL_ok l bad
set_option maxRecDepth 100000 in
set_option maxHeartbeats 4000000 in
theorem decode_all (HT : TwiceSays) {I : Nat → Prop} {A : Option Addr} {c : Nat} {r : List UInt8} {w : World} (hr : Row kByte I w A (2 :: r)) (hc : r.length + 1 ≤ c) (hm : r.length ≤ 100000) (ok : Bool) (hok : ok = true ↔ dOk (r.length + 1) r) :
    Calls Try.prog 11 #[.slice A (r.length + 1) c] w fun e w' => ∃ v1 v2, e = .returned (.tuple #[.int .u8 (if ok then 2 else 0), .agg #[.int .u64 0, .int .i64 0, .int .u64 0, .int .i64 0, .slice none 0 0], .agg #[v1, v2, .int .i64 (if ok then dSum (r.length + 1) r else default).next, .int .u64 (if ok then dSum (r.length + 1) r else default).high.n, .int .i64 (if ok then dSum (r.length + 1) r else default).high.p], .int .i64 (if ok then 0 else 3)]) ∧
      SV kEnt (fun k => w.heap.size ≤ k) w' v1 (if ok then dSum (r.length + 1) r else default).con ∧ SV kLab (fun k => w.heap.size ≤ k) w' v2 (if ok then dSum (r.length + 1) r else default).ord ∧ Below w.heap.size w w' := by
  obtain ⟨b, o, rfl, _, hcell⟩ := Row.byte hr (by simp)
  have hb0 := hcell 0 (by simp)
  simp at hb0
  obtain ⟨A1, c1, hsl, hc1, hr1⟩ := tail_slice hr hc
  have HT' := Lib.hid hr1.bound
  have HN := Lib.hid (fun W (hW : Row kByte (fun k => I k ∧ k < w.heap.size) W A1 r) (hs : w.heap.size ≤ W.heap.size) => new_reader hW hc1 (by omega) (fun k hk h => by have := h.2; omega))
  have hb0l := World.block_lt_of_cell? w _ hb0
  dsimp only at hb0l
  have HB0 := Lib.hid (((below_alloc1 w (.cells #[.int .u64 0, .int .i64 0, .int .u64 0, .int .i64 0, .slice none 0 0] 29)).alloc (by simp) (.cells #[.slice none 0 0, .slice none 0 0, .int .i64 0, .int .u64 0, .int .i64 0] 38)))
  have h3 := alloc_blk (heap_alloc_new w (.cells #[.int .u64 0, .int .i64 0, .int .u64 0, .int .i64 0, .slice none 0 0] 29)) (.cells #[.slice none 0 0, .slice none 0 0, .int .i64 0, .int .u64 0, .int .i64 0] 38)
  have h4 := heap_alloc_new (w.alloc (.cells #[.int .u64 0, .int .i64 0, .int .u64 0, .int .i64 0, .slice none 0 0] 29)) (.cells #[.slice none 0 0, .slice none 0 0, .int .i64 0, .int .u64 0, .int .i64 0] 38)
  simp only [World.size_alloc] at h4
  have H3 := Lib.hid h3
  have H4 := Lib.hid h4
  clear hr hcell hr1 h3 h4
  go_enter Try.func11, Try.ntmps11
  go_wp2_with fail
  refine (HN.out _ (HT'.out.below HB0.out) HB0.out.size).mono ?_
  rintro e w1 ⟨g, rfl, hg, hR1, hb1⟩
  simp at hg
  have h31 := below_blk hb1 H3.out
  have h41 := below_blk hb1 H4.out
  have hc1' := pw_cell HB0.out hb0
  have hc2 := pw_cell hb1 hc1'
  have hc3 := (keepA (j := o) (o := (.cells #[.slice none 0 0, .slice none 0 0, .int .i64 0, .int .u64 0, .int .i64 0] 38)) (World.block_lt_of_cell? w1 _ hc2)).trans hc2
  have hz1 := hb1.size
  have hgl := hR1.lt
  simp at hz1
  have HR1 := Lib.hid (hR1.alloc (.cells #[.slice none 0 0, .slice none 0 0, .int .i64 0, .int .u64 0, .int .i64 0] 38))
  have HB1 := Lib.hid ((HB0.out.trans (hb1.mono (by simp; omega))).alloc (by omega) (.cells #[.slice none 0 0, .slice none 0 0, .int .i64 0, .int .u64 0, .int .i64 0] 38))
  have H31 := Lib.hid (alloc_blk h31 (.cells #[.slice none 0 0, .slice none 0 0, .int .i64 0, .int .u64 0, .int .i64 0] 38))
  have H41 := Lib.hid (alloc_blk h41 (.cells #[.slice none 0 0, .slice none 0 0, .int .i64 0, .int .u64 0, .int .i64 0] 38))
  have H71 := Lib.hid (heap_alloc_new w1 (.cells #[.slice none 0 0, .slice none 0 0, .int .i64 0, .int .u64 0, .int .i64 0] 38))
  clear hc1' hc2 hR1 hb1 h31 h41
  go_wp2_with fail
  generalize hV : w1.alloc (.cells #[.slice none 0 0, .slice none 0 0, .int .i64 0, .int .u64 0, .int .i64 0] 38) = V at HR1 HB1 H31 H41 H71 ⊢
  have hz5 : V.heap.size = w1.heap.size + 1 := by rw [← hV]; simp
  clear hV hc3
  refine (reader_Int HR1.out (most := r.length + 1) (by omega)).mono ?_
  rintro e w2 ⟨rfl, hR2, hM2⟩
  have HE1 := Lib.hid (dS1.eq_1 (r.length + 1) r)
  have hn1 := rI_le (r.length + 1) r false
  have hnI : ∀ k, (fun k => k = g ∨ k = w1.heap.size) k → ¬ (fun k => I k ∧ k < w.heap.size) k := fun k hk hh => by have := hh.2; omega
  have HR2 := Lib.hid hR2
  have HD2 := Lib.hid (hM2.mono (S' := (fun k => k = g ∨ k = w1.heap.size)) (fun k hk => .inl hk))
  have HS4 := Lib.hid (mod_blk hM2 H71.out (by omega))
  have HOK := Lib.hid hok
  generalize rI (r.length + 1) r false = u at HR2 HE1 hn1 ⊢
  obtain ⟨n1, l1, b1⟩ := u
  dsimp only at HR2 HE1 hn1 ⊢
  have ho0 : OwnN kEnt 29 (fun _ => False) (fun k => k = g ∨ k = w1.heap.size) V.heap.size w2 (.slice none 0 0) [] := OwnN.nil _ _ (fun _ hk => hk.elim) hM2.size (fun k hk => by have := hM2.size; omega)
  have HO0 := Lib.hid ho0
  clear ho0 hR2 hM2 hok
  have HENT := Lib.hid (fun W l bad (hW : Rdr (fun k => I k ∧ k < w.heap.size) W g l bad) => content_entry hW)
  go_upto_block 1 with (fail)
  go_cut [10] (fun s10 W => ∃ (v : Value) (es : List Ent) (ok : Bool) (l : List UInt8) (bad : Bool), s10 = .bool ok ∧ dEs n1 l1 b1 = (es, ok, l, bad) ∧ W.heap[w1.heap.size]? = some (.cells #[v, .slice none 0 0, .int .i64 0, .int .u64 0, .int .i64 0] 38 (0, 0)) ∧ OwnN kEnt 29 (fun _ => False) (fun k => k = g ∨ k = w1.heap.size) V.heap.size W v es ∧ Rdr (fun k => I k ∧ k < w.heap.size) W g l bad ∧ Mod (fun k => k = g ∨ k = w1.heap.size) V W)
  case rest =>
    obtain ⟨v1, es, ok1, l, bad, rfl, hes, hs4, ho, hR, hM⟩ := hcut
    have HS1 := Lib.hid (HE1.out.trans hes)
    have HRW := Lib.hid hR
    have he2 := dS2.eq_1 (r.length + 1) r
    rw [HS1.out] at he2
    have hn2 := rI_le (r.length + 1) l bad
    dsimp only at he2
    have hel1 : es.length ≤ n1 := by
      have := dEs_len n1 l1 b1
      rw [hes] at this
      exact this
    have HO1 := Lib.hid ho
    have HS4 := Lib.hid hs4
    have HMW := Lib.hid hM
    clear hes hs4 ho hR hM HE1
    go_wp2_with fail
    refine (reader_Int HRW.out (most := r.length + 1) (by omega)).mono ?_
    rintro e w3 ⟨rfl, hR2, hM2⟩
    generalize rI (r.length + 1) l bad = u at he2 hn2 hR2 ⊢
    obtain ⟨n2, l2, b2⟩ := u
    dsimp only at he2 hn2 hR2 ⊢
    have HE2 := Lib.hid he2
    have HR2 := Lib.hid hR2
    have HS42 := Lib.hid (mod_blk hM2 HS4.out (by omega))
    have HO2 := Lib.hid (HO1.out.move hM2 (fun j hj => .inl (.inl hj)))
    have HM2' := Lib.hid (HMW.out.trans' hM2 (fun j hj => .inl (.inl hj)))
    have hz2 : V.heap.size ≤ w3.heap.size := HM2'.out.size
    clear he2 hR2 hM2 HO1 HS4 HMW HRW
    have HLD := Lib.hid (fun W l bad (hW : Rdr (fun k => I k ∧ k < w.heap.size) W g l bad) => label_Decode hW)
    go_upto_block 3 with (fail)
    go_cut [10] (fun s10 W => ∃ (v : Value) (ls : List Lab) (ok : Bool) (l : List UInt8) (bad : Bool), s10 = .bool ok ∧ dLf ok1 n2 l2 b2 = (ls, ok, l, bad) ∧ W.heap[w1.heap.size]? = some (.cells #[v1, v, .int .i64 0, .int .u64 0, .int .i64 0] 38 (0, 0)) ∧ OwnN kLab 26 (fun _ => False) (fun k => k = g ∨ k = w1.heap.size) w3.heap.size W v ls ∧ Rdr (fun k => I k ∧ k < w.heap.size) W g l bad ∧ Mod (fun k => k = g ∨ k = w1.heap.size) w3 W)
    case rest =>
      obtain ⟨v2, ls, ok2, l, bad, rfl, hls, hs4, ho, hR, hM⟩ := hcut
      have HS2 := Lib.hid (HE2.out.trans hls)
      have HRW := Lib.hid hR
      have he3 := dS3.eq_1 (r.length + 1) r
      rw [HS2.out] at he3
      have hn3 := rI_le (r.length + 1) l bad
      dsimp only at he3
      have hel2 : ls.length ≤ n2 := by
        have := dLf_len ok1 n2 l2 b2
        rw [hls] at this
        exact this
      have HL1 := Lib.hid ho
      have HS4 := Lib.hid hs4
      have HMW := Lib.hid hM
      clear hls hs4 ho hR hM HE2 HS42 HR2
      go_wp2_with fail
      refine (reader_Int HRW.out (most := r.length + 1) (by omega)).mono ?_
      rintro e w4 ⟨rfl, hR3, hM3⟩
      have he4 := dS4.eq_1 (r.length + 1) r
      rw [he3] at he4
      generalize rI (r.length + 1) l bad = u at he3 he4 hn3 hR3 ⊢
      obtain ⟨nx, l4, b4⟩ := u
      dsimp only at he3 he4 hn3 hR3 ⊢
      have HE3 := Lib.hid he3
      have hs5 := mod_blk hM3 HS4.out (by omega)
      obtain ⟨_, _, c2, _, _⟩ := cells5 hs5
      have f2 := blk_free hs5 2
      have hsz3 := blk_lt hs5
      have HR3 := Lib.hid (hR3.far (a := ⟨w1.heap.size, 2, none⟩) (by dsimp only; omega) (fun hk => by have := hk.2; dsimp only at this; omega) (.int .i64 (nx : Int)))
      have HL3 := Lib.hid ((HL1.out.move hM3 (fun j hj => .inl (.inl hj))).set (p := ⟨w1.heap.size, 2, none⟩) (.inr rfl) (.int .i64 (nx : Int)))
      have HM3 := Lib.hid ((HMW.out.trans' hM3 (fun j hj => .inl (.inl hj))).setCell (p := ⟨w1.heap.size, 2, none⟩) (.inl (.inr rfl)) (.int .i64 (nx : Int)))
      have HS5 := Lib.hid (show (w4.setCell ⟨w1.heap.size, 2, none⟩ (.int .i64 (nx : Int))).heap[w1.heap.size]? = _ by simpa using blk_set hs5 2 (.int .i64 (nx : Int)))
      clear he3 hR3 hM3 hs5 HL1 HMW HRW HS4
      go_wp2_with fail
      refine (ident_Decode HR3.out).mono ?_
      rintro e w5 ⟨rfl, hR4, hM4⟩
      generalize hdv : dV l4 b4 = u at he4 hR4 ⊢
      have hvb : u.2.1 = true → u.2.2.2 = false := hdv ▸ dV_good l4 b4
      clear hdv
      obtain ⟨⟨hn, hp⟩, vo, l5, b5⟩ := u
      dsimp only at he4 hR4 hvb ⊢
      have HE4 := Lib.hid he4
      have hs6 := mod_blk hM4 HS5.out (by omega)
      obtain ⟨_, _, _, c3, c4⟩ := cells5 hs6
      have f3 := blk_free hs6 3
      have f4 := blk_free hs6 4
      have hsz5 : w1.heap.size < w5.heap.size := by have := hM4.size; simp [World.setCell] at this; omega
      have hR5 := ((hR4.far (a := ⟨w1.heap.size, 3, none⟩) (by dsimp only; omega) (fun hk => by have := hk.2; dsimp only at this; omega) (.int .u64 hn)).far (a := ⟨w1.heap.size, 4, none⟩) (by dsimp only; omega) (fun hk => by have := hk.2; dsimp only at this; omega) (.int .i64 hp)).alloc (.cells #[.int .u64 hn, .int .i64 hp] 24)
      have hL5 := (((HL3.out.move hM4 (fun j hj => .inl (.inl hj))).set (p := ⟨w1.heap.size, 3, none⟩) (.inr rfl) (.int .u64 hn)).set (p := ⟨w1.heap.size, 4, none⟩) (.inr rfl) (.int .i64 hp)).below (below_alloc1 _ (.cells #[.int .u64 hn, .int .i64 hp] 24))
      have hM5 := (((HM3.out.trans' hM4 (fun j hj => .inl (.inl hj))).setCell (p := ⟨w1.heap.size, 3, none⟩) (.inl (.inr rfl)) (.int .u64 hn)).setCell (p := ⟨w1.heap.size, 4, none⟩) (.inl (.inr rfl)) (.int .i64 hp)).alloc (.cells #[.int .u64 hn, .int .i64 hp] 24)
      have hS5 : (((w5.setCell ⟨w1.heap.size, 3, none⟩ (.int .u64 hn)).setCell ⟨w1.heap.size, 4, none⟩ (.int .i64 hp)).alloc (.cells #[.int .u64 hn, .int .i64 hp] 24)).heap[w1.heap.size]? = _ := alloc_blk (blk_set (blk_set hs6 3 (.int .u64 hn)) 4 (.int .i64 hp)) (.cells #[.int .u64 hn, .int .i64 hp] 24)
      simp only [Array.setIfInBounds, List.size_toArray, List.length_cons, List.length_nil] at hS5
      simp at hS5
      have HR5 := Lib.hid hR5
      have HL5 := Lib.hid hL5
      have HM5 := Lib.hid hM5
      have HS6 := Lib.hid hS5
      clear he4 hR4 hM4 hs6 hR5 hL5 hM5 hS5 HL3 HM3 HS5
      go_upto_region 26 with (fail)
      generalize (((w5.setCell ⟨w1.heap.size, 3, none⟩ (.int .u64 hn)).setCell ⟨w1.heap.size, 4, none⟩ (.int .i64 hp)).alloc (.cells #[.int .u64 hn, .int .i64 hp] 24)) = V5 at HR5 HL5 HM5 HS6 ⊢
      clear c2 f2 c3 c4 f3 f4
      have hv1 := HO2.out.sv.step (HM5.out.agr (fun j hj => hj.elim (fun h1 => h1.elim) (fun h1 => h1.2.2)))
      have hv2 := HL5.out.sv
      obtain ⟨A1, c1, rfl, hc1, hrow1⟩ := hv1
      obtain ⟨A2, c2, rfl, hc2, hrow2⟩ := hv2
      have HV1 := Lib.hid (hrow1.mono (J := fun k => w1.heap.size < k) (fun j hj => hj.elim (fun h1 => h1.elim) (fun h1 => by omega)))
      have HV2 := Lib.hid (hrow2.mono (J := fun k => w1.heap.size < k) (fun j hj => hj.elim (fun h1 => h1.elim) (fun h1 => by omega)))
      have HMV := Lib.hid (HM2'.out.trans' HM5.out (fun j hj => .inl hj))
      have hsum : dSum (r.length + 1) r = ⟨es, ls, nx, ⟨hn, hp⟩⟩ := by unfold dSum; rw [HS1.out, HS2.out, HE3.out, HE4.out]
      have hdok : dOk (r.length + 1) r ↔ ok2 = true ∧ vo = true ∧ l5.length = 0 ∧ (⟨es, ls, nx, ⟨hn, hp⟩⟩ : Sum).Right := by unfold dOk; rw [hsum, HS2.out, HE4.out]
      have HSUM := Lib.hid hsum
      have HAT := Lib.hid (HOK.out.trans hdok)
      have HRT := Lib.hid (fun (W : World) (hb : Below V5.heap.size V5 W) (r : Bool) (hr : r = true ↔ (⟨es, ls, nx, ⟨hn, hp⟩⟩ : Sum).Right) => content_Right HT (s := (⟨es, ls, nx, ⟨hn, hp⟩⟩ : Sum)) (c1 := c1) (HV1.out.below hb) (HV2.out.below hb) hc2 (by dsimp only; omega) r hr)
      obtain ⟨d0, d1, d2, d3, d4⟩ := cells5 HS6.out
      dsimp only at HRT
      clear hrow1 hrow2 hsum hdok HM2' HO2 HS1 HS2 HE3 HE4
      go_cut [120] (fun t W => t = .bool ok ∧ Below V5.heap.size V5 W)
      case rest =>
        obtain ⟨rfl, hb⟩ := hcut
        have hmv := HMV.out.below hb
        obtain ⟨t0, t1, t2, t3, t4⟩ := cells5 (mod_blk hmv H31.out (by omega))
        obtain ⟨x0, x1, x2, x3, x4⟩ := cells5 (mod_blk hmv H41.out (by omega))
        have f0 := blk_free (mod_blk hmv H31.out (by omega)) 0
        have f1 := blk_free (mod_blk hmv H31.out (by omega)) 1
        have f2 := blk_free (mod_blk hmv H31.out (by omega)) 2
        have f3 := blk_free (mod_blk hmv H31.out (by omega)) 3
        have f4 := blk_free (mod_blk hmv H31.out (by omega)) 4
        have g0 := blk_free (mod_blk hmv H41.out (by omega)) 0
        have g1 := blk_free (mod_blk hmv H41.out (by omega)) 1
        have g2 := blk_free (mod_blk hmv H41.out (by omega)) 2
        have g3 := blk_free (mod_blk hmv H41.out (by omega)) 3
        have g4 := blk_free (mod_blk hmv H41.out (by omega)) 4
        obtain ⟨d0, d1, d2, d3, d4⟩ := cells5 (below_blk hb HS6.out)
        have HB := Lib.hid hb
        have HMW := Lib.hid ((Mod.of_below (S := fun j => w.heap.size ≤ j) HB1.out).trans' hmv (fun j hj => .inl (by omega)))
        have nz : w.heap.size + 1 ≠ w.heap.size := by omega
        clear hb hmv hvb
        cases ok
        · go_wp2
          refine bodyPost_ret (v := .tuple #[.int .u8 0, .agg #[.int .u64 0, .int .i64 0, .int .u64 0, .int .i64 0, .slice none 0 0], .agg #[.slice none 0 0, .slice none 0 0, .int .i64 0, .int .u64 0, .int .i64 0], .int .i64 3]) (by simp [results, Try.results11, go_sem, t0, t1, t2, t3, t4, x0, x1, x2, x3, x4]) rfl ?_
          exact ⟨.slice none 0 0, .slice none 0 0, rfl, SV.nil _ _ _, SV.nil _ _ _, (ten5 HMW.out (Nat.le_refl _) (Nat.le_succ _)).to_below' (fun _ hk => hk)⟩
        · go_wp2_with fail
          go_region
          all_goals go_wp2
          all_goals
            refine bodyPost_ret (v := .tuple #[.int .u8 2, .agg #[.int .u64 0, .int .i64 0, .int .u64 0, .int .i64 0, .slice none 0 0], .agg #[.slice A1 es.length c1, .slice A2 ls.length c2, .int .i64 nx, .int .u64 hn, .int .i64 hp], .int .i64 0]) (by simp [results, Try.results11, go_sem, t0, t1, t2, t3, t4, x0, x1, x2, x3, x4]) rfl ?_
            simp only [if_true, HSUM.out]
            refine ⟨.slice A1 es.length c1, .slice A2 ls.length c2, rfl, ⟨A1, c1, rfl, hc1, ?_⟩, ⟨A2, c2, rfl, hc2, ?_⟩, (ten5 HMW.out (Nat.le_refl _) (Nat.le_succ _)).drew.to_below' (fun _ hk => hk)⟩
            · exact (((((HV1.out.below HB.out).step (agr5 (fun hk => by omega))).step (agr5 (fun hk => by omega))).below (Below.refl _ _).drew)).mono (fun j hj => by omega)
            · exact (((((HV2.out.below HB.out).step (agr5 (fun hk => by omega))).step (agr5 (fun hk => by omega))).below (Below.refl _ _).drew)).mono (fun j hj => by omega)
      case first =>
        cases ok2 with
        | false =>
          have HNO := Lib.hid (show ok = false from Bool.eq_false_iff.2 (fun hh => by have := (HAT.out.1 hh).1; cases this))
          go_wp2_with fail
          go_meet
          exact ⟨by rw [HNO.out], Below.refl _ _⟩
        | true =>
          cases vo with
          | false =>
            have HNO := Lib.hid (show ok = false from Bool.eq_false_iff.2 (fun hh => by have := (HAT.out.1 hh).2.1; cases this))
            go_wp2_with fail
            go_meet
            exact ⟨by rw [HNO.out], Below.refl _ _⟩
          | true =>
            obtain rfl := hvb rfl
            by_cases hl5 : l5.length = 0
            · have hl0 : ((l5.length : Int) == 0) = true := by simp [hl5]
              by_cases hri : (⟨es, ls, nx, ⟨hn, hp⟩⟩ : Sum).Right
              · have HNO := Lib.hid (show ok = true from HAT.out.2 ⟨rfl, rfl, hl5, hri⟩)
                have HRR := Lib.hid (HRT.out V5 (Below.refl _ _) true (by simpa using hri))
                clear hri hl5
                go_wp2_with fail
                refine (reader_Left HR5.out).mono ?_
                rintro e w6 ⟨rfl, rfl⟩
                go_wp2_with fail
                refine HRR.out.mono ?_
                rintro e w7 ⟨rfl, hb7⟩
                go_wp2_with fail
                go_meet
                exact ⟨by rw [HNO.out], hb7⟩
              · have HNO := Lib.hid (show ok = false from Bool.eq_false_iff.2 (fun hh => hri (HAT.out.1 hh).2.2.2))
                have HRR := Lib.hid (HRT.out V5 (Below.refl _ _) false (by simpa using hri))
                clear hri hl5
                go_wp2_with fail
                refine (reader_Left HR5.out).mono ?_
                rintro e w6 ⟨rfl, rfl⟩
                go_wp2_with fail
                refine HRR.out.mono ?_
                rintro e w7 ⟨rfl, hb7⟩
                go_wp2_with fail
                go_meet
                exact ⟨by rw [HNO.out], hb7⟩
            · have hl0 : ((l5.length : Int) == 0) = false := by simp [hl5]
              have HNO := Lib.hid (show ok = false from Bool.eq_false_iff.2 (fun hh => hl5 (HAT.out.1 hh).2.2.1))
              clear hl5
              go_wp2_with fail
              refine (reader_Left HR5.out).mono ?_
              rintro e w6 ⟨rfl, rfl⟩
              go_wp2_with fail
              go_meet
              exact ⟨by rw [HNO.out], Below.refl _ _⟩
    case first =>
      go_wp2_with fail
      go_loopw [10, 14] (fun s10 s14 W => ∃ (m : Nat) (v : Value) (es : List Lab) (ok : Bool) (l : List UInt8) (bad : Bool), s10 = .bool ok ∧ s14 = .int .i64 m ∧ LfAt ok1 n2 l2 b2 m es ok l bad ∧ W.heap[w1.heap.size]? = some (.cells #[v1, v, .int .i64 0, .int .u64 0, .int .i64 0] 38 (0, 0)) ∧ OwnN kLab 26 (fun _ => False) (fun k => k = g ∨ k = w1.heap.size) w3.heap.size W v es ∧ Rdr (fun k => I k ∧ k < w.heap.size) W g l bad ∧ Mod (fun k => k = g ∨ k = w1.heap.size) w3 W) (fun _ s14 _ => (intOf s14).toNat)
      case atStart => exact ⟨n2, _, [], ok1, l2, b2, rfl, rfl, LfAt.start _ _ _ _, HS42.out, OwnN.nil _ _ (fun _ hk => hk.elim) (Nat.le_refl _) (fun k hk => by omega), HR2.out, Mod.refl _ _⟩
      case round =>
        clear HS42 HR2
        obtain ⟨m, v, es, ok, l, bad, rfl, rfl, hes, hs4, ho, hR, hM⟩ := hrel
        have HES := Lib.hid hes
        have hel := hes.1
        have HS4 := Lib.hid hs4
        have HO := Lib.hid ho
        have HRW := Lib.hid hR
        have HMW := Lib.hid hM
        have hzw := hM.size
        clear hes hs4 ho hR hM
        cases ok with
        | false =>
          have HDN := Lib.hid (HES.out.done (.inr rfl))
          by_cases hm0 : 0 < m
          · have hm1 : (0 : Int) < (m : Int) := by omega
            go_wp2_with fail
            go_meet
            exact ⟨v, es, false, l, bad, rfl, HDN.out, HS4.out, HO.out, HRW.out, HMW.out⟩
          · have hm1 : ¬ (0 : Int) < (m : Int) := by omega
            go_wp2_with fail
            go_meet
            exact ⟨v, es, false, l, bad, rfl, HDN.out, HS4.out, HO.out, HRW.out, HMW.out⟩
        | true =>
          rcases Nat.eq_zero_or_pos m with hm0 | hm0
          · have HDN := Lib.hid (HES.out.done (.inl hm0))
            have hm1 : ¬ (0 : Int) < (m : Int) := by omega
            clear hm0
            go_wp2_with fail
            go_meet
            exact ⟨v, es, true, l, bad, rfl, HDN.out, HS4.out, HO.out, HRW.out, HMW.out⟩
          · obtain ⟨m, rfl⟩ : ∃ k, m = k + 1 := ⟨m - 1, by omega⟩
            have hm1 : (0 : Int) < (m : Int) + 1 := by omega
            have hm2 : 0 < m + 1 := by omega
            have HES2 := Lib.hid HES.out.next
            have HU := Lib.hid (HLD.out _ _ _ HRW.out)
            have hxok := dL_ok l bad
            generalize dL l bad = x at HES2 HU hxok
            obtain ⟨⟨xn, xp, xs, xq⟩, xo, l', bad'⟩ := x
            dsimp only at HES2 HU hxok
            go_wp2_with fail
            refine HU.out.mono ?_
            rintro e w4 ⟨rfl, hR3, hM3⟩
            have hsz := hM3.size
            have hsw := blk_lt HS4.out
            have hs3 := mod_blk hM3 HS4.out (by omega)
            have c0 := (cells5 hs3).2.1
            have hs4 := alloc_blk hs3 (.cells #[.int .u64 xn, .int .i64 xp, .int .u64 xs, .int .i64 xq] 26)
            have ho3 := (HO.out.move hM3 (fun k hk => .inl (.inl hk))).below (below_alloc1 w4 (.cells #[.int .u64 xn, .int .i64 xp, .int .u64 xs, .int .i64 xq] 26))
            have hv3 := ho3.lt
            have HO3 := Lib.hid ho3
            have HR3 := Lib.hid (hR3.alloc (.cells #[.int .u64 xn, .int .i64 xp, .int .u64 xs, .int .i64 xq] 26))
            have HM3 := Lib.hid ((HMW.out.trans' hM3 (fun k hk => .inl (.inl hk))).alloc (.cells #[.int .u64 xn, .int .i64 xp, .int .u64 xs, .int .i64 xq] 26))
            have HS3 := Lib.hid hs4
            have hsz3 : w1.heap.size < w4.heap.size := by omega
            clear ho3 hR3 hM3 hs4 hs3
            go_wp2_with (at_builtin; refine arm_one (d := kLab) (xs := es) (y := ⟨xn, xp, xs, xq⟩) rfl _ _ 36 26 (.agg #[.int .u64 0, .int .i64 0, .int .u64 0, .int .i64 0]) 32 rfl Try.underlying36 infoLab rfl rfl HO3.out #[.int .u64 xn, .int .i64 xp, .int .u64 xs, .int .i64 xq] 26 ⟨rfl, hxok⟩ (by simp [go_sem]) (by omega) (by omega) ?_; intro v4 w5 ho4 hg4; obtain ⟨A4, cc4, rfl, hcc4⟩ := ho4.shape; have hs5 := mod_blk hg4.mod HS3.out (fun e => by have := (hv3 _ e).1; omega); have c4 := (cells5 hs5).2.1; have f4 := blk_free hs5 1; have HS5 := Lib.hid hs5; have HO4 := Lib.hid ho4; have HG4 := Lib.hid hg4; clear hs5 ho4 hg4)
            go_roundw
            case rel =>
              refine ⟨m, .slice A4 (es ++ [(⟨xn, xp, xs, xq⟩ : Lab)]).length cc4, _, xo, l', bad', rfl, by go_num, HES2.out, by simpa using blk_set HS5.out 1 (.slice A4 (es ++ [(⟨xn, xp, xs, xq⟩ : Lab)]).length cc4), HO4.out.set (p := ⟨w1.heap.size, 1, none⟩) (.inr rfl) _, ?_, ?_⟩
              · exact (HR3.out.move HG4.out.mod (fun e => by have := (hv3 _ e).1; omega) (fun j hj e => by have := (hv3 _ e).1; have := hj.2; omega)).far (a := ⟨w1.heap.size, 1, none⟩) (by dsimp only; omega) (fun hk => by have := hk.2; dsimp only at this; omega) _
              · exact (HM3.out.trans' HG4.out.mod (fun j hj => .inr (hv3 _ hj).1)).setCell (p := ⟨w1.heap.size, 1, none⟩) (.inl (.inr rfl)) _
            case measure => simp [intOf]
  case first =>
    go_wp2_with fail
    go_loopw [10, 11] (fun s10 s11 W => ∃ (m : Nat) (v : Value) (es : List Ent) (ok : Bool) (l : List UInt8) (bad : Bool), s10 = .bool ok ∧ s11 = .int .i64 m ∧ EdAt n1 l1 b1 m es ok l bad ∧ W.heap[w1.heap.size]? = some (.cells #[v, .slice none 0 0, .int .i64 0, .int .u64 0, .int .i64 0] 38 (0, 0)) ∧ OwnN kEnt 29 (fun _ => False) (fun k => k = g ∨ k = w1.heap.size) V.heap.size W v es ∧ Rdr (fun k => I k ∧ k < w.heap.size) W g l bad ∧ Mod (fun k => k = g ∨ k = w1.heap.size) V W) (fun _ s11 _ => (intOf s11).toNat)
    case atStart => exact ⟨n1, _, [], true, l1, b1, rfl, rfl, EdAt.start _ _ _, HS4.out, HO0.out, HR2.out, HD2.out⟩
    case round =>
      clear HO0 HR2 HD2 HS4
      obtain ⟨m, v, es, ok, l, bad, rfl, rfl, hes, hs4, ho, hR, hM⟩ := hrel
      have HES := Lib.hid hes
      have hel := hes.1
      have HS4 := Lib.hid hs4
      have HO := Lib.hid ho
      have HRW := Lib.hid hR
      have HMW := Lib.hid hM
      have hzw := hM.size
      clear hes hs4 ho hR hM
      cases ok with
      | false =>
        have HDN := Lib.hid (HES.out.done (.inr rfl))
        by_cases hm0 : 0 < m
        · have hm1 : (0 : Int) < (m : Int) := by omega
          go_wp2_with fail
          go_meet
          exact ⟨v, es, false, l, bad, rfl, HDN.out, HS4.out, HO.out, HRW.out, HMW.out⟩
        · have hm1 : ¬ (0 : Int) < (m : Int) := by omega
          go_wp2_with fail
          go_meet
          exact ⟨v, es, false, l, bad, rfl, HDN.out, HS4.out, HO.out, HRW.out, HMW.out⟩
      | true =>
        rcases Nat.eq_zero_or_pos m with hm0 | hm0
        · have HDN := Lib.hid (HES.out.done (.inl hm0))
          have hm1 : ¬ (0 : Int) < (m : Int) := by omega
          clear hm0
          go_wp2_with fail
          go_meet
          exact ⟨v, es, true, l, bad, rfl, HDN.out, HS4.out, HO.out, HRW.out, HMW.out⟩
        · obtain ⟨m, rfl⟩ : ∃ k, m = k + 1 := ⟨m - 1, by omega⟩
          have hm1 : (0 : Int) < (m : Int) + 1 := by omega
          have hm2 : 0 < m + 1 := by omega
          have HES2 := Lib.hid HES.out.next
          have HU := Lib.hid (HENT.out _ _ _ HRW.out)
          have hxok := eD_ok l bad
          generalize eD l bad = x at HES2 HU hxok
          obtain ⟨⟨⟨xn, xp, xs, xq⟩, xm⟩, xo, l', bad'⟩ := x
          dsimp only at HES2 HU hxok
          go_wp2_with fail
          refine HU.out.mono ?_
          rintro e w3 ⟨xv, rfl, hxv, hR3, hM3⟩
          have hsz := hM3.size
          have hsw := blk_lt HS4.out
          have hxb := hxv.bound
          obtain ⟨A', c', rfl, hc', hrow⟩ := hxb
          have hs3 := mod_blk hM3 HS4.out (by omega)
          have c0 := (cells5 hs3).1
          have hs4 := alloc_blk hs3 (.cells #[.int .u64 xn, .int .i64 xp, .int .u64 xs, .int .i64 xq, .slice A' xm.length c'] 29)
          have ho3 := (HO.out.move hM3 (fun k hk => .inl (.inl hk))).below (below_alloc1 w3 (.cells #[.int .u64 xn, .int .i64 xp, .int .u64 xs, .int .i64 xq, .slice A' xm.length c'] 29))
          have hv3 := ho3.lt
          have hv0 := HO.out.lt
          have hkx : kEnt.K (New (fun _ => False) (fun k => k = g ∨ k = w1.heap.size) V.heap.size (w3.alloc (.cells #[.int .u64 xn, .int .i64 xp, .int .u64 xs, .int .i64 xq, .slice A' xm.length c'] 29)) v) (w3.alloc (.cells #[.int .u64 xn, .int .i64 xp, .int .u64 xs, .int .i64 xq, .slice A' xm.length c'] 29)) ⟨⟨xn, xp, xs, xq⟩, xm⟩ [.int .u64 xn, .int .i64 xp, .int .u64 xs, .int .i64 xq, .slice A' xm.length c'] :=
            ⟨_, rfl, hxok, ⟨A', c', rfl, hc', (hrow.mono (fun k hk => .inr ⟨by have := hk.1; omega, by have := hk.2; simp; omega, fun e => by have := (hv0 k e).2; have := hk.1; omega, fun hx => by have := hk.1; omega⟩)).below (below_alloc1 w3 _)⟩⟩
          have HK := Lib.hid hkx
          have HO3 := Lib.hid ho3
          have HR3 := Lib.hid (hR3.alloc (.cells #[.int .u64 xn, .int .i64 xp, .int .u64 xs, .int .i64 xq, .slice A' xm.length c'] 29))
          have HM3 := Lib.hid ((HMW.out.trans' hM3 (fun k hk => .inl (.inl hk))).alloc (.cells #[.int .u64 xn, .int .i64 xp, .int .u64 xs, .int .i64 xq, .slice A' xm.length c'] 29))
          have HS3 := Lib.hid hs4
          have hsz3 : w1.heap.size < w3.heap.size := by omega
          clear hkx ho3 hR3 hM3 hs4 hs3 hrow hxv hv0
          go_wp2_with (at_builtin; refine arm_one (d := kEnt) (xs := es) (y := ⟨⟨xn, xp, xs, xq⟩, xm⟩) rfl _ _ 35 29 (.agg #[.int .u64 0, .int .i64 0, .int .u64 0, .int .i64 0, .slice none 0 0]) 56 rfl Try.underlying35 infoEnt rfl rfl HO3.out #[.int .u64 xn, .int .i64 xp, .int .u64 xs, .int .i64 xq, .slice A' xm.length c'] 29 HK.out (by simp [go_sem]) (by omega) (by omega) ?_; intro v4 w4 ho4 hg4; obtain ⟨A4, cc4, rfl, hcc4⟩ := ho4.shape; have hs5 := mod_blk hg4.mod HS3.out (fun e => by have := (hv3 _ e).1; omega); have c4 := (cells5 hs5).1; have f4 := blk_free hs5 0; have HS5 := Lib.hid hs5; have HO4 := Lib.hid ho4; have HG4 := Lib.hid hg4; clear hs5 ho4 hg4)
          go_roundw
          case rel =>
            refine ⟨m, .slice A4 (es ++ [(⟨⟨xn, xp, xs, xq⟩, xm⟩ : Ent)]).length cc4, _, xo, l', bad', rfl, by go_num, HES2.out, by simpa using blk_set HS5.out 0 (.slice A4 (es ++ [(⟨⟨xn, xp, xs, xq⟩, xm⟩ : Ent)]).length cc4), HO4.out.set (p := ⟨w1.heap.size, 0, none⟩) (.inr rfl) _, ?_, ?_⟩
            · exact (HR3.out.move HG4.out.mod (fun e => by have := (hv3 _ e).1; omega) (fun j hj e => by have := (hv3 _ e).1; have := hj.2; omega)).far (a := ⟨w1.heap.size, 0, none⟩) (by dsimp only; omega) (fun hk => by have := hk.2; dsimp only at this; omega) _
            · exact (HM3.out.trans' HG4.out.mod (fun j hj => .inr (hv3 _ hj).1)).setCell (p := ⟨w1.heap.size, 0, none⟩) (.inl (.inr rfl)) _
          case measure => simp [intOf]
end Go.Proofs.Ytdgdiikijjlnnaa
