/- folkmootlaw15.ContentAll: for every input the law returns true. -/
import Derived.Test.YtdgdiikijjlnnaaCal
import Derived.SizedLaws
import Derived.Test.YtdgdiikijjlnnaaOpen
import Derived.OpenShut
import Derived.ChangeOld
namespace Go.Proofs.Ytdgdiikijjlnnaa
open Go.ChangeShapes Go.WideShapes Go.ChangeAt Go.RowKit M
theorem own : ownKnob Try.prog.godebug = none := by kernel_rfl
theorem laidOut : laidOutB Try.prog = true := by kernel_rfl
theorem cells_ents : Try.prog.cellsOf 35 = 1 := by kernel_rfl
theorem cells_labs : Try.prog.cellsOf 36 = 1 := by kernel_rfl
theorem cells_sum : Try.prog.cellsOf 38 = 5 := by kernel_rfl
theorem open_ents : Opens (kSlice kEnt) 35 := open_row open_ent Try.underlying35 cells_ent
theorem open_labs : Opens (kSlice kLab) 36 := open_row open_lab Try.underlying36 cells_lab
theorem open_sum : Opens kSum 38 := by
  intro H enc w spare held fuel cs x h
  obtain ⟨y0, y1, y2, y3, n, _, hl, h0, h1, h2, h3⟩ := Joins.trod_struct4 Try.underlying38 h
  rw [cells_sum] at hl
  obtain ⟨c0, c1, c2, c3, c4, rfl⟩ := list5 hl
  simp only [cells_ents, cells_labs, cells_int, cells_vid, List.drop_zero, List.drop_succ_cons, List.take_succ_cons, List.take_zero] at h0 h1 h2 h3
  obtain ⟨es, v, e0, hes⟩ := open_ents h0
  obtain ⟨ls, u, e1, hls⟩ := open_labs h1
  obtain ⟨a, e2, _, w2⟩ := DataW.trod_int Try.underlying3 h2
  obtain ⟨y, hy, e3⟩ := open_vid h3
  simp only [List.cons.injEq, and_true] at e0 e1 e2 e3
  obtain ⟨rfl, rfl⟩ := e3
  subst e0 e1 e2
  exact ⟨⟨es, ls, a, y⟩, _, _, rfl, hes, hls, (wf_i64 w2).1, (wf_i64 w2).2, hy⟩
theorem bytes_ent : 0 < Try.prog.bytesOf 29 := of_decide_eq_true (by kernel_rfl)
theorem bytes_lab : 0 < Try.prog.bytesOf 26 := of_decide_eq_true (by kernel_rfl)
theorem slice_len {H : Type} {enc : TypeId × Value → H} {w : World} {spare : Nat → Bool} {held : Bool} {fuel : Nat} {t e : TypeId} {A : Option Addr} {n c : Nat} {x : DataW H × List MemPlace} (ht : Try.prog.underlying t = some (.slice e)) (he : 0 < Try.prog.bytesOf e)
    (h : DataW.trod enc Try.prog w 0 spare held fuel t [.slice A n c] = some x) (hw : ∀ k ∈ x.1.weights Try.prog t, k ≤ reachBytes) : n ≤ reachBytes := by
  rcases Deep.open_slice ht h with ⟨e1, _⟩ | ⟨a, len, cap, m, n', D, Pl, e1, _, _, _, _, rfl, _⟩
  · simp at e1
    omega
  · simp at e1
    obtain ⟨_, rfl, _⟩ := e1
    have h1 := hw ((n + (m - n)) * Try.prog.bytesOf e) (by simp [DataW.weights, ht])
    have h2 : n * 1 ≤ (n + (m - n)) * Try.prog.bytesOf e := Nat.mul_le_mul (by omega) he
    omega
theorem sum_len {H : Type} {enc : TypeId × Value → H} {w : World} {spare : Nat → Bool} {held : Bool} {fuel : Nat} {A1 A2 : Option Addr} {n1 c1 n2 c2 : Nat} {q : List Value} {x : DataW H × List MemPlace} (h : DataW.trod enc Try.prog w 0 spare held fuel 38 (.slice A1 n1 c1 :: .slice A2 n2 c2 :: q) = some x)
    (hw : ∀ k ∈ x.1.weights Try.prog 38, k ≤ reachBytes) : n1 ≤ reachBytes ∧ n2 ≤ reachBytes := by
  obtain ⟨y0, y1, y2, y3, n, rfl, hl, h0, h1, _, _⟩ := Joins.trod_struct4 Try.underlying38 h
  simp only [cells_ents, cells_labs, List.drop_zero, List.drop_succ_cons, List.take_succ_cons, List.take_zero] at h0 h1
  have hm : ∀ (j : Nat) t d, [35, 36, 3, 24][j]? = some t → [y0.1, y1.1, y2.1, y3.1][j]? = some d → ∀ k ∈ d.weights Try.prog t, k ≤ reachBytes := fun j t d ht hd k hk => hw k (by
    simp only [DataW.weights, Try.underlying38]
    exact DataW.weights_mem_each (j := j) ht hd k hk)
  exact ⟨slice_len Try.underlying35 bytes_ent h0 (hm 0 _ _ rfl rfl), slice_len Try.underlying36 bytes_lab h1 (hm 1 _ _ rfl rfl)⟩
set_option maxRecDepth 100000 in
theorem contentAll_lifted (os : Os) (started : os.Started) (H : Type) (enc : TypeId × Value → H) :
    ReturnsInHanded {} Try.checked os 5 .any (Rows.contentAllSpec.pre6 enc Try.prog Try.f5 Rows.contentAllRow.domain false) (Rows.contentAllSpec.post enc Try.prog Try.f5 false true false false) := by
  refine returnsInHanded_of_change_sized (C := Try.checked) own started (by kernel_rfl) Try.func5
    (ChangeSpec.witness6 (enc := enc) (C := Try.checked) false ⟨#[], #[.agg #[.slice none 0 0, .slice none 0 0, .int .i64 0, .int .u64 0, .int .i64 0]], []⟩ 8 (by kernel_rfl) (by kernel_rfl) (by kernel_rfl) (by kernel_rfl)) ?_
  intro W base args ds gs before hval0 hW hcnd hsz0 _
  have hval : ∀ (j : Nat) t v, Try.f5.params[j]? = some t → args[j]? = some v → Value.okWide Try.prog W .any base t v := hval0
  have hW' := hW
  obtain ⟨p, q, hA0, hV, rfl, hfz, hnd⟩ := hW
  have hA : DataW.TrodAll enc Try.prog W 0 (fun _ => true) true Try.f5.params.toList args.toList ds p := hA0
  rw [Try.params5] at hA hval
  obtain ⟨v0, vs0, d0, ds0, p0, q0, hargs, rfl, rfl, h0, r0⟩ := trodAll_cons hA
  obtain ⟨rfl, rfl, rfl⟩ := trodAll_nil r0
  obtain rfl : args = #[v0] := by cases args; simp_all
  obtain ⟨rfl, rfl⟩ := trodVars_none hV
  obtain ⟨cs, rfl, _⟩ := okWide_struct Try.underlying38 (hval 0 38 v0 rfl rfl)
  have k0 := h0
  have lt0 : ∀ x ∈ p0, x.block < W.heap.size := by
    obtain ⟨m, hm⟩ := k0
    exact DataW.trod_lt m _ _ _ hm
  obtain ⟨s, hs, hb1, hb2⟩ : ∃ s : Sum, Sum.K (fun _ => True) W s cs.toList ∧ s.con.length ≤ reachBytes ∧ s.ord.length ≤ reachBytes := by
    obtain ⟨fuel, hf⟩ := h0
    have hwt : ∀ n ∈ d0.weights Try.prog 38, n ≤ reachBytes := fun n hn => by
      have h1 := List.all_eq_true.1 hsz0 n (DataW.weights_mem_each (j := 0) (t := 38) (d := d0) (by rw [Try.params5]; rfl) rfl n hn)
      simpa using h1
    obtain ⟨s, hs⟩ := open_sum hf
    obtain ⟨v, u, e, ⟨A, c, rfl, hc, hr⟩, ⟨A', c', rfl, hc', hr'⟩, h2⟩ := hs
    have hf' := hf
    rw [e] at hf'
    obtain ⟨l1, l2⟩ := sum_len hf' hwt
    exact ⟨s, ⟨_, _, e, ⟨A, c, rfl, hc, hr⟩, ⟨A', c', rfl, hc', hr'⟩, h2⟩, l1, l2⟩
  obtain ⟨v, u, e, ⟨A, c, rfl, hc, hr⟩, ⟨A', c', rfl, hc', hr'⟩, _, _, hv⟩ := hs
  obtain rfl : cs = #[.slice A s.con.length c, .slice A' s.ord.length c', .int .i64 s.next, .int .u64 s.high.n, .int .i64 s.high.p] := Array.toList_inj.1 e
  clear hA0 hval0
  refine (law_ContentAll hr hr' hc' hv (Nat.le_trans hb1 (by decide)) (Nat.le_trans hb2 (by decide))).mono fun e W' ⟨he, bel⟩ => ?_
  subst he
  exact ⟨_, rfl, _, _, _, [], _, [], hW', trodAll_mk1 (shut_bool Try.underlying4 _), (trodAll_cons_mk (Below.trod laidOut (by kernel_rfl) (of_decide_eq_true (by kernel_rfl)) k0 bel lt0) trodAll_mk0), rfl, bel.frame _, fun h => by cases h⟩
theorem contentAll_holds : Rows.ContentAllSaid :=
  OpenClaim.holds_of_wide 5 Try.f5 rfl rfl rfl rfl rfl rfl rfl ⟨rfl, rfl, rfl, rfl, rfl⟩ rfl rfl rfl rfl rfl (by kernel_rfl) Try.func5 (by kernel_rfl)
    (of_decide_eq_true (by kernel_rfl)) (by unfold Func.isWrapper; first | (rw [if_pos (by decide +kernel)]; kernel_rfl) | (rw [if_neg (by decide +kernel)]; exact ⟨rfl, rfl⟩))
    (fun os started H enc _ => contentAll_lifted os started H enc)
#print axioms contentAll_holds
end Go.Proofs.Ytdgdiikijjlnnaa
