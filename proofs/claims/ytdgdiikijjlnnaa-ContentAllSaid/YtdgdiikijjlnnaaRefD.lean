/- The references: are two summaries one? -/
import Derived.Test.YtdgdiikijjlnnaaRefC
namespace Go.Proofs.Ytdgdiikijjlnnaa
open Go.RowKit M
theorem vid_eql (x y : Vid) (W : World) : (binOp .eql 24 (.agg #[.int .u64 x.n, .int .i64 x.p]) (.agg #[.int .u64 y.n, .int .i64 y.p])).run Try.prog W = .ok (.bool (decide (x = y))) W := by
  obtain ⟨n, p⟩ := x
  obtain ⟨n', p'⟩ := y
  simp only [run_eql_struct]
  by_cases h1 : n = n' <;> by_cases h2 : p = p' <;> simp [go_sem, h1, h2]
theorem lab_eql (x y : Lab) (W : World) : (binOp .eql 26 (.agg #[.int .u64 x.n, .int .i64 x.p, .int .u64 x.s, .int .i64 x.q]) (.agg #[.int .u64 y.n, .int .i64 y.p, .int .u64 y.s, .int .i64 y.q])).run Try.prog W = .ok (.bool (decide (x = y))) W := by
  obtain ⟨n, p, s, q⟩ := x
  obtain ⟨n', p', s', q'⟩ := y
  simp only [run_eql_struct]
  by_cases h1 : n = n' <;> by_cases h2 : p = p' <;> by_cases h3 : s = s' <;> by_cases h4 : q = q' <;> simp [go_sem, h1, h2, h3, h4]
theorem calls_quiet {f : FuncId} {args : Array Value} {W : World} {v : Value} {n : Nat} (h : Calls Try.prog f args (W.drewN n) fun e w' => e = .returned v ∧ Quiet (W.drewN n) w') :
    Calls Try.prog f args (W.drewN n) fun e w' => e = .returned v ∧ ∃ m, w' = W.drewN m :=
  h.mono fun _ _ ⟨h1, k, h2⟩ => ⟨h1, n + k, by rw [h2, World.drewN_drewN]⟩
set_option maxRecDepth 100000 in
set_option maxHeartbeats 4000000 in
theorem ref15_Alike {I : Nat → Prop} {A1 A2 B1 B2 : Option Addr} {c1 c2 d1 d2 : Nat} {s t : Sum} {w : World} (h1 : Row kEnt I w A1 s.con) (h2 : Row kLab I w A2 s.ord) (k1 : Row kEnt I w B1 t.con) (k2 : Row kLab I w B2 t.ord) :
    Calls Try.prog 13 #[.agg #[.slice A1 s.con.length c1, .slice A2 s.ord.length c2, .int .i64 s.next, .int .u64 s.high.n, .int .i64 s.high.p], .agg #[.slice B1 t.con.length d1, .slice B2 t.ord.length d2, .int .i64 t.next, .int .u64 t.high.n, .int .i64 t.high.p]] w fun e w' => e = .returned (.bool (decide (s = t))) ∧ Below w.heap.size w w' := by
  have HB := Lib.hid ((below_alloc1 w (.cells #[.slice A1 s.con.length c1, .slice A2 s.ord.length c2, .int .i64 s.next, .int .u64 s.high.n, .int .i64 s.high.p] 38)).alloc (by simp) (.cells #[.slice B1 t.con.length d1, .slice B2 t.ord.length d2, .int .i64 t.next, .int .u64 t.high.n, .int .i64 t.high.p] 38))
  have HC := Lib.hid (fun n => calls_quiet (ref15_Same (c := c1) (d := d1) (h1.below (below_drewN HB.out n)) (k1.below (below_drewN HB.out n))))
  have HO := Lib.hid (fun n => calls_quiet (ref05_Same (c := c2) (d := d2) (h2.below (below_drewN HB.out n)) (k2.below (below_drewN HB.out n))))
  have hE : decide (s = t) = (decide (s.con = t.con) && decide (s.ord = t.ord) && (s.next == t.next) && decide (s.high = t.high)) := by
    obtain ⟨a, b, c, d⟩ := s
    obtain ⟨a', b', c', d'⟩ := t
    by_cases e1 : a = a' <;> by_cases e2 : b = b' <;> by_cases e3 : c = c' <;> by_cases e4 : d = d' <;> simp [e1, e2, e3, e4]
  have HE := Lib.hid hE
  have hv := fun W => vid_eql s.high t.high W
  clear h1 h2 k1 k2 hE
  generalize decide (s.con = t.con) = b1 at HC HE
  generalize decide (s.ord = t.ord) = b2 at HO HE
  generalize hb3 : (s.next == t.next) = b3 at HE
  generalize decide (s.high = t.high) = b4 at hv HE
  cases b1
  · go_enter Try.func13, Try.ntmps13
    go_wp2_with fail
    refine (HC.out 0).mono ?_
    rintro e w1 ⟨rfl, n1, rfl⟩
    go_wp2
    go_ret
    exact ⟨ret_bool (by rw [HE.out]; simp), below_drewN HB.out _⟩
  cases b2
  · go_enter Try.func13, Try.ntmps13
    go_wp2_with fail
    refine (HC.out 0).mono ?_
    rintro e w1 ⟨rfl, n1, rfl⟩
    go_wp2_with fail
    refine (HO.out _).mono ?_
    rintro e w2 ⟨rfl, n2, rfl⟩
    go_wp2
    go_ret
    exact ⟨ret_bool (by rw [HE.out]; simp), below_drewN HB.out _⟩
  cases b3
  · go_enter Try.func13, Try.ntmps13
    go_wp2_with fail
    refine (HC.out 0).mono ?_
    rintro e w1 ⟨rfl, n1, rfl⟩
    go_wp2_with fail
    refine (HO.out _).mono ?_
    rintro e w2 ⟨rfl, n2, rfl⟩
    go_wp2
    go_ret
    exact ⟨ret_bool (by rw [HE.out]; simp), below_drewN HB.out _⟩
  · go_enter Try.func13, Try.ntmps13
    go_wp2_with fail
    refine (HC.out 0).mono ?_
    rintro e w1 ⟨rfl, n1, rfl⟩
    go_wp2_with fail
    refine (HO.out _).mono ?_
    rintro e w2 ⟨rfl, n2, rfl⟩
    go_wp2
    all_goals
      go_ret
      exact ⟨ret_bool (by rw [HE.out]; simp), below_drewN HB.out _⟩
