/- Rows that a call owns and appends to; the law of append over them. No program in sight. -/
import Derived.Test.YtdgdiikijjlnnaaMem
import Derived.Laws.AppendOwn
import Derived.Maps.AppendAt
import Derived.Deep.AppendSrc
namespace Go.Proofs.Ytdgdiikijjlnnaa.M
open Go.RowKit

/-- The cells of elements, one behind the other. -/
def Reps {α : Type} (d : Kd α) (I : Nat → Prop) (w : World) : List α → List Value → Prop
  | [], cs => cs = []
  | x :: xs, cs => ∃ c r, cs = c ++ r ∧ d.K I w x c ∧ Reps d I w xs r
section
variable {α : Type} {d : Kd α} {I J : Nat → Prop} {w w' : World} {xs ys : List α} {cs ds : List Value}
theorem Reps.len (h : Reps d I w xs cs) : cs.length = xs.length * d.sz := by
  induction xs generalizing cs with
  | nil => rw [show cs = [] from h]; simp
  | cons x xs ih =>
    obtain ⟨c, r, rfl, hc, hr⟩ := h
    rw [List.length_append, d.len hc, ih hr, List.length_cons, Nat.add_mul]
    omega
theorem Reps.one (h : Reps d I w xs cs) : ∀ u ∈ cs, u.oneCell' = true := by
  induction xs generalizing cs with
  | nil => rw [show cs = [] from h]; simp
  | cons x xs ih =>
    obtain ⟨c, r, rfl, hc, hr⟩ := h
    intro u hu
    rcases List.mem_append.1 hu with hu | hu
    · exact d.one hc u hu
    · exact ih hr u hu
theorem Reps.step (hA : Agr I w w') (h : Reps d I w xs cs) : Reps d I w' xs cs := by
  induction xs generalizing cs with
  | nil => exact h
  | cons x xs ih =>
    obtain ⟨c, r, rfl, hc, hr⟩ := h
    exact ⟨c, r, rfl, d.step hA hc, ih hr⟩
theorem Reps.mono (hI : ∀ k, I k → J k) (h : Reps d I w xs cs) : Reps d J w xs cs := by
  induction xs generalizing cs with
  | nil => exact h
  | cons x xs ih =>
    obtain ⟨c, r, rfl, hc, hr⟩ := h
    exact ⟨c, r, rfl, d.mono hI hc, ih hr⟩
theorem Reps.append (h : Reps d I w xs cs) (k : Reps d I w ys ds) : Reps d I w (xs ++ ys) (cs ++ ds) := by
  induction xs generalizing cs with
  | nil => rw [show cs = [] from h]; exact k
  | cons x xs ih =>
    obtain ⟨c, r, rfl, hc, hr⟩ := h
    exact ⟨c, r ++ ds, by simp, hc, ih hr⟩
theorem Reps.single {x : α} (h : d.K I w x cs) : Reps d I w [x] cs := ⟨cs, [], by simp, h, rfl⟩
theorem Reps.get {j : Nat} {x : α} (h : Reps d I w xs cs) (hx : xs[j]? = some x) : ∃ c, d.K I w x c ∧ ∀ i v, c[i]? = some v → cs[j * d.sz + i]? = some v := by
  induction xs generalizing cs j with
  | nil => simp at hx
  | cons y xs ih =>
    obtain ⟨c, r, rfl, hc, hr⟩ := h
    cases j with
    | zero =>
      simp only [List.getElem?_cons_zero, Option.some.injEq] at hx
      subst hx
      refine ⟨c, hc, fun i v hv => ?_⟩
      rw [Nat.zero_mul, Nat.zero_add, List.getElem?_append_left (List.getElem?_eq_some_iff.1 hv).1]
      exact hv
    | succ j =>
      simp only [List.getElem?_cons_succ] at hx
      obtain ⟨c', hc', hcc⟩ := ih hr hx
      refine ⟨c', hc', fun i v hv => ?_⟩
      rw [List.getElem?_append_right (by rw [d.len hc, Nat.add_mul]; omega), d.len hc, Nat.add_mul, show j * d.sz + 1 * d.sz + i - d.sz = j * d.sz + i by omega]
      exact hcc i v hv
/-- A row that is read, as cells. -/
theorem Row.reps {b o : Nat} (h : ∀ j x, xs[j]? = some x → ∃ cs, d.K I w x cs ∧ ∀ i v, cs[i]? = some v → w.cell? ⟨b, o + (j * d.sz + i), none⟩ = some v) :
    ∃ inner, Reps d I w xs inner ∧ ∀ j v, inner[j]? = some v → w.cell? ⟨b, o + j, none⟩ = some v := by
  induction xs generalizing o with
  | nil => exact ⟨[], rfl, by simp⟩
  | cons x xs ih =>
    obtain ⟨c, hc, hcc⟩ := h 0 x rfl
    obtain ⟨r, hr, hrr⟩ := ih (o := o + d.sz) (fun j y hy => by
      obtain ⟨c', hc', hcc'⟩ := h (j + 1) y (by simpa using hy)
      exact ⟨c', hc', fun i v hv => by rw [← hcc' i v hv, Nat.add_mul]; congr 2; omega⟩)
    refine ⟨c ++ r, ⟨c, r, rfl, hc, hr⟩, fun j v hv => ?_⟩
    rcases Nat.lt_or_ge j c.length with hj | hj
    · rw [List.getElem?_append_left hj] at hv
      have := hcc j v hv
      rwa [Nat.zero_mul, Nat.zero_add] at this
    · rw [List.getElem?_append_right hj, d.len hc] at hv
      rw [d.len hc] at hj
      have := hrr _ v hv
      rwa [show o + d.sz + (j - d.sz) = o + j by omega] at this
theorem Row.of_cells {b o : Nat} {inner : List Value} (hb : I b) (hr : Reps d I w xs inner) (hc : ∀ j v, inner[j]? = some v → w.cell? ⟨b, o + j, none⟩ = some v) (hl : xs.length ≤ 9223372036854775807) : Row d I w (some ⟨b, o, none⟩) xs :=
  ⟨hl, fun _ => ⟨b, o, rfl, hb, fun _ _ hx => let ⟨c, hk, hcc⟩ := hr.get hx; ⟨c, hk, fun i v hv => hc _ v (hcc i v hv)⟩⟩⟩

/-- A row of the call's own: what its elements lead to lies in I, and it does not. -/
def Own {α : Type} (d : Kd α) (e : TypeId) (I : Nat → Prop) (w : World) (base : Nat) (v : Value) (xs : List α) : Prop :=
  (∀ k, v.ownBlock = some k → ¬ I k) ∧ ∃ inner, w.ownsRow base e d.sz v xs.length inner ∧ Reps d I w xs inner
variable {e base : Nat} {v v' : Value}
theorem Own.nil (d : Kd α) (e : TypeId) (I : Nat → Prop) (w : World) (base : Nat) : Own d e I w base (.slice none 0 0) [] :=
  ⟨fun k hk => by simp [Value.ownBlock] at hk, [], World.ownsRow_nil w base e d.sz, rfl⟩
theorem Own.lt (h : Own d e I w base v xs) : ∀ k, v.ownBlock = some k → base ≤ k ∧ k < w.heap.size := by
  obtain ⟨_, inner, ho, _⟩ := h
  exact ho.lt
theorem Own.kept {row : Option Nat} (h : Own d e I w base v xs) (hg : w.grownBy w' row) (h1 : v.ownBlock = none ∨ v.ownBlock ≠ row) (h2 : ∀ k, I k → some k ≠ row) : Own d e I w' base v xs := by
  obtain ⟨h0, inner, ho, hr⟩ := h
  exact ⟨h0, inner, ho.kept hg h1, hr.step (fun k hk hlt => hg.block k hlt (h2 k hk))⟩
theorem Own.below (h : Own d e I w base v xs) (hb : Below w.heap.size w w') : Own d e I w' base v xs :=
  h.kept (row := none) ⟨hb.os, hb.tape, hb.output, hb.size, fun k hk _ => hb.block k hk⟩ (by cases v.ownBlock <;> simp) (by simp)
theorem Own.move {S : Nat → Prop} (h : Own d e I w base v xs) (hm : Mod S w w') (h1 : ∀ k, v.ownBlock = some k → ¬ S k) (h2 : ∀ k, I k → ¬ S k) : Own d e I w' base v xs := by
  obtain ⟨h0, inner, ho, hr⟩ := h
  refine ⟨h0, inner, ⟨ho.1, ?_⟩, hr.step (hm.agr h2)⟩
  rcases ho.2 with ho | ⟨g, cap, cur, rfl, hbg, hg, rest⟩
  · exact .inl ho
  · exact .inr ⟨g, cap, cur, rfl, hbg, by rw [hm.block g (Array.getElem?_eq_some_iff.1 hg).1 (h1 g rfl)]; exact hg, rest⟩
theorem Own.mono (h : Own d e I w base v xs) (hI : ∀ k, I k → J k) (hn : ∀ k, v.ownBlock = some k → ¬ J k) : Own d e J w base v xs := by
  obtain ⟨_, inner, ho, hr⟩ := h
  exact ⟨hn, inner, ho, hr.mono hI⟩
theorem Own.shape (h : Own d e I w base v xs) : ∃ A c, v = .slice A xs.length c ∧ xs.length ≤ c := by
  obtain ⟨_, inner, ho, _⟩ := h
  rcases ho.2 with ⟨rfl, hn⟩ | ⟨g, cap, cur, rfl, _, _, hc, _⟩
  · exact ⟨none, 0, by rw [hn], by omega⟩
  · exact ⟨_, cap, rfl, hc⟩
/-- It reads as it is, its own block in the footprint. -/
theorem Own.sv (h : Own d e I w base v xs) : SV d (fun k => I k ∨ v.ownBlock = some k) w v xs := by
  obtain ⟨_, inner, ho, hr⟩ := h
  rcases ho.2 with ⟨rfl, hn⟩ | ⟨g, cap, cur, rfl, hb, hg, hc, hm, hs, ht⟩
  · rw [List.eq_nil_of_length_eq_zero hn]
    exact SV.nil _ _ _
  · have hcell : ∀ j u, inner[j]? = some u → w.cell? ⟨g, 0 + j, none⟩ = some u := fun j u hj => by
      have := ho.cells (g := g) rfl j u hj
      rwa [Addr.add_lit] at this
    exact ⟨_, cap, rfl, hc, Row.of_cells (.inr rfl) (hr.mono (fun k hk => .inl hk)) hcell (by simp only [maxLen] at hm; omega)⟩
theorem Own.sv' (h : Own d e I w base v xs) (hI : ∀ k, I k → J k) (hJ : ∀ k, base ≤ k → J k) : SV d J w v xs := h.sv.mono (fun k hk => hk.elim (hI k) (fun he => hJ k (h.lt k he).1))
end

/-- A row of the call's own has been appended to: but for its block all is as it was; it lies where it lay, or in a new block. -/
structure Grew (v : Value) (w : World) (v' : Value) (w' : World) : Prop where
  mod : Mod (fun k => v.ownBlock = some k) w w'
  at_ : v'.ownBlock = v.ownBlock ∨ ∃ b, v'.ownBlock = some b ∧ w.heap.size ≤ b
section
variable {v v1 v2 : Value} {w w1 w2 : World}
theorem Grew.refl (v : Value) (w : World) : Grew v w v w := ⟨Mod.refl _ _, .inl rfl⟩
theorem Grew.trans (h : Grew v w v1 w1) (k : Grew v1 w1 v2 w2) : Grew v w v2 w2 := by
  refine ⟨h.mod.trans' k.mod (fun i hi => ?_), ?_⟩
  · rcases h.at_ with e | ⟨b, e, hb⟩
    · exact .inl (e ▸ hi)
    · rw [e] at hi
      injection hi with hi
      exact .inr (hi ▸ hb)
  · rcases k.at_ with e | ⟨b, e, hb⟩
    · rw [e]
      exact h.at_
    · exact .inr ⟨b, e, Nat.le_trans h.mod.size hb⟩
theorem Grew.below (h : Grew v w v1 w1) (k : Below w1.heap.size w1 w2) : Grew v w v1 w2 := ⟨h.mod.below k, h.at_⟩
theorem Grew.after (k : Below w.heap.size w w1) (h : Grew v w1 v2 w2) : Grew v w v2 w2 :=
  ⟨(Mod.of_below k).trans h.mod, h.at_.imp id (fun ⟨b, e, hb⟩ => ⟨b, e, Nat.le_trans k.size hb⟩)⟩
theorem Grew.grown (hg : w.grownBy w1 v.ownBlock) (hat : v1.ownBlock = v.ownBlock ∨ ∃ b, v1.ownBlock = some b ∧ w.heap.size ≤ b) : Grew v w v1 w1 :=
  ⟨⟨hg.os, hg.tape, hg.output, hg.size, fun k hk hn => hg.block k hk (fun e => hn e.symm)⟩, hat⟩
theorem Grew.base {base : Nat} (h : Grew v w v1 w1) (hb : base ≤ w.heap.size) (hv : ∀ k, v.ownBlock = some k → base ≤ k) : Below base w w1 :=
  ⟨h.mod.os, h.mod.tape, h.mod.output, h.mod.size, fun k hk => h.mod.block k (by omega) (fun e => by have := hv k e; omega)⟩
theorem Grew.ne {k : Nat} (h : Grew v w v1 w1) (hv : v.ownBlock ≠ some k) (hk : k < w.heap.size) : v1.ownBlock ≠ some k := by
  rcases h.at_ with e | ⟨b, e, hb⟩
  · rw [e]; exact hv
  · rw [e]
    intro he
    injection he with he
    omega
theorem Grew.cell {a : Addr} {x : Value} (h : Grew v w v1 w1) (hv : v.ownBlock ≠ some a.block) (hc : w.cell? a = some x) : w1.cell? a = some x := mod_cell h.mod hv hc
theorem Grew.size (h : Grew v w v1 w1) : w.heap.size ≤ w1.heap.size := h.mod.size
/-- From nil on: all that was there is as it was. -/
theorem Grew.of_nil (h : Grew (.slice none 0 0) w v1 w1) : Below w.heap.size w w1 := ⟨h.mod.os, h.mod.tape, h.mod.output, h.mod.size, fun k hk => h.mod.block k hk (by simp [Value.ownBlock])⟩
end
section
variable {P : Program}
theorem run_append_none (w : World) {α : Type} {d : Kd α} {I : Nat → Prop} {base : Nat} {xs : List α} (t ty e : TypeId) (i : TypeInfo) (ht : P.underlying t = some (.slice e)) (hi : P.info? e = some i) (v : Value)
    (hown : Own d e I w base v xs) (A : Option Addr) (c : Nat) : (Builtin.append_ #[t, t] ty #[v, .slice A 0 c]).run P w = .ok v w := by
  obtain ⟨_, inner, ho, _⟩ := hown
  rcases ho.2 with ⟨rfl, hn⟩ | ⟨g, cap, cur, rfl, hb, hg, hc, _⟩
  · cases A <;> simp [Builtin.append_, run_underlying ht, sizeOf, typeInfo, hi, Builtin.lenOf, Builtin.firstCells, loadCells, loadCellsFrom]
  · cases A <;> simp [Builtin.append_, run_underlying ht, sizeOf, typeInfo, hi, Builtin.lenOf, Builtin.firstCells, loadCells, loadCellsFrom, hc, storeCells]
/-- append(v, ys...): a row of the call's own, and a row that is read. -/
theorem run_append_Own (w : World) {α : Type} {d : Kd α} {I J : Nat → Prop} {xs ys : List α} (base : Nat) (t ty e : TypeId) (z : Value) (bytes : Nat) (ht : P.underlying t = some (.slice e))
    (hinfo : (P.info? e).map (fun i => (i.zero, i.size, i.bytes)) = some (some z, d.sz, bytes)) (hz : z.cells.size = d.sz) (hsz : 0 < d.sz)
    (v : Value) (hown : Own d e I w base v xs) (A : Option Addr) (c : Nat) (hr : Row d J w A ys) (hK : ∀ x c, d.K J w x c → d.K I w x c)
    (h63 : xs.length + ys.length ≤ 140737488355328) (hbytes : (xs.length + ys.length) * bytes ≤ 140737488355328) (hbase : base ≤ w.heap.size) (hIw : ∀ k, w.heap.size ≤ k → ¬ I k) :
    ∃ v' w', (Builtin.append_ #[t, t] ty #[v, .slice A ys.length c]).run P w = .ok v' w' ∧ Own d e I w' base v' (xs ++ ys) ∧ w.grownBy w' v.ownBlock ∧ (v'.ownBlock = v.ownBlock ∨ ∃ b, v'.ownBlock = some b ∧ w.heap.size ≤ b) := by
  obtain ⟨i, hi, hq⟩ := Option.map_eq_some_iff.1 hinfo
  simp only [Prod.mk.injEq] at hq
  obtain ⟨hz0, hz1, hz2⟩ := hq
  by_cases hy : ys = []
  · subst hy
    refine ⟨v, w, run_append_none w t ty e i ht hi v hown A c, by simpa using hown, ⟨rfl, rfl, rfl, Nat.le_refl _, fun _ _ _ => rfl⟩, .inl rfl⟩
  · obtain ⟨b, o, rfl, hb, hcells⟩ := hr.2 hy
    obtain ⟨news, hrn, hcn⟩ := Row.reps (fun j x hx => let ⟨cs, hk, hcc⟩ := hcells j x hx; ⟨cs, hK x cs hk, hcc⟩)
    obtain ⟨h0, inner, ho, hri⟩ := hown
    obtain ⟨v', w', hrun, ho', hg, _, hat⟩ := run_append_own_at (P := P) w base t ty e i z d.sz bytes ht hi hz0 hz1 hz2 hz hsz v xs.length inner ho ⟨b, o, none⟩ ys.length c news hrn.len
      (fun j u hj => by rw [Addr.add_lit]; exact hcn j u hj) hrn.one (by simp only [maxLen]; omega) hbytes hbase
    have hne : ∀ k, I k → some k ≠ v.ownBlock := fun k hk he => h0 k he.symm hk
    have hag : Agr I w w' := fun k hk hlt => hg.block k hlt (hne k hk)
    refine ⟨v', w', hrun, ⟨fun k hk => ?_, inner ++ news, by rw [List.length_append]; exact ho', (hri.step hag).append (hrn.step hag)⟩, hg, ?_⟩
    · rcases hat with hat | hat
      · exact h0 k (hat ▸ hk)
      · rw [hat] at hk
        injection hk with hk
        exact hIw k (by omega)
    · rcases hat with hat | hat
      · exact .inl hat
      · exact .inr ⟨_, hat, Nat.le_refl _⟩
/-- The same as an arm of the walk. -/
theorem wpList_append_Own {ops : Array Oper} {rest : List Oper} {o : Oper} {a : Act} {Q : Exit → Act → World → Prop} {w : World} {α : Type} {d : Kd α} {I J : Nat → Prop} {xs ys : List α} (hgd : o.guard = none) (base : Nat) (s x : Operand) (t e : TypeId) (z : Value) (bytes : Nat)
    (ho : o.op = .call { callee := .builtin .append, args := #[s, x], argTypes := #[t, t] }) (ht : P.underlying t = some (.slice e))
    (hinfo : (P.info? e).map (fun i => (i.zero, i.size, i.bytes)) = some (some z, d.sz, bytes)) (hz : z.cells.size = d.sz) (hsz : 0 < d.sz)
    (v : Value) (hs : a.eval s = v) (hown : Own d e I w base v xs) (A : Option Addr) (c : Nat) (hx : a.eval x = .slice A ys.length c) (hr : Row d J w A ys) (hK : ∀ x c, d.K J w x c → d.K I w x c)
    (h63 : xs.length + ys.length ≤ 140737488355328) (hbytes : (xs.length + ys.length) * bytes ≤ 140737488355328) (hbase : base ≤ w.heap.size) (hIw : ∀ k, w.heap.size ≤ k → ¬ I k)
    (h : ∀ v' w', Own d e I w' base v' (xs ++ ys) → Grew v w v' w' → wpList P ops Q rest (a.put o.dst v') w') : wpList P ops Q (o :: rest) a w := by
  obtain ⟨v', w', hrun, h2, h3, h4⟩ := run_append_Own w base t o.type e z bytes ht hinfo hz hsz v hown A c hr hK h63 hbytes hbase hIw
  refine wpList_plain hgd fun K hK => ?_
  unfold Oper.wp execOp
  simp only [ho, resolve, invoke, builtin, Sem.run_bind, Sem.run_pure, Result.andThen_ok, List.map_toArray, List.map_cons, List.map_nil, hs, hx, hrun]
  exact hK _ _ (h v' w' h2 (Grew.grown h3 h4))
/-- The same inside a region that draws its order. -/
theorem step_append_Own {ops : Array Oper} {o : Oper} {a : Act} {K : Act → World → Prop} {Q : Exit → Act → World → Prop} {E : Prop} {w : World} {α : Type} {d : Kd α} {I J : Nat → Prop} {xs ys : List α} (hgd : o.guard = none) (base : Nat) (s x : Operand) (t e : TypeId) (z : Value) (bytes : Nat)
    (ho : o.op = .call { callee := .builtin .append, args := #[s, x], argTypes := #[t, t] }) (ht : P.underlying t = some (.slice e))
    (hinfo : (P.info? e).map (fun i => (i.zero, i.size, i.bytes)) = some (some z, d.sz, bytes)) (hz : z.cells.size = d.sz) (hsz : 0 < d.sz)
    (v : Value) (hs : a.eval s = v) (hown : Own d e I w base v xs) (A : Option Addr) (c : Nat) (hx : a.eval x = .slice A ys.length c) (hr : Row d J w A ys) (hK : ∀ x c, d.K J w x c → d.K I w x c)
    (h63 : xs.length + ys.length ≤ 140737488355328) (hbytes : (xs.length + ys.length) * bytes ≤ 140737488355328) (hbase : base ≤ w.heap.size) (hIw : ∀ k, w.heap.size ≤ k → ¬ I k)
    (h : ∀ v' w', Own d e I w' base v' (xs ++ ys) → Grew v w v' w' → K (a.put o.dst v') w') : if Region.wanted o (yielded ops a.tmps) = true then Oper.wp P o a w K Q else E := by
  obtain ⟨v', w', hrun, h2, h3, h4⟩ := run_append_Own w base t o.type e z bytes ht hinfo hz hsz v hown A c hr hK h63 hbytes hbase hIw
  have hw : Region.wanted o (yielded ops a.tmps) = true := by simp [Region.wanted, hgd]
  rw [if_pos hw]
  unfold Oper.wp execOp
  simp only [ho, resolve, invoke, builtin, Sem.run_bind, Sem.run_pure, Result.andThen_ok, List.map_toArray, List.map_cons, List.map_nil, hs, hx, hrun]
  exact h v' w' h2 (Grew.grown h3 h4)
end
end Go.Proofs.Ytdgdiikijjlnnaa.M
