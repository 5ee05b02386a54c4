/- Rows of the call's own whose elements lead to what came in (I0) or to what is new since base, but for what may still be written (X). No program in sight. -/
import Derived.Test.YtdgdiikijjlnnaaOwn
namespace Go.Proofs.Ytdgdiikijjlnnaa.M
open Go.RowKit
/-- What the elements may lead to. -/
def New (I0 X : Nat → Prop) (base : Nat) (w : World) (v : Value) : Nat → Prop := fun k => I0 k ∨ (base ≤ k ∧ k < w.heap.size ∧ v.ownBlock ≠ some k ∧ ¬ X k)
def OwnN {α : Type} (d : Kd α) (e : TypeId) (I0 X : Nat → Prop) (base : Nat) (w : World) (v : Value) (xs : List α) : Prop :=
  (∀ k, I0 k → k < base ∧ ¬ X k) ∧ base ≤ w.heap.size ∧ (∀ k, X k → k < w.heap.size ∧ v.ownBlock ≠ some k) ∧ Own d e (New I0 X base w v) w base v xs
section
variable {α : Type} {d : Kd α} {e : TypeId} {I0 J X S : Nat → Prop} {base : Nat} {w w' : World} {v v' : Value} {xs ys : List α}
theorem OwnN.nil (d : Kd α) (e : TypeId) (hI : ∀ k, I0 k → k < base ∧ ¬ X k) (hb : base ≤ w.heap.size) (hX : ∀ k, X k → k < w.heap.size) : OwnN d e I0 X base w (.slice none 0 0) [] :=
  ⟨hI, hb, fun k hk => ⟨hX k hk, by simp [Value.ownBlock]⟩, Own.nil _ _ _ _ _⟩
theorem OwnN.lt (h : OwnN d e I0 X base w v xs) : ∀ k, v.ownBlock = some k → base ≤ k ∧ k < w.heap.size := h.2.2.2.lt
theorem OwnN.shape (h : OwnN d e I0 X base w v xs) : ∃ A c, v = .slice A xs.length c ∧ xs.length ≤ c := h.2.2.2.shape
theorem OwnN.new_lt (h : OwnN d e I0 X base w v xs) : ∀ k, New I0 X base w v k → k < w.heap.size := fun k hk => hk.elim (fun hh => Nat.lt_of_lt_of_le (h.1 k hh).1 h.2.1) (fun hh => hh.2.1)
/-- Nothing of it is written. -/
theorem OwnN.move (h : OwnN d e I0 X base w v xs) (hm : Mod S w w') (hS : ∀ k, S k → X k ∨ w.heap.size ≤ k) : OwnN d e I0 X base w' v xs := by
  obtain ⟨h1, h2, h3, h4⟩ := h
  have hlt := h4.lt
  have h5 : Own d e (New I0 X base w v) w' base v xs := by
    refine h4.move hm (fun k hk hs => ?_) (fun k hk hs => ?_)
    · rcases hS k hs with hx | hx
      · exact (h3 k hx).2 hk
      · have := (hlt k hk).2
        omega
    · rcases hS k hs with hx | hx
      · rcases hk with hk | hk
        · exact (h1 k hk).2 hx
        · exact hk.2.2.2 hx
      · rcases hk with hk | hk
        · have := (h1 k hk).1
          omega
        · omega
  refine ⟨h1, Nat.le_trans h2 hm.size, fun k hk => ⟨Nat.lt_of_lt_of_le (h3 k hk).1 hm.size, (h3 k hk).2⟩, h5.mono (fun k hk => ?_) (fun k hk hn => ?_)⟩
  · rcases hk with hk | ⟨a, b, c, dd⟩
    · exact .inl hk
    · exact .inr ⟨a, Nat.lt_of_lt_of_le b hm.size, c, dd⟩
  · rcases hn with hn | hn
    · have := (h1 k hn).1
      have := (hlt k hk).1
      omega
    · exact hn.2.2.1 hk
theorem OwnN.below (h : OwnN d e I0 X base w v xs) (hb : Below w.heap.size w w') : OwnN d e I0 X base w' v xs := h.move (S := fun _ => False) (Mod.of_below hb) (fun _ hk => hk.elim)
theorem OwnN.set (h : OwnN d e I0 X base w v xs) {p : Addr} (hp : X p.block) (u : Value) : OwnN d e I0 X base (w.setCell p u) v xs :=
  h.move (S := fun k => k = p.block) ((Mod.refl (fun k => k = p.block) w).setCell (p := p) (.inl rfl) u) (fun k hk => .inl (hk ▸ hp))
/-- More may be written. -/
theorem OwnN.mono {X' : Nat → Prop} (h : OwnN d e I0 X base w v xs) (hX : ∀ k, X' k → X k) : OwnN d e I0 X' base w v xs := by
  obtain ⟨h1, h2, h3, h4⟩ := h
  refine ⟨fun k hk => ⟨(h1 k hk).1, fun hx => (h1 k hk).2 (hX k hx)⟩, h2, fun k hk => h3 k (hX k hk), h4.mono (fun k hk => ?_) (fun k hk hn => ?_)⟩
  · exact hk.imp id (fun ⟨a, b, c, dd⟩ => ⟨a, b, c, fun hx => dd (hX k hx)⟩)
  · rcases hn with hn | hn
    · have := (h1 k hn).1
      have := (h4.lt k hk).1
      omega
    · exact hn.2.2.1 hk
theorem OwnN.sv (h : OwnN d e I0 X base w v xs) : SV d (fun k => I0 k ∨ (base ≤ k ∧ k < w.heap.size ∧ ¬ X k)) w v xs := by
  obtain ⟨h1, h2, h3, h4⟩ := h
  refine h4.sv.mono (fun k hk => ?_)
  rcases hk with (hk | hk) | hk
  · exact .inl hk
  · exact .inr ⟨hk.1, hk.2.1, hk.2.2.2⟩
  · exact .inr ⟨(h4.lt k hk).1, (h4.lt k hk).2, fun hx => (h3 k hx).2 hk⟩
theorem OwnN.sv' (h : OwnN d e I0 X base w v xs) : SV d (fun k => I0 k ∨ base ≤ k) w v xs := h.sv.mono (fun _ hk => hk.imp id (fun hh => hh.1))
theorem OwnN.len (h : OwnN d e I0 X base w v xs) : xs.length ≤ 9223372036854775807 := h.sv.len
/-- One element in a block. -/
theorem row_box {I : Nat → Prop} {W : World} {b t : Nat} {fr : Nat × Nat} {cs : Array Value} {x : α} (h : W.heap[b]? = some (.cells cs t fr)) (hb : I b) (hk : d.K I W x cs.toList) : Row d I W (some ⟨b, 0, none⟩) [x] := by
  refine ⟨by simp, fun _ => ⟨b, 0, rfl, hb, fun j y hy => ?_⟩⟩
  cases j with
  | succ j => simp at hy
  | zero =>
    simp only [List.getElem?_cons_zero, Option.some.injEq] at hy
    subst hy
    refine ⟨_, hk, fun i u hu => ?_⟩
    rw [show World.cell? W ⟨b, 0 + (0 * d.sz + i), none⟩ = cs[i]? by simp [World.cell?, h]]
    rw [← hu]
    simp
end
section
variable {P : Program} {α : Type} {d : Kd α} {I0 X : Nat → Prop} {base : Nat} {w : World} {v : Value} {xs ys : List α} {ops : Array Oper} {rest : List Oper} {o : Oper} {a : Act}
theorem OwnN.grown {w' : World} {v' : Value} {e : TypeId} {zs : List α} (h : OwnN d e I0 X base w v xs) (h1 : Own d e (New I0 X base w v) w' base v' zs) (hg : Grew v w v' w') : OwnN d e I0 X base w' v' zs := by
  obtain ⟨k1, k2, k3, k4⟩ := h
  refine ⟨k1, Nat.le_trans k2 hg.size, fun k hk => ⟨Nat.lt_of_lt_of_le (k3 k hk).1 hg.size, ?_⟩, h1.mono (fun k hk => ?_) (fun k hk hn => ?_)⟩
  · exact hg.ne (k3 k hk).2 (k3 k hk).1
  · rcases hk with hk | ⟨p, q, r, s⟩
    · exact .inl hk
    · exact .inr ⟨p, Nat.lt_of_lt_of_le q hg.size, hg.ne r q, s⟩
  · rcases hn with hn | hn
    · have := (k1 k hn).1
      have := (h1.lt k hk).1
      omega
    · exact hn.2.2.1 hk
/-- append(v, ys...). -/
theorem wpList_append_OwnN {Q : Exit → Act → World → Prop} (hgd : o.guard = none) (s x : Operand) (t e : TypeId) (z : Value) (bytes : Nat)
    (ho : o.op = .call { callee := .builtin .append, args := #[s, x], argTypes := #[t, t] }) (ht : P.underlying t = some (.slice e))
    (hinfo : (P.info? e).map (fun i => (i.zero, i.size, i.bytes)) = some (some z, d.sz, bytes)) (hz : z.cells.size = d.sz)
    (hs : a.eval s = v) (hown : OwnN d e I0 X base w v xs) (A : Option Addr) (c : Nat) (hx : a.eval x = .slice A ys.length c) (hr : Row d (New I0 X base w v) w A ys)
    (h63 : xs.length + ys.length ≤ 140737488355328) (hbytes : (xs.length + ys.length) * bytes ≤ 140737488355328)
    (h : ∀ v' w', OwnN d e I0 X base w' v' (xs ++ ys) → Grew v w v' w' → wpList P ops Q rest (a.put o.dst v') w') : wpList P ops Q (o :: rest) a w := by
  refine wpList_append_Own (d := d) (I := New I0 X base w v) (J := New I0 X base w v) (xs := xs) (ys := ys) hgd base s x t e z bytes ho ht hinfo hz d.pos v hs hown.2.2.2 A c hx hr (fun _ _ hk => hk) h63 hbytes hown.2.1 (fun k hk hn => by have := hown.new_lt k hn; omega) ?_
  intro v' w' h1 hg
  exact h v' w' (hown.grown h1 hg) hg
theorem step_append_OwnN {K : Act → World → Prop} {Q : Exit → Act → World → Prop} {E : Prop} (hgd : o.guard = none) (s x : Operand) (t e : TypeId) (z : Value) (bytes : Nat)
    (ho : o.op = .call { callee := .builtin .append, args := #[s, x], argTypes := #[t, t] }) (ht : P.underlying t = some (.slice e))
    (hinfo : (P.info? e).map (fun i => (i.zero, i.size, i.bytes)) = some (some z, d.sz, bytes)) (hz : z.cells.size = d.sz)
    (hs : a.eval s = v) (hown : OwnN d e I0 X base w v xs) (A : Option Addr) (c : Nat) (hx : a.eval x = .slice A ys.length c) (hr : Row d (New I0 X base w v) w A ys)
    (h63 : xs.length + ys.length ≤ 140737488355328) (hbytes : (xs.length + ys.length) * bytes ≤ 140737488355328)
    (h : ∀ v' w', OwnN d e I0 X base w' v' (xs ++ ys) → Grew v w v' w' → K (a.put o.dst v') w') : if Region.wanted o (yielded ops a.tmps) = true then Oper.wp P o a w K Q else E := by
  refine step_append_Own (d := d) (I := New I0 X base w v) (J := New I0 X base w v) (xs := xs) (ys := ys) hgd base s x t e z bytes ho ht hinfo hz d.pos v hs hown.2.2.2 A c hx hr (fun _ _ hk => hk) h63 hbytes hown.2.1 (fun k hk hn => by have := hown.new_lt k hn; omega) ?_
  intro v' w' h1 hg
  exact h v' w' (hown.grown h1 hg) hg
/-- append(v, y): the element has just been laid in a block of its own. -/
theorem arm_one {Q : Exit → Act → World → Prop} {y : α} (hgd : o.guard = none) (s x : Operand) (t e : TypeId) (z : Value) (bytes : Nat)
    (ho : o.op = .call { callee := .builtin .append, args := #[s, x], argTypes := #[t, t] }) (ht : P.underlying t = some (.slice e))
    (hinfo : (P.info? e).map (fun i => (i.zero, i.size, i.bytes)) = some (some z, d.sz, bytes)) (hz : z.cells.size = d.sz)
    (hs : a.eval s = v) (hown : OwnN d e I0 X base w v xs) (cs : Array Value) (te : TypeId) (hk : d.K (New I0 X base w v) w y cs.toList) (hx : a.eval x = .slice (some ⟨w.heap.size, 0, none⟩) 1 1)
    (h63 : xs.length + 1 ≤ 140737488355328) (hbytes : (xs.length + 1) * bytes ≤ 140737488355328)
    (h : ∀ v' w', OwnN d e I0 X base w' v' (xs ++ [y]) → Grew v w v' w' → wpList P ops Q rest (a.put o.dst v') w') : wpList P ops Q (o :: rest) a (w.alloc (.cells cs te)) := by
  have hB : Below w.heap.size w (w.alloc (.cells cs te)) := (Below.refl _ _).alloc (Nat.le_refl _) _
  refine wpList_append_OwnN (d := d) (xs := xs) (ys := [y]) hgd s x t e z bytes ho ht hinfo hz hs (hown.below hB) (some ⟨w.heap.size, 0, none⟩) 1 hx (row_box (heap_alloc_new w _) ?_ ?_) h63 hbytes ?_
  · have h3 := hown.2.2.1
    exact .inr ⟨hown.2.1, by simp, fun e => by have := (hown.lt _ e).2; omega, fun hX => by have := (h3 _ hX).1; omega⟩
  · exact d.mono (fun k hk => hk.imp id (fun ⟨p, q, r, s⟩ => ⟨p, by simp; omega, r, s⟩)) (d.step (Agr.of_below hB _) hk)
  · intro v' w' h1 hg
    exact h v' w' h1 (Grew.after hB hg)
/-- The same inside a region that draws its order. -/
theorem step_one {K : Act → World → Prop} {Q : Exit → Act → World → Prop} {E : Prop} {y : α} (hgd : o.guard = none) (s x : Operand) (t e : TypeId) (z : Value) (bytes : Nat)
    (ho : o.op = .call { callee := .builtin .append, args := #[s, x], argTypes := #[t, t] }) (ht : P.underlying t = some (.slice e))
    (hinfo : (P.info? e).map (fun i => (i.zero, i.size, i.bytes)) = some (some z, d.sz, bytes)) (hz : z.cells.size = d.sz)
    (hs : a.eval s = v) (hown : OwnN d e I0 X base w v xs) (cs : Array Value) (te : TypeId) (hk : d.K (New I0 X base w v) w y cs.toList) (hx : a.eval x = .slice (some ⟨w.heap.size, 0, none⟩) 1 1)
    (h63 : xs.length + 1 ≤ 140737488355328) (hbytes : (xs.length + 1) * bytes ≤ 140737488355328)
    (h : ∀ v' w', OwnN d e I0 X base w' v' (xs ++ [y]) → Grew v w v' w' → K (a.put o.dst v') w') : if Region.wanted o (yielded ops a.tmps) = true then Oper.wp P o a (w.alloc (.cells cs te)) K Q else E := by
  have hB : Below w.heap.size w (w.alloc (.cells cs te)) := (Below.refl _ _).alloc (Nat.le_refl _) _
  refine step_append_OwnN (d := d) (xs := xs) (ys := [y]) hgd s x t e z bytes ho ht hinfo hz hs (hown.below hB) (some ⟨w.heap.size, 0, none⟩) 1 hx (row_box (heap_alloc_new w _) ?_ ?_) h63 hbytes ?_
  · have h3 := hown.2.2.1
    exact .inr ⟨hown.2.1, by simp, fun e => by have := (hown.lt _ e).2; omega, fun hX => by have := (h3 _ hX).1; omega⟩
  · exact d.mono (fun k hk => hk.imp id (fun ⟨p, q, r, s⟩ => ⟨p, by simp; omega, r, s⟩)) (d.step (Agr.of_below hB _) hk)
  · intro v' w' h1 hg
    exact h v' w' h1 (Grew.after hB hg)
end
end Go.Proofs.Ytdgdiikijjlnnaa.M
