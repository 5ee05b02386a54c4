/- What lies in memory, told once: readings of rows of elements with the blocks that they lie in (footprint I), kind by kind; rows that a call owns. No program in sight. -/
import Derived.WalkKit
import Derived.Below
import Derived.OwnWalk
import Derived.Lib.Hide
import Derived.Deep.Draws
namespace Go.Proofs.Ytdgdiikijjlnnaa.M
open Go.RowKit

/-! ### worlds -/
/-- The blocks of I are as they were. -/
def Agr (I : Nat → Prop) (w w' : World) : Prop := ∀ k, I k → k < w.heap.size → w'.heap[k]? = w.heap[k]?
theorem Agr.refl (I : Nat → Prop) (w : World) : Agr I w w := fun _ _ _ => rfl
theorem Agr.of_below {w w' : World} (h : Below w.heap.size w w') (I : Nat → Prop) : Agr I w w' := fun k _ hk => h.block k hk
theorem Agr.cell {I : Nat → Prop} {w w' : World} (h : Agr I w w') {a : Addr} {v : Value} (hI : I a.block) (hc : w.cell? a = some v) : w'.cell? a = some v := by
  rw [World.cell?_of_block (h _ hI (World.block_lt_of_cell? w a hc))]
  exact hc
theorem Agr.mono {I J : Nat → Prop} {w w' : World} (h : Agr I w w') (hJ : ∀ k, J k → I k) : Agr J w w' := fun k hk hlt => h k (hJ k hk) hlt
/-- All but the blocks of S (and what is new) is as it was. -/
structure Mod (S : Nat → Prop) (w w' : World) : Prop where
  os : w'.os = w.os
  tape : w'.tape = w.tape
  output : w'.output = w.output
  size : w.heap.size ≤ w'.heap.size
  block : ∀ k, k < w.heap.size → ¬ S k → w'.heap[k]? = w.heap[k]?
section
variable {S S' : Nat → Prop} {w w1 w2 : World}
theorem Mod.refl (S : Nat → Prop) (w : World) : Mod S w w := ⟨rfl, rfl, rfl, Nat.le_refl _, fun _ _ _ => rfl⟩
theorem Mod.of_below (h : Below w.heap.size w w1) : Mod S w w1 := ⟨h.os, h.tape, h.output, h.size, fun k hk _ => h.block k hk⟩
theorem Mod.mono (h : Mod S w w1) (hS : ∀ k, S k → S' k) : Mod S' w w1 := ⟨h.os, h.tape, h.output, h.size, fun k hk hn => h.block k hk (fun hs => hn (hS k hs))⟩
theorem Mod.trans (h : Mod S w w1) (k : Mod S w1 w2) : Mod S w w2 :=
  ⟨k.os.trans h.os, k.tape.trans h.tape, k.output.trans h.output, Nat.le_trans h.size k.size, fun i hi hn => (k.block i (Nat.lt_of_lt_of_le hi h.size) hn).trans (h.block i hi hn)⟩
/-- What is written next may be what is new since. -/
theorem Mod.trans' (h : Mod S w w1) (k : Mod S' w1 w2) (hS : ∀ i, S' i → S i ∨ w.heap.size ≤ i) : Mod S w w2 :=
  ⟨k.os.trans h.os, k.tape.trans h.tape, k.output.trans h.output, Nat.le_trans h.size k.size, fun i hi hn => (k.block i (Nat.lt_of_lt_of_le hi h.size) (fun hs => (hS i hs).elim hn (fun hh => by omega))).trans (h.block i hi hn)⟩
theorem Mod.below (h : Mod S w w1) (k : Below w1.heap.size w1 w2) : Mod S w w2 := h.trans (Mod.of_below k)
theorem Mod.alloc (h : Mod S w w1) (o : Obj) : Mod S w (w1.alloc o) := h.below ((Below.refl _ _).alloc (Nat.le_refl _) o)
theorem Mod.drew (h : Mod S w w1) : Mod S w w1.drew := ⟨h.os, h.tape, h.output, h.size, h.block⟩
theorem Mod.drewN (h : Mod S w w1) (n : Nat) : Mod S w (w1.drewN n) := ⟨h.os, h.tape, h.output, h.size, h.block⟩
theorem Mod.setCell (h : Mod S w w1) {p : Addr} (hp : S p.block ∨ w.heap.size ≤ p.block) (v : Value) : Mod S w (w1.setCell p v) :=
  h.trans' (S' := fun k => k = p.block) ⟨rfl, rfl, rfl, by simp [World.setCell], fun k _ hn => Below.heap_setCell _ _ _ _ hn⟩ (fun i hi => by rw [hi]; exact hp)
theorem Mod.agr (h : Mod S w w1) {I : Nat → Prop} (hI : ∀ k, I k → ¬ S k) : Agr I w w1 := fun k hk hlt => h.block k hlt (hI k hk)
theorem Mod.to_below (h : Mod (fun _ => False) w w1) : Below w.heap.size w w1 := ⟨h.os, h.tape, h.output, h.size, fun k hk => h.block k hk (fun x => x)⟩
/-- Of what came in nothing has turned, if what was written is new. -/
theorem Mod.to_below' (h : Mod S w w1) (hS : ∀ k, S k → w.heap.size ≤ k) : Below w.heap.size w w1 := ⟨h.os, h.tape, h.output, h.size, fun k hk => h.block k hk (fun hs => by have := hS k hs; omega)⟩
end

/-- A cell that is not of what was written. -/
theorem mod_cell {S : Nat → Prop} {w w1 : World} (h : Mod S w w1) {a : Addr} {v : Value} (hn : ¬ S a.block) (hc : w.cell? a = some v) : w1.cell? a = some v := (h.agr (I := fun k => ¬ S k) (fun _ hk => hk)).cell hn hc
theorem mod_free {S : Nat → Prop} {w w1 : World} (h : Mod S w w1) {a : Addr} (hn : ¬ S a.block) (hlt : a.block < w.heap.size) (hf : w.frozen? a = false) : w1.frozen? a = false := by
  rw [World.frozen?_of_block (h.block a.block hlt hn)]
  exact hf
theorem below_blk {w w1 : World} (h : Below w.heap.size w w1) {k : Nat} {o : Obj} (hk : w.heap[k]? = some o) : w1.heap[k]? = some o := (h.block k (Array.getElem?_eq_some_iff.1 hk).1).trans hk
theorem mod_blk {S : Nat → Prop} {w w1 : World} (h : Mod S w w1) {k : Nat} {o : Obj} (hk : w.heap[k]? = some o) (hn : ¬ S k) : w1.heap[k]? = some o := (h.block k (Array.getElem?_eq_some_iff.1 hk).1 hn).trans hk
theorem alloc_blk {w : World} {k : Nat} {o : Obj} (hk : w.heap[k]? = some o) (o' : Obj) : (w.alloc o').heap[k]? = some o := (Below.heap_alloc w o' k (Array.getElem?_eq_some_iff.1 hk).1).trans hk
theorem set_blk {w : World} {k : Nat} {o : Obj} (hk : w.heap[k]? = some o) {a : Addr} (hne : k ≠ a.block) (v : Value) : (w.setCell a v).heap[k]? = some o := (Below.heap_setCell w a v k hne).trans hk
/-- As rules for a walk: what a call that writes block g alone leaves. -/
theorem mcell {g : Nat} {W w1 : World} (h : Mod (· = g) W w1) : (∀ b o, b ≠ g → b < W.heap.size → w1.cell? ⟨b, o, none⟩ = W.cell? ⟨b, o, none⟩) ∧ (∀ b o, b ≠ g → b < W.heap.size → w1.frozen? ⟨b, o, none⟩ = W.frozen? ⟨b, o, none⟩) :=
  ⟨fun b _ hn hlt => World.cell?_of_block (h.block b hlt hn), fun b _ hn hlt => World.frozen?_of_block (h.block b hlt hn)⟩
/-- A new block of cells behind a call that writes block g alone. -/
theorem mod_new {g : Nat} {w w1 : World} {cs : Array Value} {t : TypeId} (h : Mod (· = g) (w.alloc (.cells cs t)) w1) (hg : g < w.heap.size) : w1.heap[w.heap.size]? = some (.cells cs t (0, 0)) := by
  rw [h.block w.heap.size (by simp) (by omega)]
  exact heap_alloc_new w _

/-! ### kinds -/
/-- How an element lies in memory: its cells, and what these lead to, in the blocks of I. -/
structure Kd (α : Type) where
  sz : Nat
  pos : 0 < sz
  K : (Nat → Prop) → World → α → List Value → Prop
  len : ∀ {I w x cs}, K I w x cs → cs.length = sz
  one : ∀ {I w x cs}, K I w x cs → ∀ u ∈ cs, u.oneCell' = true
  step : ∀ {I w w' x cs}, Agr I w w' → K I w x cs → K I w' x cs
  mono : ∀ {I J : Nat → Prop} {w x cs}, (∀ k, I k → J k) → K I w x cs → K J w x cs
  bound : ∀ {I : Nat → Prop} {w x cs}, K I w x cs → K (fun k => I k ∧ k < w.heap.size) w x cs

/-- A row of elements that is read. -/
def Row {α : Type} (d : Kd α) (I : Nat → Prop) (w : World) (A : Option Addr) (xs : List α) : Prop :=
  xs.length ≤ 9223372036854775807 ∧ (xs ≠ [] → ∃ b o, A = some ⟨b, o, none⟩ ∧ I b ∧ ∀ j x, xs[j]? = some x → ∃ cs, d.K I w x cs ∧ ∀ i v, cs[i]? = some v → w.cell? ⟨b, o + (j * d.sz + i), none⟩ = some v)
section
variable {α : Type} {d : Kd α} {I J : Nat → Prop} {w w' : World} {A : Option Addr} {xs : List α}
theorem Row.nil (d : Kd α) (I : Nat → Prop) (w : World) (A : Option Addr) : Row d I w A [] := ⟨by simp, fun h => absurd rfl h⟩
theorem Row.step (hA : Agr I w w') (h : Row d I w A xs) : Row d I w' A xs := by
  refine ⟨h.1, fun hn => ?_⟩
  obtain ⟨b, o, e, hb, hc⟩ := h.2 hn
  refine ⟨b, o, e, hb, fun j x hx => ?_⟩
  obtain ⟨cs, hk, hcc⟩ := hc j x hx
  exact ⟨cs, d.step hA hk, fun i v hv => hA.cell hb (hcc i v hv)⟩
theorem Row.mono (hI : ∀ k, I k → J k) (h : Row d I w A xs) : Row d J w A xs := by
  refine ⟨h.1, fun hn => ?_⟩
  obtain ⟨b, o, e, hb, hc⟩ := h.2 hn
  refine ⟨b, o, e, hI _ hb, fun j x hx => ?_⟩
  obtain ⟨cs, hk, hcc⟩ := hc j x hx
  exact ⟨cs, d.mono hI hk, hcc⟩
theorem Row.below (h : Row d I w A xs) (hb : Below w.heap.size w w') : Row d I w' A xs := h.step (Agr.of_below hb I)
/-- What a reading lies in is there. -/
theorem Row.bound (h : Row d I w A xs) : Row d (fun k => I k ∧ k < w.heap.size) w A xs := by
  by_cases hx : xs = []
  · subst hx
    exact Row.nil _ _ _ _
  refine ⟨h.1, fun hn => ?_⟩
  obtain ⟨b, o, e, hb, hc⟩ := h.2 hn
  refine ⟨b, o, e, ⟨hb, ?_⟩, fun j x hx => ?_⟩
  · obtain ⟨x, r, rfl⟩ := List.exists_cons_of_ne_nil hx
    obtain ⟨cs, hk, hcc⟩ := hc 0 x rfl
    have hl := d.len hk
    have := hcc 0 _ (List.getElem?_eq_getElem (by have := d.pos; omega))
    exact World.block_lt_of_cell? w _ this
  · obtain ⟨cs, hk, hcc⟩ := hc j x hx
    exact ⟨cs, d.bound hk, hcc⟩
/-- The first elements. -/
theorem Row.take (h : Row d I w A xs) (n : Nat) : Row d I w A (xs.take n) := by
  refine ⟨Nat.le_trans (by simp; omega) h.1, fun hn => ?_⟩
  obtain ⟨b, o, e, hb, hc⟩ := h.2 (by rintro rfl; simp at hn)
  refine ⟨b, o, e, hb, fun j x hx => hc j x ?_⟩
  rw [List.getElem?_take] at hx
  split at hx
  · exact hx
  · cases hx
/-- The elements behind the first ones, at an address so many cells on. -/
theorem Row.drop {b o : Nat} (h : Row d I w (some ⟨b, o, none⟩) xs) (n : Nat) : Row d I w (some ⟨b, o + n * d.sz, none⟩) (xs.drop n) := by
  refine ⟨Nat.le_trans (by simp) h.1, fun hn => ?_⟩
  obtain ⟨b', o', e, hb, hc⟩ := h.2 (by rintro rfl; simp at hn)
  injection e with e
  injection e with e1 e2
  subst e1
  subst e2
  refine ⟨b, _, rfl, hb, fun j x hx => ?_⟩
  rw [List.getElem?_drop] at hx
  obtain ⟨cs, hk, hcc⟩ := hc _ x hx
  refine ⟨cs, hk, fun i v hv => ?_⟩
  rw [show o + n * d.sz + (j * d.sz + i) = o + ((n + j) * d.sz + i) by rw [Nat.add_mul]; omega]
  exact hcc i v hv
/-- The same, as the model writes the address. -/
theorem Row.dropA (h : Row d I w A xs) (n : Nat) : Row d I w (A.map fun x => x.add (n * d.sz)) (xs.drop n) := by
  by_cases hx : xs = []
  · subst hx
    simpa using Row.nil d I w _
  · obtain ⟨b, o, rfl, _⟩ := h.2 hx
    have := h.drop n
    simpa [Addr.add_lit] using this
end

/-- A slice's value that reads so. -/
def SV {α : Type} (d : Kd α) (I : Nat → Prop) (w : World) (v : Value) (xs : List α) : Prop := ∃ A c, v = .slice A xs.length c ∧ xs.length ≤ c ∧ Row d I w A xs
section
variable {α : Type} {d : Kd α} {I J : Nat → Prop} {w w' : World} {v : Value} {xs : List α}
theorem SV.nil (d : Kd α) (I : Nat → Prop) (w : World) : SV d I w (.slice none 0 0) [] := ⟨none, 0, rfl, Nat.le_refl _, Row.nil _ _ _ _⟩
theorem SV.step (hA : Agr I w w') (h : SV d I w v xs) : SV d I w' v xs := let ⟨A, c, e, hl, hr⟩ := h; ⟨A, c, e, hl, hr.step hA⟩
theorem SV.mono (hI : ∀ k, I k → J k) (h : SV d I w v xs) : SV d J w v xs := let ⟨A, c, e, hl, hr⟩ := h; ⟨A, c, e, hl, hr.mono hI⟩
theorem SV.below (h : SV d I w v xs) (hb : Below w.heap.size w w') : SV d I w' v xs := h.step (Agr.of_below hb I)
theorem SV.bound (h : SV d I w v xs) : SV d (fun k => I k ∧ k < w.heap.size) w v xs := let ⟨A, c, e, hl, hr⟩ := h; ⟨A, c, e, hl, hr.bound⟩
theorem SV.len (h : SV d I w v xs) : xs.length ≤ 9223372036854775807 := let ⟨_, _, _, _, hr⟩ := h; hr.1
end

/-! ### the kinds themselves -/
/-- A byte. -/
def kByte : Kd UInt8 where
  sz := 1
  pos := by decide
  K := fun _ _ x cs => cs = [.int .u8 x.toNat]
  len := by rintro _ _ _ _ rfl; rfl
  one := by rintro _ _ _ _ rfl; simp [Value.oneCell']
  step := fun _ h => h
  mono := fun _ h => h
  bound := fun h => h
/-- A whole number of a kind. -/
def kInt (k : IntKind) : Kd Int where
  sz := 1
  pos := by decide
  K := fun _ _ x cs => cs = [.int k x] ∧ (Lit.int k x).wf = true
  len := by rintro _ _ _ _ ⟨rfl, _⟩; rfl
  one := by rintro _ _ _ _ ⟨rfl, _⟩; simp [Value.oneCell']
  step := fun _ h => h
  mono := fun _ h => h
  bound := fun h => h
/-- A slice. -/
def kSlice {α : Type} (d : Kd α) : Kd (List α) where
  sz := 1
  pos := by decide
  K := fun I w xs cs => ∃ v, cs = [v] ∧ SV d I w v xs
  len := by rintro _ _ _ _ ⟨v, rfl, _⟩; rfl
  one := by rintro _ _ _ _ ⟨v, rfl, A, c, rfl, _⟩; simp [Value.oneCell']
  step := by rintro _ _ _ _ _ hA ⟨v, rfl, h⟩; exact ⟨v, rfl, h.step hA⟩
  mono := by rintro _ _ _ _ _ hI ⟨v, rfl, h⟩; exact ⟨v, rfl, h.mono hI⟩
  bound := by rintro _ _ _ _ ⟨v, rfl, h⟩; exact ⟨v, rfl, h.bound⟩
/-- The number of a view. -/
structure Vid where
  n : Int
  p : Int
  deriving DecidableEq, Inhabited
def Vid.ok (v : Vid) : Prop := 0 ≤ v.n ∧ v.n ≤ 18446744073709551615 ∧ -9223372036854775808 ≤ v.p ∧ v.p ≤ 9223372036854775807
/-- A label. -/
structure Lab where
  n : Int
  p : Int
  s : Int
  q : Int
  deriving DecidableEq, Inhabited
def Lab.ok (l : Lab) : Prop := 0 ≤ l.n ∧ l.n ≤ 18446744073709551615 ∧ -9223372036854775808 ≤ l.p ∧ l.p ≤ 9223372036854775807 ∧ 0 ≤ l.s ∧ l.s ≤ 18446744073709551615 ∧ -9223372036854775808 ≤ l.q ∧ l.q ≤ 9223372036854775807
def Lab.cs (l : Lab) : List Value := [.int .u64 l.n, .int .i64 l.p, .int .u64 l.s, .int .i64 l.q]
def Lab.vid (l : Lab) : Vid := ⟨l.n, l.p⟩
def kLab : Kd Lab where
  sz := 4
  pos := by decide
  K := fun _ _ x cs => cs = x.cs ∧ x.ok
  len := by rintro _ _ _ _ ⟨rfl, _⟩; rfl
  one := by rintro _ _ _ _ ⟨rfl, _⟩; simp [Lab.cs, Value.oneCell']
  step := fun _ h => h
  mono := fun _ h => h
  bound := fun h => h
/-- An entry. -/
structure Ent where
  l : Lab
  m : List UInt8
  deriving DecidableEq, Inhabited
def kEnt : Kd Ent where
  sz := 5
  pos := by decide
  K := fun I w x cs => ∃ v, cs = x.l.cs ++ [v] ∧ x.l.ok ∧ SV kByte I w v x.m
  len := by rintro _ _ _ _ ⟨v, rfl, _⟩; rfl
  one := by rintro _ _ _ _ ⟨v, rfl, _, A, c, rfl, _⟩; simp [Lab.cs, Value.oneCell']
  step := by rintro _ _ _ _ _ hA ⟨v, rfl, h0, h⟩; exact ⟨v, rfl, h0, h.step hA⟩
  mono := by rintro _ _ _ _ _ hI ⟨v, rfl, h0, h⟩; exact ⟨v, rfl, h0, h.mono hI⟩
  bound := by rintro _ _ _ _ ⟨v, rfl, h0, h⟩; exact ⟨v, rfl, h0, h.bound⟩
/-- A summary. -/
structure Sum where
  con : List Ent
  ord : List Lab
  next : Int
  high : Vid
  deriving DecidableEq, Inhabited
def Sum.K (I : Nat → Prop) (w : World) (x : Sum) (cs : List Value) : Prop :=
  ∃ v u, cs = [v, u, .int .i64 x.next, .int .u64 x.high.n, .int .i64 x.high.p] ∧ SV kEnt I w v x.con ∧ SV kLab I w u x.ord ∧ -9223372036854775808 ≤ x.next ∧ x.next ≤ 9223372036854775807 ∧ x.high.ok
def kSum : Kd Sum where
  sz := 5
  pos := by decide
  K := Sum.K
  len := by rintro _ _ _ _ ⟨v, u, rfl, _⟩; rfl
  one := by rintro _ _ _ _ ⟨v, u, rfl, ⟨A, c, rfl, _⟩, ⟨A', c', rfl, _⟩, _⟩; simp [Value.oneCell']
  step := by rintro _ _ _ _ _ hA ⟨v, u, rfl, h1, h2, h3⟩; exact ⟨v, u, rfl, h1.step hA, h2.step hA, h3⟩
  mono := by rintro _ _ _ _ _ hI ⟨v, u, rfl, h1, h2, h3⟩; exact ⟨v, u, rfl, h1.mono hI, h2.mono hI, h3⟩
  bound := by rintro _ _ _ _ ⟨v, u, rfl, h1, h2, h3⟩; exact ⟨v, u, rfl, h1.bound, h2.bound, h3⟩
/-- A node, and what it told. -/
structure Tol where
  node : Int
  s : Sum
  deriving DecidableEq, Inhabited
def kTol : Kd Tol where
  sz := 6
  pos := by decide
  K := fun I w x cs => ∃ r, cs = .int .i64 x.node :: r ∧ -9223372036854775808 ≤ x.node ∧ x.node ≤ 9223372036854775807 ∧ Sum.K I w x.s r
  len := by rintro _ _ _ _ ⟨r, rfl, _, _, h⟩; simp [kSum.len h, kSum]
  one := by
    rintro _ _ _ _ ⟨r, rfl, _, _, h⟩ u hu
    rcases List.mem_cons.1 hu with rfl | hu
    · rfl
    · exact kSum.one h u hu
  step := by rintro _ _ _ _ _ hA ⟨r, rfl, h0, h1, h⟩; exact ⟨r, rfl, h0, h1, kSum.step hA h⟩
  mono := by rintro _ _ _ _ _ hI ⟨r, rfl, h0, h1, h⟩; exact ⟨r, rfl, h0, h1, kSum.mono hI h⟩
  bound := by rintro _ _ _ _ ⟨r, rfl, h0, h1, h⟩; exact ⟨r, rfl, h0, h1, kSum.bound h⟩
/-- A message, and whose it is. -/
structure Itm where
  f : Int
  m : List UInt8
  deriving DecidableEq, Inhabited
def kItm : Kd Itm where
  sz := 2
  pos := by decide
  K := fun I w x cs => ∃ v, cs = [.int .i64 x.f, v] ∧ -9223372036854775808 ≤ x.f ∧ x.f ≤ 9223372036854775807 ∧ SV kByte I w v x.m
  len := by rintro _ _ _ _ ⟨v, rfl, _⟩; rfl
  one := by rintro _ _ _ _ ⟨v, rfl, _, _, A, c, rfl, _⟩; simp [Value.oneCell']
  step := by rintro _ _ _ _ _ hA ⟨v, rfl, h0, h1, h⟩; exact ⟨v, rfl, h0, h1, h.step hA⟩
  mono := by rintro _ _ _ _ _ hI ⟨v, rfl, h0, h1, h⟩; exact ⟨v, rfl, h0, h1, h.mono hI⟩
  bound := by rintro _ _ _ _ ⟨v, rfl, h0, h1, h⟩; exact ⟨v, rfl, h0, h1, h.bound⟩
end Go.Proofs.Ytdgdiikijjlnnaa.M
