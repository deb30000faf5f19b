/- Words for the worlds that a walk comes to: rows of cells as blocks, and which blocks a call may change. -/
import Derived.WalkKit
import Derived.WalkSpells
import Derived.WalkLawsBesides
import Derived.Maps.OwnSet
namespace Go.Proofs.Ytkehejkjifgieaa
open Go.RowKit Go.ChangeMaps

/-- A fact kept from the walk. -/
theorem hid {p : Prop} (h : p) : Hid p := h

/-- Block b of w is the row of cells cs of type T; none of them is frozen. -/
def Blk (w : World) (b : Nat) (cs : Array Value) (T : TypeId) : Prop := w.heap[b]? = some (.cells cs T (0, 0))
section
variable {w : World} {b : Nat} {cs : Array Value} {T : TypeId}
theorem Blk.lt (h : Blk w b cs T) : b < w.heap.size := (Array.getElem?_eq_some_iff.1 h).1
theorem Blk.cell (h : Blk w b cs T) (i : Nat) : w.cell? ⟨b, i, none⟩ = cs[i]? := cell_of_row w b i cs T (0, 0) h
theorem Blk.cellv (h : Blk w b cs T) {i : Nat} {v : Value} (hv : cs[i]? = some v) : w.cell? ⟨b, i, none⟩ = some v := (h.cell i).trans hv
theorem Blk.frozen (h : Blk w b cs T) (i : Nat) : w.frozen? ⟨b, i, none⟩ = false := frozen_of_row w b i cs T h
theorem Blk.of_block {w' : World} (h : Blk w b cs T) (hb : w'.heap[b]? = w.heap[b]?) : Blk w' b cs T := hb.trans h
theorem Blk.set (h : Blk w b cs T) (i : Nat) (v : Value) : Blk (w.setCell ⟨b, i, none⟩ v) b (cs.setIfInBounds i v) T := heap_setCell_same w b i cs T v h
theorem Blk.other (h : Blk w b cs T) {a : Addr} (hne : a.block ≠ b) (v : Value) : Blk (w.setCell a v) b cs T := h.of_block (Below.heap_setCell _ _ _ _ (Ne.symm hne))
theorem Blk.alloc (h : Blk w b cs T) (o : Obj) : Blk (w.alloc o) b cs T := h.of_block (Below.heap_alloc _ _ _ h.lt)
theorem Blk.new (w : World) (cs : Array Value) (T : TypeId) : Blk (w.alloc (.cells cs T)) w.heap.size cs T := heap_alloc_new w _
theorem Blk.drew (h : Blk w b cs T) : Blk w.drew b cs T := h
theorem Blk.drewN (h : Blk w b cs T) (n : Nat) : Blk (w.drewN n) b cs T := h
theorem Blk.inj {cs' : Array Value} {T' : TypeId} (h : Blk w b cs T) (h' : Blk w b cs' T') : cs = cs' ∧ T = T' := by
  have e := Option.some.inj (h.symm.trans h')
  injection e with e1 e2
  exact ⟨e1, e2⟩
theorem Blk.ne {b' : Nat} {cs' : Array Value} {T' : TypeId} (h : Blk w b cs T) (h' : Blk w b' cs' T') (hT : T ≠ T') : b ≠ b' := by
  rintro rfl; exact hT (h.inj h').2
theorem heap_setBlock {w : World} {b : Nat} (hb : b < w.heap.size) (o : Obj) : (setBlock w b o).heap[b]? = some o := by
  simp [setBlock, hb]
theorem heap_setBlock_ne {w : World} {b k : Nat} (o : Obj) (h : k ≠ b) : (setBlock w b o).heap[k]? = w.heap[k]? := by
  simp only [setBlock, Array.getElem?_setIfInBounds]
  rw [if_neg (Ne.symm h)]
theorem Blk.setBlock (h : Blk w b cs T) {k : Nat} (o : Obj) (hne : b ≠ k) : Blk (setBlock w k o) b cs T := h.of_block (heap_setBlock_ne o hne)
end

theorem ret_bool {a b : Bool} (h : a = b) : Ending.returned (.bool a) = Ending.returned (.bool b) := by rw [h]
theorem ret_int {k : IntKind} {a b : Int} (h : a = b) : Ending.returned (.int k a) = Ending.returned (.int k b) := by rw [h]

/-- Of the blocks of w those outside S are in w' as they were; the streams are. -/
structure Mod (S : Nat → Prop) (w w' : World) : Prop where
  os : w'.os = w.os
  tape : w'.tape = w.tape
  output : w'.output = w.output
  size : w.heap.size ≤ w'.heap.size
  block : ∀ k, k < w.heap.size → ¬ S k → w'.heap[k]? = w.heap[k]?
namespace Mod
variable {S S' : Nat → Prop} {a w w' : World}
theorem refl (S : Nat → Prop) (w : World) : Mod S w w := ⟨rfl, rfl, rfl, Nat.le_refl _, fun _ _ _ => rfl⟩
theorem trans {b c : World} (h : Mod S a b) (k : Mod S b c) : Mod S a c :=
  ⟨k.os.trans h.os, k.tape.trans h.tape, k.output.trans h.output, Nat.le_trans h.size k.size, fun i hi hs => (k.block i (Nat.lt_of_lt_of_le hi h.size) hs).trans (h.block i hi hs)⟩
theorem weaken (h : Mod S w w') (hs : ∀ k, k < w.heap.size → S k → S' k) : Mod S' w w' := ⟨h.os, h.tape, h.output, h.size, fun k hk hn => h.block k hk (fun s => hn (hs k hk s))⟩
/-- Two steps, of which the second may change what the first has made. -/
theorem step {b c : World} (h : Mod S a b) (k : Mod S' b c) (hs : ∀ i, i < a.heap.size → S' i → S i) : Mod S a c :=
  ⟨k.os.trans h.os, k.tape.trans h.tape, k.output.trans h.output, Nat.le_trans h.size k.size, fun i hi hn => (k.block i (Nat.lt_of_lt_of_le hi h.size) (fun s => hn (hs i hi s))).trans (h.block i hi hn)⟩
theorem drew (h : Mod S a w) : Mod S a w.drew := ⟨h.os, h.tape, h.output, h.size, h.block⟩
theorem drewN (h : Mod S a w) (n : Nat) : Mod S a (w.drewN n) := ⟨h.os, h.tape, h.output, h.size, h.block⟩
theorem alloc (h : Mod S a w) (o : Obj) : Mod S a (w.alloc o) :=
  h.trans ⟨rfl, rfl, rfl, by simp, fun k hk _ => Below.heap_alloc _ _ _ hk⟩
theorem setCell (h : Mod S a w) {p : Addr} (hp : p.block < a.heap.size → S p.block) (u : Value) : Mod S a (w.setCell p u) :=
  ⟨h.os, h.tape, h.output, by simpa [World.setCell] using h.size, fun k hk hn => (Below.heap_setCell _ _ _ _ (by rintro rfl; exact hn (hp hk))).trans (h.block k hk hn)⟩
theorem setBlock (h : Mod S a w) {b : Nat} (hp : b < a.heap.size → S b) (o : Obj) : Mod S a (setBlock w b o) :=
  ⟨h.os, h.tape, h.output, by simpa [ChangeMaps.setBlock] using h.size, fun k hk hn => (heap_setBlock_ne o (by rintro rfl; exact hn (hp hk))).trans (h.block k hk hn)⟩
theorem of_below (h : Below w.heap.size w w') (S : Nat → Prop) : Mod S w w' := ⟨h.os, h.tape, h.output, h.size, fun k hk _ => h.block k hk⟩
theorem below (h : Mod S w w') {B : Nat} (hB : B ≤ w.heap.size) (hs : ∀ k, k < B → ¬ S k) : Below B w w' := ⟨h.os, h.tape, h.output, h.size, fun k hk => h.block k (by omega) (hs k hk)⟩
theorem of_grown {row : Option Nat} (h : w.grownBy w' row) (hs : ∀ k, row = some k → S k) : Mod S w w' :=
  ⟨h.os, h.tape, h.output, h.size, fun k hk hn => h.block k hk (fun e => hn (hs k e.symm))⟩
theorem blk (h : Mod S w w') {b : Nat} {cs : Array Value} {T : TypeId} (hb : Blk w b cs T) (hn : ¬ S b) : Blk w' b cs T := hb.of_block (h.block b hb.lt hn)
theorem row (h : Mod S w w') {base : Nat} {e : TypeId} {size n : Nat} {v : Value} {xs : List Value} (ho : w.ownsRow base e size v n xs) (hn : ∀ k, v.ownBlock = some k → ¬ S k) : w'.ownsRow base e size v n xs := by
  refine ⟨ho.1, ?_⟩
  rcases ho.2 with h1 | ⟨g, cap, cur, rfl, h2, h3, h4⟩
  · exact Or.inl h1
  · exact Or.inr ⟨g, cap, cur, rfl, h2, (h.block g (Array.getElem?_eq_some_iff.1 h3).1 (hn g rfl)).trans h3, h4⟩
end Mod
end Go.Proofs.Ytkehejkjifgieaa
