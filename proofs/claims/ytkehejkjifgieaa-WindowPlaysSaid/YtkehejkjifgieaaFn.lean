/- A block of cells as a function from places to values. -/
import Derived.Test.YtkehejkjifgieaaBase
import Derived.Deep.MidRow
import Derived.Deep.Upon
namespace Go.Proofs.Ytkehejkjifgieaa
open Go.RowKit Go.ChangeMaps

/-- Block b of w is a row of n cells of type T, none frozen; cell j holds f j. -/
def Fn (w : World) (b : Nat) (T : TypeId) (n : Nat) (f : Nat → Value) : Prop := ∃ cs : Array Value, Blk w b cs T ∧ cs.size = n ∧ ∀ j, j < n → cs[j]? = some (f j)
def set1 (f : Nat → Value) (i : Nat) (v : Value) : Nat → Value := fun j => if j = i then v else f j
section
variable {w w' : World} {b n : Nat} {T : TypeId} {f g : Nat → Value}
theorem Fn.lt (h : Fn w b T n f) : b < w.heap.size := by obtain ⟨cs, h1, _⟩ := h; exact h1.lt
theorem Fn.of_block (h : Fn w b T n f) (hb : w'.heap[b]? = w.heap[b]?) : Fn w' b T n f := by
  obtain ⟨cs, h1, h2⟩ := h
  exact ⟨cs, h1.of_block hb, h2⟩
theorem Fn.below {B : Nat} (h : Fn w b T n f) (hb : Below B w w') (hB : b < B) : Fn w' b T n f := h.of_block (hb.block b hB)
theorem Fn.mod {S : Nat → Prop} (h : Fn w b T n f) (m : Mod S w w') (hs : ¬ S b) : Fn w' b T n f := h.of_block (m.block b h.lt hs)
theorem Fn.cell (h : Fn w b T n f) {j : Nat} (hj : j < n) : w.cell? ⟨b, j, none⟩ = some (f j) := by
  obtain ⟨cs, h1, _, h3⟩ := h
  exact h1.cellv (h3 j hj)
theorem Fn.frozen (h : Fn w b T n f) (j : Nat) : w.frozen? ⟨b, j, none⟩ = false := by
  obtain ⟨cs, h1, _⟩ := h
  exact h1.frozen j
theorem Fn.set (h : Fn w b T n f) (i : Nat) (v : Value) : Fn (w.setCell ⟨b, i, none⟩ v) b T n (set1 f i v) := by
  obtain ⟨cs, h1, h2, h3⟩ := h
  refine ⟨_, h1.set i v, by simp [h2], fun j hj => ?_⟩
  unfold set1
  by_cases e : j = i
  · subst e; rw [if_pos rfl, Array.getElem?_setIfInBounds_self_of_lt (by omega)]
  · rw [if_neg e, Array.getElem?_setIfInBounds_ne (Ne.symm e)]; exact h3 j hj
theorem Fn.other (h : Fn w b T n f) {a : Addr} (hne : a.block ≠ b) (v : Value) : Fn (w.setCell a v) b T n f := h.of_block (Below.heap_setCell _ _ _ _ (Ne.symm hne))
theorem Fn.alloc (h : Fn w b T n f) (o : Obj) : Fn (w.alloc o) b T n f := h.of_block (Below.heap_alloc _ _ _ h.lt)
theorem Fn.congr (h : Fn w b T n f) (e : ∀ j, j < n → g j = f j) : Fn w b T n g := by
  obtain ⟨cs, h1, h2, h3⟩ := h
  exact ⟨cs, h1, h2, fun j hj => by rw [e j hj]; exact h3 j hj⟩
theorem Fn.new (w : World) (cs : Array Value) (T : TypeId) {n : Nat} {f : Nat → Value} (hn : cs.size = n) (hf : ∀ j, j < n → cs[j]? = some (f j)) : Fn (w.alloc (.cells cs T)) w.heap.size T n f := ⟨cs, Blk.new w cs T, hn, hf⟩
theorem Fn.ne {b' n' : Nat} {T' : TypeId} {f' : Nat → Value} (h : Fn w b T n f) (h' : Fn w b' T' n' f') (hT : T ≠ T') : b ≠ b' := by
  obtain ⟨cs, h1, _⟩ := h
  obtain ⟨cs', h1', _⟩ := h'
  exact h1.ne h1' hT
end
def arr (n : Nat) (f : Nat → Value) : Array Value := ((List.range n).map f).toArray
theorem arr_size (n : Nat) (f : Nat → Value) : (arr n f).size = n := by simp [arr]
theorem arr_get (n : Nat) (f : Nat → Value) {i : Nat} (h : i < n) : (arr n f)[i]? = some (f i) := by simp [arr, h]
theorem arr_congr {n : Nat} {f g : Nat → Value} (h : ∀ i, i < n → f i = g i) : arr n f = arr n g := by
  unfold arr; congr 1; exact List.map_congr_left (fun i hi => h i (List.mem_range.1 hi))
theorem arr_ext {cs : Array Value} {n : Nat} {f : Nat → Value} (hn : cs.size = n) (h : ∀ i, i < n → cs[i]? = some (f i)) : cs = arr n f := by
  apply Array.ext_getElem?
  intro i
  by_cases hi : i < n
  · rw [h i hi, arr_get _ _ hi]
  · rw [Array.getElem?_eq_none (by omega), Array.getElem?_eq_none (by rw [arr_size]; omega)]
theorem Fn.arr (w : World) (T : TypeId) (n : Nat) (f : Nat → Value) : Fn (w.alloc (.cells (arr n f) T)) w.heap.size T n f := Fn.new w _ T (arr_size n f) (fun _ hj => arr_get n f hj)
/-- A range of the row's cells, as a list. -/
theorem Fn.range {w : World} {b n : Nat} {T : TypeId} {f : Nat → Value} (h : Fn w b T n f) (o k : Nat) (ho : o + k ≤ n) (g : Nat → Value) (hg : ∀ j, j < k → g j = f (o + j)) : w.rangeAt b o ((List.range k).map g) := by
  intro j v hv
  by_cases hj : j < k
  · simp [hj] at hv
    rw [← hv, hg j hj]; exact h.cell (by omega)
  · simp [List.getElem?_eq_none (show ((List.range k).map g).length ≤ j by simp; omega)] at hv
/-- A row stored over whole. -/
theorem Fn.setCells {b n : Nat} {T : TypeId} : ∀ (vs : List Value) (o : Nat) (w : World) (f : Nat → Value), Fn w b T n f → ∀ g : Nat → Value, (∀ j, j < vs.length → vs[j]? = some (g (o + j))) → (∀ j, j < n → j < o ∨ o + vs.length ≤ j → g j = f j) → Fn (w.setCells b o vs) b T n g := by
  intro vs
  induction vs with
  | nil => intro o w f h g _ h2; exact h.congr (fun j hn => h2 j hn (by simp; omega))
  | cons v vs ih =>
    intro o w f h g h1 h2
    refine ih (o + 1) _ _ (h.set o v) g (fun j hj => ?_) (fun j hn hj => ?_)
    · have := h1 (j + 1) (by simp; omega)
      rw [List.getElem?_cons_succ] at this
      rw [this, show o + 1 + j = o + (j + 1) by omega]
    · unfold set1
      by_cases e : j = o
      · subst e
        rw [if_pos rfl]
        have := h1 0 (by simp)
        rw [List.getElem?_cons_zero] at this
        exact (Option.some.inj this).symm
      · rw [if_neg e]; exact h2 j hn (by simp; omega)
theorem Mod.setCells {S : Nat → Prop} {a : World} {b : Nat} : ∀ (vs : List Value) (o : Nat) (w : World), Mod S a w → (b < a.heap.size → S b) → Mod S a (w.setCells b o vs) := by
  intro vs
  induction vs with
  | nil => intro o w h _; exact h
  | cons v vs ih => intro o w h hS; exact ih (o + 1) _ (h.setCell (p := ⟨b, o, none⟩) hS v) hS
theorem index_agg {P : Program} {t e : TypeId} {n : Nat} {k : IntKind} {cs : Array Value} {i : Nat} {v : Value} (ht : P.underlying t = some (.array n e)) (he : P.underlying e = some (.int k)) (hinfo : (P.info? e).map (·.size) = some 1) (hi : i < n) (hv : cs[i]? = some v) (w : World) :
    (Instr.index t (.agg cs) (.int .i64 i)).run P w = .ok v w := by
  cases hq : P.info? e with
  | none => simp [hq] at hinfo
  | some inf =>
    have hs : inf.size = 1 := by simpa [hq] using hinfo
    simp [Instr.index, asIntOf, run_underlying ht, sizeOf, typeInfo, hq, hs, Result.andThen, hi, part, isAgg, run_underlying he, hv]
theorem Fn.storeAll {w : World} {b n : Nat} {T : TypeId} {f : Nat → Value} (h : Fn w b T n f) (g : Nat → Value) : Fn (w.setCells b 0 (Go.Proofs.Ytkehejkjifgieaa.arr n g).toList) b T n g :=
  Fn.setCells _ 0 _ _ h g (fun j hj => by rw [Nat.zero_add, Array.getElem?_toList, arr_get _ _ (by simpa [arr_size] using hj)]) (fun j hn hj => by simp [arr_size] at hj; omega)
theorem Fn.setCells_other {w : World} {b b' n o : Nat} {T : TypeId} {f : Nat → Value} (h : Fn w b T n f) (vs : List Value) (hne : b ≠ b') : Fn (w.setCells b' o vs) b T n f := h.of_block (World.heap_setCells_other w b' o vs h.lt hne)
theorem Fn.there {w : World} {b n : Nat} {T : TypeId} {f : Nat → Value} (h : Fn w b T n f) (o k : Nat) (ho : o + k ≤ n) : w.there b o k := fun j hj => ⟨by rw [h.cell (by omega)]; rfl, h.frozen _⟩
end Go.Proofs.Ytkehejkjifgieaa
