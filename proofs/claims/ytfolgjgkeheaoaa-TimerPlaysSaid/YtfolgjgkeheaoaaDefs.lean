/- Timers as a function from places to entries: what stands in memory, and less. -/
import Derived.Test.YtfolgjgkeheaoaaRows
import Derived.Test.YtfolgjgkeheaoaaHeap
import Derived.Test.YtfolgjgkeheaoaaMaps
import Derived.BigRegion
import Derived.BigQuiet
import Derived.Outline
namespace Go.Proofs.Ytfolgjgkeheaoaa
open Go.RowKit Go.ChangeMaps

def Ents (cur : Array Value) (n : Nat) (f : Nat → Ent) : Prop := ∀ k, k < n → cur[k * 2]? = some (.int .u32 (f k).1) ∧ cur[k * 2 + 1]? = some (.int .u64 (f k).2)
def Where (w : World) (mb n : Nat) (f : Nat → Ent) : Prop :=
  ∃ D, IMap w mb .u32 D ∧ (∀ k, k < n → D (f k).1 = some (.int .i64 (k : Int))) ∧ ∀ x v, D x = some v → ∃ k, k < n ∧ (f k).1 = x
structure Tm (w : World) (t mb : Nat) (sv : Value) (n : Nat) (f : Nat → Ent) : Prop where
  blk : Blk w t #[sv, .map (some mb)] 59
  row : (sv = .slice none 0 0 ∧ n = 0) ∨ ∃ g cap cur, sv = .slice (some ⟨g, 0, none⟩) n cap ∧ Blk w g cur 62 ∧ n ≤ cap ∧ cap ≤ maxLen ∧ cur.size = cap * 2 ∧ Ents cur n f
  map : Where w mb n f
  inj : Inj n f
  few : n ≤ 1001

theorem Ents.sw {cur : Array Value} {n i j : Nat} {f : Nat → Ent} (h : Ents cur n f) (hi : i < n) (hj : j < n) (hc : n * 2 ≤ cur.size) :
    Ents ((((cur.setIfInBounds (i * 2) (.int .u32 (f j).1)).setIfInBounds (i * 2 + 1) (.int .u64 (f j).2)).setIfInBounds (j * 2) (.int .u32 (f i).1)).setIfInBounds (j * 2 + 1) (.int .u64 (f i).2)) n (sw f i j) := by
  intro k hk
  unfold Go.Proofs.Ytfolgjgkeheaoaa.sw
  by_cases e2 : k = j
  · subst e2
    have e : (if k = i then f k else if k = k then f i else f k) = f i := by
      split
      · rename_i h; rw [h]
      · rw [if_pos rfl]
    rw [e]
    constructor
    · rw [Array.getElem?_setIfInBounds_ne (by omega), Array.getElem?_setIfInBounds_self_of_lt (by simp; omega)]
    · rw [Array.getElem?_setIfInBounds_self_of_lt (by simp; omega)]
  · rw [if_neg e2]
    by_cases e1 : k = i
    · subst e1
      rw [if_pos rfl]
      constructor
      · rw [Array.getElem?_setIfInBounds_ne (by omega), Array.getElem?_setIfInBounds_ne (by omega), Array.getElem?_setIfInBounds_ne (by omega), Array.getElem?_setIfInBounds_self_of_lt (by omega)]
      · rw [Array.getElem?_setIfInBounds_ne (by omega), Array.getElem?_setIfInBounds_ne (by omega), Array.getElem?_setIfInBounds_self_of_lt (by simp; omega)]
    · rw [if_neg e1]
      obtain ⟨h1, h2⟩ := h k hk
      constructor
      · rw [Array.getElem?_setIfInBounds_ne (by omega), Array.getElem?_setIfInBounds_ne (by omega), Array.getElem?_setIfInBounds_ne (by omega), Array.getElem?_setIfInBounds_ne (by omega)]; exact h1
      · rw [Array.getElem?_setIfInBounds_ne (by omega), Array.getElem?_setIfInBounds_ne (by omega), Array.getElem?_setIfInBounds_ne (by omega), Array.getElem?_setIfInBounds_ne (by omega)]; exact h2

set_option maxRecDepth 100000 in
set_option maxHeartbeats 2000000 in
theorem less_raw (t hb i j n cap : Nat) (ai aj ti tj : Int) (w : World) (ht : t < w.heap.size) (hh : hb < w.heap.size)
    (h0 : w.cell? ⟨t, 0, none⟩ = some (.slice (some ⟨hb, 0, none⟩) n cap)) (hi : i < n) (hj : j < n) (_ : n ≤ 1001) (_ : n ≤ cap)
    (ci0 : w.cell? ⟨hb, i * 2, none⟩ = some (.int .u32 ai)) (ci1 : w.cell? ⟨hb, i * 2 + 1, none⟩ = some (.int .u64 ti))
    (cj0 : w.cell? ⟨hb, j * 2, none⟩ = some (.int .u32 aj)) (cj1 : w.cell? ⟨hb, j * 2 + 1, none⟩ = some (.int .u64 tj)) :
    Calls Try.prog 26 #[.pointer (some ⟨t, 0, none⟩), .int .i64 i, .int .i64 j] w fun e w' => e = .returned (.bool (lt (ai, ti) (aj, tj))) ∧ Below w.heap.size w w' := by
  go_enter Try.func26, Try.ntmps26
  go_wp2
  go_region
  all_goals
    go_wp2
    all_goals
      go_ret
      refine ⟨ret_bool ?_, ((((Below.refl _ _).alloc (Nat.le_refl _) _).alloc (by simp) _).drew)⟩
      rw [Bool.eq_iff_iff, lt_iff]
      simp
      try omega
end Go.Proofs.Ytfolgjgkeheaoaa
