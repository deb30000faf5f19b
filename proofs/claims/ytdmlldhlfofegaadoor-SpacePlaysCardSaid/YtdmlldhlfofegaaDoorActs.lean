/- Acts as they lie in memory; sectors that are taken and given back: the plain law. No condition. -/
import Derived.Test.YtdmlldhlfofegaaDoorAlive
namespace Go.Proofs.YtdmlldhlfofegaaDoor
open Go.RowKit

def Acts (w : World) (p : Option Addr) (len : Nat) : Prop :=
  ∀ i, i < len → ∃ b off K N A s, p = some ⟨b, off, none⟩ ∧ b < w.heap.size ∧ w.cell? ⟨b, off + i * 4, none⟩ = some (.int .i64 K) ∧ w.cell? ⟨b, off + i * 4 + 1, none⟩ = some (.int .i64 N) ∧ w.cell? ⟨b, off + i * 4 + 2, none⟩ = some (.int .u32 ((A : Nat) : Int)) ∧ A < 4294967296 ∧ w.cell? ⟨b, off + i * 4 + 3, none⟩ = some s
/-- The labels are used. -/
def Lab (X : Nat → W64) : Prop := ∀ j, j < 4 → used X j = true
theorem lab_lab : Lab (labX 4) := fun j hj => by rw [used_lab]; exact decide_eq_true hj
theorem mem_frees {U : Nat → Bool} {p i : Nat} : i ∈ frees U p ↔ i < p ∧ U i = false := by
  unfold frees
  rw [List.mem_filter, List.mem_range]
  simp
theorem frees_inc (U : Nat → Bool) (p : Nat) : (frees U p).Pairwise (· < ·) := List.Pairwise.filter _ List.pairwise_lt_range
theorem frees_lt {U : Nat → Bool} {p i j x y : Nat} (hij : i < j) (hx : (frees U p)[i]? = some x) (hy : (frees U p)[j]? = some y) : x < y := by
  obtain ⟨h1, rfl⟩ := List.getElem?_eq_some_iff.1 hx
  obtain ⟨h2, rfl⟩ := List.getElem?_eq_some_iff.1 hy
  exact List.pairwise_iff_getElem.1 (frees_inc U p) i j h1 h2 hij
theorem cnt_take {U U' : Nat → Bool} {p : Nat} (h : ∀ j, U' j = (U j || decide (j < p))) : ∀ d, cnt U' (p + d) = cnt U (p + d) + (frees U p).length := by
  have hp : ∀ m, m ≤ p → cnt U' m = m := by
    intro m
    induction m with
    | zero => intro _; rfl
    | succ m ih =>
      intro hm
      rw [cnt, ih (by omega), h, decide_eq_true (by omega), Bool.or_true]; rfl
  intro d
  induction d with
  | zero => have := frees_len U p; rw [Nat.add_zero, hp p (Nat.le_refl _)]; omega
  | succ d ih =>
    show cnt U' (p + d) + (U' (p + d)).toNat = cnt U (p + d) + (U (p + d)).toNat + _
    rw [ih, h, decide_eq_false (by omega), Bool.or_false]; omega
theorem cnt_taken {U U' : Nat → Bool} {p n : Nat} (hpn : p ≤ n) (h : ∀ j, U' j = (U j || decide (j < p))) : cnt U' n = cnt U n + (frees U p).length := by
  have := cnt_take h (n - p)
  rwa [show p + (n - p) = n by omega] at this
theorem tight_take {n p : Nat} {X X' : Nat → W64} (ht : Tight n X) (hpn : p ≤ n) (h : ∀ j, used X' j = (used X j || decide (j < p))) : Tight n X' := fun i hi h5 => by
  rw [h, ht i hi h5, decide_eq_false (by omega)]; rfl
theorem lab_take {p : Nat} {X X' : Nat → W64} (hl : Lab X) (h : ∀ j, used X' j = (used X j || decide (j < p))) : Lab X' := fun j hj => by rw [h, hl j hj]; rfl
theorem tight_clr {n i : Nat} {X : Nat → W64} (ht : Tight n X) : Tight n (clrX X i) := fun j hj h5 => by rw [used_clr, ht j hj h5]; rfl
theorem lab_clr {i : Nat} {X : Nat → W64} (hl : Lab X) (hi : 4 ≤ i) : Lab (clrX X i) := fun j hj => by rw [used_clr, hl j hj, decide_eq_false (by omega)]; rfl
theorem lab_four {X : Nat → W64} {i : Nat} (hl : Lab X) (h : used X i = false) : 4 ≤ i := by
  by_cases e : i < 4
  · rw [hl i e] at h; cases h
  · omega
theorem u32v_get {l : List Nat} {i x : Nat} (h : l[i]? = some x) : (u32v l)[i]? = some (.int .u32 (x : Int)) := by
  unfold u32v; rw [List.getElem?_map, h]; rfl
theorem own_row {w : World} {base n : Nat} {v : Value} {xs : List Value} {T : TypeId} (h : w.ownsRow base T 1 v n xs) :
    ∃ p c, v = .slice p n c ∧ ∀ i x, xs[i]? = some x → ∃ g, p = some ⟨g, 0, none⟩ ∧ n ≤ c ∧ base ≤ g ∧ g < w.heap.size ∧ w.cell? ⟨g, i, none⟩ = some x := by
  have hlen := h.1
  rcases h.2 with ⟨h1, h2⟩ | ⟨g, cap, cur, h1, h2, h3, h4, h5, h6, h7⟩
  · subst h2; exact ⟨none, 0, h1, fun i x hx => by have := (List.getElem?_eq_some_iff.1 hx).1; omega⟩
  · refine ⟨_, cap, h1, fun i x hx => ⟨g, rfl, h4, h2, (Array.getElem?_eq_some_iff.1 h3).1, ?_⟩⟩
    rw [cell_of_row w g i cur T (0, 0) h3, ← hx, ← h7, ← Array.getElem?_toList, List.getElem?_take_of_lt]
    have := (List.getElem?_eq_some_iff.1 hx).1
    omega
/-- The first k of l are given back. -/
def Gone (X' : Nat → W64) (l : List Nat) (k : Nat) (Y : Nat → W64) : Prop := ∀ j, used Y j = (used X' j && !decide (j ∈ l.take k))
theorem Gone.zero (X' : Nat → W64) (l : List Nat) : Gone X' l 0 X' := fun j => by simp
theorem Gone.step {X' Y : Nat → W64} {l : List Nat} {k x : Nat} (h : Gone X' l k Y) (hx : l[k]? = some x) : Gone X' l (k + 1) (clrX Y x) := fun j => by
  rw [used_clr, h j, List.take_add_one, hx, Bool.and_assoc]
  congr 1
  by_cases e : j = x
  · subst e; simp
  · simp [e]
end Go.Proofs.YtdmlldhlfofegaaDoor
