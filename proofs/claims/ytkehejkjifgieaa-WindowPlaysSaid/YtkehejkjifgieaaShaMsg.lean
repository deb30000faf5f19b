/- What a hash holds behind the bytes of a message; no walk. -/
import Derived.Test.YtkehejkjifgieaaShaTake
namespace Go.Proofs.Ytkehejkjifgieaa
open Go.RowKit Go.ChangeMaps

theorem word_congr {B B' : Nat → W8} (h : ∀ i, i < 64 → B i = B' i) {j : Nat} (hj : j < 16) : word B j = word B' j := by
  unfold word
  rw [h (4 * j) (by omega), h (4 * j + 1) (by omega), h (4 * j + 2) (by omega), h (4 * j + 3) (by omega)]
theorem wl_congr {B B' : Nat → W8} (h : ∀ i, i < 64 → B i = B' i) (n : Nat) : wl B n = wl B' n := by
  induction n with
  | zero => rfl
  | succ n ih =>
    unfold wl
    rw [ih]
    by_cases hn : n < 16
    · rw [if_pos hn, if_pos hn, word_congr h hn]
    · rw [if_neg hn, if_neg hn]
theorem rnds_congr {B B' : Nat → W8} (h : ∀ i, i < 64 → B i = B' i) (s : St) (n : Nat) : rnds s B n = rnds s B' n := by
  induction n with
  | zero => rfl
  | succ n ih => unfold rnds sched; rw [ih, wl_congr h]
theorem comp_congr {B B' : Nat → W8} (h : ∀ i, i < 64 → B i = B' i) (s : St) : comp s B = comp s B' := by unfold comp; rw [rnds_congr h]

/-- The state behind so many blocks of a message. -/
def bst (m : List W8) : Nat → St
  | 0 => start
  | n + 1 => comp (bst m n) (fun i => m.getD (64 * n + i) 0)
theorem getD_append (m x : List W8) {i : Nat} (h : i < m.length) : (m ++ x).getD i 0 = m.getD i 0 := by
  simp [List.getD_eq_getElem?_getD, List.getElem?_append_left h]
theorem bst_append (m x : List W8) (n : Nat) (h : 64 * n ≤ m.length) : bst (m ++ x) n = bst m n := by
  induction n with
  | zero => rfl
  | succ n ih =>
    unfold bst
    rw [ih (by omega)]
    exact comp_congr (fun i hi => getD_append m x (by omega)) _
/-- A hash at block h that holds the bytes m, and says that it holds so many. -/
def HsL (w : World) (h : Nat) (m : List W8) (long : Int) : Prop :=
  ∃ B, HashAt w h (bst m (m.length / 64)) B ((m.length % 64 : Nat) : Int) long ∧ ∀ i, i < m.length % 64 → B i = m.getD (64 * (m.length / 64) + i) 0
def Hs (w : World) (h : Nat) (m : List W8) : Prop := HsL w h m (m.length : Int)
theorem HsL.lt {w : World} {h : Nat} {m : List W8} {long : Int} (H : HsL w h m long) : h < w.heap.size := by obtain ⟨B, h1, _⟩ := H; exact Fn.lt h1
theorem HsL.of_block {w w' : World} {h : Nat} {m : List W8} {long : Int} (H : HsL w h m long) (hb : w'.heap[h]? = w.heap[h]?) : HsL w' h m long := by
  obtain ⟨B, h1, h2⟩ := H; exact ⟨B, Fn.of_block h1 hb, h2⟩

/-- The bytes that are copied into the block. -/
def fill (B : Nat → W8) (L n : Nat) (x : Nat → W8) : Nat → W8 := fun i => if L ≤ i ∧ i < L + n then x (i - L) else B i
theorem filled {w : World} {h : Nat} {s : St} {B : Nat → W8} {held long : Int} (H : HashAt w h s B held long) {L n : Nat} (hn : L + n ≤ 64) (x : Nat → W8) (cs : List Value) (hl : cs.length = n) (hc : ∀ j, j < n → cs[j]? = some (.int .u8 (ub (x j)))) (v : Int) :
    HashAt ((w.setCells h (8 + L) cs).setCell ⟨h, 72, none⟩ (.int .i64 v)) h s (fill B L n x) v long := by
  have F := Fn.setCells cs (8 + L) w _ H (hcell s (fill B L n x) held long) (fun j hj => by
    rw [hc j (by omega)]
    unfold hcell fill
    rw [if_neg (by omega), if_pos (by omega), if_pos (by omega), show 8 + L + j - 8 - L = j by omega]) (fun j hj hj2 => by
    unfold hcell fill
    by_cases e1 : j < 8
    · rw [if_pos e1, if_pos e1]
    · rw [if_neg e1, if_neg e1]
      by_cases e2 : j < 72
      · rw [if_pos e2, if_pos e2, if_neg (by omega)]
      · rw [if_neg e2, if_neg e2])
  refine (F.set 72 (.int .i64 v)).congr (fun j hj => ?_)
  unfold set1 hcell
  by_cases e : j = 72
  · subst e; rfl
  · rw [if_neg e]
    by_cases e1 : j < 8
    · rw [if_pos e1, if_pos e1, if_neg e]
    · rw [if_neg e1, if_neg e1]
      by_cases e2 : j < 72
      · rw [if_pos e2, if_pos e2, if_neg e]
      · rw [if_neg e2, if_neg e2, if_neg e, if_neg e]
theorem msg_part {w : World} {h : Nat} {m x : List W8} {B : Nat → W8} {long : Int} {n : Nat} (hx : x.length = n) (hn : m.length % 64 + n < 64) (hB : ∀ i, i < m.length % 64 → B i = m.getD (64 * (m.length / 64) + i) 0)
    (H : HashAt w h (bst m (m.length / 64)) (fill B (m.length % 64) n (fun i => x.getD i 0)) ((m.length % 64 + n : Nat) : Int) long) : HsL w h (m ++ x) long := by
  have e1 : (m ++ x).length / 64 = m.length / 64 := by rw [List.length_append]; omega
  have e2 : (m ++ x).length % 64 = m.length % 64 + n := by rw [List.length_append]; omega
  refine ⟨fill B (m.length % 64) n (fun i => x.getD i 0), ?_, fun i hi => ?_⟩
  · rw [e1, e2, bst_append _ _ _ (by omega)]; exact H
  · rw [e1]; rw [e2] at hi
    unfold fill
    by_cases e : m.length % 64 ≤ i
    · rw [if_pos ⟨e, hi⟩]
      simp only [List.getD_eq_getElem?_getD]
      rw [List.getElem?_append_right (by omega)]
      congr 2; omega
    · rw [if_neg (by omega), hB i (by omega), getD_append _ _ (by omega)]
theorem msg_whole {w : World} {h : Nat} {m x : List W8} {B B' : Nat → W8} {long : Int} {n : Nat} (hx : x.length = n) (hn : m.length % 64 + n = 64) (hB : ∀ i, i < m.length % 64 → B i = m.getD (64 * (m.length / 64) + i) 0)
    (H : HashAt w h (comp (bst m (m.length / 64)) (fill B (m.length % 64) n (fun i => x.getD i 0))) B' 0 long) : HsL w h (m ++ x) long := by
  have e1 : (m ++ x).length / 64 = m.length / 64 + 1 := by rw [List.length_append]; omega
  have e2 : (m ++ x).length % 64 = 0 := by rw [List.length_append]; omega
  refine ⟨B', ?_, fun i hi => by omega⟩
  rw [e1, e2, bst, bst_append _ _ _ (by omega)]
  have e3 : comp (bst m (m.length / 64)) (fun i => (m ++ x).getD (64 * (m.length / 64) + i) 0) = comp (bst m (m.length / 64)) (fill B (m.length % 64) n (fun i => x.getD i 0)) := by
    refine comp_congr (fun i hi => ?_) _
    unfold fill
    by_cases e : m.length % 64 ≤ i
    · rw [if_pos ⟨e, by omega⟩]
      simp only [List.getD_eq_getElem?_getD]
      rw [List.getElem?_append_right (by omega)]
      congr 2; omega
    · rw [if_neg (by omega), hB i (by omega), getD_append _ _ (by omega)]
  rw [e3]; exact H
end Go.Proofs.Ytkehejkjifgieaa
