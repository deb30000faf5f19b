/- Timers: a heap of entries, in plain words and in memory; less and swap. -/
import Derived.Test.YtkehejkjifgieaaBase
import Derived.Test.YtkehejkjifgieaaRows
import Derived.Test.YtkehejkjifgieaaMaps
import Derived.BigRegion
import Derived.BigQuiet
import Derived.Outline
namespace Go.Proofs.Ytkehejkjifgieaa
abbrev Ent := Int × Int
/-- Does a timer stand ahead of another one? -/
def lt (a b : Ent) : Bool := decide (a.2 < b.2) || (decide (a.2 = b.2) && decide (a.1 < b.1))
theorem lt_iff (a b : Ent) : lt a b = true ↔ a.2 < b.2 ∨ (a.2 = b.2 ∧ a.1 < b.1) := by simp [lt]
theorem lt_no (a b : Ent) : lt a b = false ↔ b.2 < a.2 ∨ (a.2 = b.2 ∧ b.1 ≤ a.1) := by
  rw [← Bool.not_eq_true, lt_iff]; omega
def sw (f : Nat → Ent) (i j : Nat) : Nat → Ent := fun k => if k = i then f j else if k = j then f i else f k
/-- The entry at j does not stand ahead of the one above it. -/
def Ord (f : Nat → Ent) (j : Nat) : Prop := lt (f j) (f ((j - 1) / 2)) = false
def Heap (n : Nat) (f : Nat → Ent) : Prop := ∀ j, 0 < j → j < n → Ord f j
/-- All is in order but what touches i. -/
def Up (n i0 : Nat) (f : Nat → Ent) (k : Nat) : Prop :=
  k ≤ i0 ∧ (∀ j, 0 < j → j < n → j ≠ k → (j - 1) / 2 ≠ k → Ord f j) ∧
  (∀ j, 0 < j → j < n → (j - 1) / 2 = k → 0 < k → lt (f j) (f ((k - 1) / 2)) = false) ∧
  (k ≠ i0 → ∀ j, 0 < j → j < n → (j - 1) / 2 = k → Ord f j)
def Dn (n : Nat) (f : Nat → Ent) (k : Nat) : Prop :=
  (∀ j, 0 < j → j < n → (j - 1) / 2 ≠ k → Ord f j) ∧
  (∀ j, 0 < j → j < n → (j - 1) / 2 = k → 0 < k → lt (f j) (f ((k - 1) / 2)) = false)

theorem up_step {n i0 k : Nat} {f : Nat → Ent} (h : Up n i0 f k) (h0 : 0 < k) (hk : k < n) (hl : lt (f k) (f ((k - 1) / 2)) = true) :
    Up n i0 (sw f k ((k - 1) / 2)) ((k - 1) / 2) := by
  obtain ⟨h1, h2, h3, h4⟩ := h
  have hp : (k - 1) / 2 < k := by omega
  generalize hp' : (k - 1) / 2 = p at *
  refine ⟨by omega, ?_, ?_, ?_⟩
  · intro j j0 jn jk jp
    unfold Ord sw
    by_cases e1 : j = k
    · subst e1; omega
    by_cases e2 : (j - 1) / 2 = k
    · have := h3 j j0 jn e2 h0
      rw [if_neg e1, if_neg jk, if_pos e2]; exact this
    · rw [if_neg e1, if_neg jk, if_neg e2, if_neg jp]; exact h2 j j0 jn e1 e2
  · intro j j0 jn jp p0
    have hpn : p < n := by omega
    have op : Ord f p := h2 p p0 hpn (by omega) (by omega)
    unfold Ord at op
    unfold sw
    rw [if_neg (show ¬ (p - 1) / 2 = k by omega), if_neg (show ¬ (p - 1) / 2 = p by omega)]
    by_cases e1 : j = k
    · rw [if_pos e1]; exact op
    · rw [if_neg e1, if_neg (show ¬ j = p by omega)]
      have oj : Ord f j := h2 j j0 jn e1 (by omega)
      unfold Ord at oj; rw [jp] at oj
      rw [lt_no] at *; omega
  · intro _ j j0 jn jp
    unfold Ord sw
    rw [jp, if_neg (show ¬ p = k by omega), if_pos rfl]
    by_cases e1 : j = k
    · rw [if_pos e1, lt_no]; rw [lt_iff] at hl; omega
    · rw [if_neg e1, if_neg (show ¬ j = p by omega)]
      have oj : Ord f j := h2 j j0 jn e1 (by omega)
      unfold Ord at oj; rw [jp] at oj
      rw [lt_no] at *; rw [lt_iff] at hl; omega

theorem up_done {n i0 k : Nat} {f : Nat → Ent} (h : Up n i0 f k) (hd : k = 0 ∨ lt (f k) (f ((k - 1) / 2)) = false) : Dn n f i0 := by
  obtain ⟨h1, h2, h3, h4⟩ := h
  by_cases e : k = i0
  · subst e
    refine ⟨fun j j0 jn jk => ?_, h3⟩
    by_cases e2 : j = k
    · subst e2
      rcases hd with hd | hd
      · omega
      · exact hd
    · exact h2 j j0 jn e2 jk
  · have all : ∀ j, 0 < j → j < n → Ord f j := by
      intro j j0 jn
      by_cases e2 : j = k
      · subst e2
        rcases hd with hd | hd
        · omega
        · exact hd
      by_cases e3 : (j - 1) / 2 = k
      · exact h4 e j j0 jn e3
      · exact h2 j j0 jn e2 e3
    refine ⟨fun j j0 jn _ => all j j0 jn, fun j j0 jn jp i00 => ?_⟩
    have o1 := all j j0 jn
    have o2 := all i0 i00 (by omega)
    unfold Ord at o1 o2
    rw [jp] at o1
    rw [lt_no] at *; omega

theorem dn_done {n k : Nat} {f : Nat → Ent} (h : Dn n f k) (hc : ∀ c, 0 < c → c < n → (c - 1) / 2 = k → lt (f c) (f k) = false) : Heap n f := by
  intro j j0 jn
  by_cases e : (j - 1) / 2 = k
  · unfold Ord; rw [e]; exact hc j j0 jn e
  · exact h.1 j j0 jn e

theorem dn_step {n k c : Nat} {f : Nat → Ent} (h : Dn n f k) (c0 : 0 < c) (cn : c < n) (cp : (c - 1) / 2 = k) (hl : lt (f c) (f k) = true)
    (hm : ∀ d, 0 < d → d < n → (d - 1) / 2 = k → lt (f d) (f c) = false) : Dn n (sw f k c) c := by
  obtain ⟨h1, h2⟩ := h
  have hkc : k < c := by omega
  refine ⟨?_, ?_⟩
  · intro j j0 jn jp
    unfold Ord sw
    by_cases e1 : j = k
    · subst e1
      rw [if_pos rfl, if_neg (show ¬ (j - 1) / 2 = j by omega), if_neg jp]
      exact h2 c c0 cn cp j0
    · rw [if_neg e1]
      by_cases e2 : (j - 1) / 2 = k
      · rw [if_pos e2]
        by_cases e3 : j = c
        · rw [if_pos e3, lt_no]; rw [lt_iff] at hl; omega
        · rw [if_neg e3]; exact hm j j0 jn e2
      · rw [if_neg (show ¬ j = c by intro e; subst e; omega), if_neg e2, if_neg jp]
        exact h1 j j0 jn e2
  · intro j j0 jn jp _
    unfold sw
    rw [cp, if_pos rfl, if_neg (show ¬ j = k by omega), if_neg (show ¬ j = c by omega)]
    have := h1 j j0 jn (by omega)
    unfold Ord at this; rw [jp] at this; exact this

/-- What stands in the heap. -/
def In (n : Nat) (f : Nat → Ent) (p : Ent) : Prop := ∃ k, k < n ∧ f k = p
/-- No number stands twice. -/
def Inj (n : Nat) (f : Nat → Ent) : Prop := ∀ a b, a < n → b < n → (f a).1 = (f b).1 → a = b
theorem in_sw {n i j : Nat} {f : Nat → Ent} (hi : i < n) (hj : j < n) (p : Ent) : In n (sw f i j) p ↔ In n f p := by
  unfold In sw
  constructor
  · rintro ⟨k, hk, e⟩
    split at e
    · exact ⟨j, hj, e⟩
    · split at e
      · exact ⟨i, hi, e⟩
      · exact ⟨k, hk, e⟩
  · rintro ⟨k, hk, e⟩
    by_cases e1 : k = i
    · subst e1
      refine ⟨j, hj, ?_⟩
      by_cases e2 : j = k
      · subst e2; rw [if_pos rfl]; exact e
      · rw [if_neg e2, if_pos rfl]; exact e
    by_cases e2 : k = j
    · subst e2; exact ⟨i, hi, by rw [if_pos rfl]; exact e⟩
    · exact ⟨k, hk, by rw [if_neg e1, if_neg e2]; exact e⟩
theorem inj_sw {n i j : Nat} {f : Nat → Ent} (hi : i < n) (hj : j < n) (h : Inj n f) : Inj n (sw f i j) := by
  intro a b ha hb e
  unfold sw at e
  split at e <;> split at e <;> (try split at e) <;> (try split at e) <;> first | omega | (have := h _ _ (by assumption) (by assumption) e; omega)
theorem heap_top {n : Nat} {f : Nat → Ent} (h : Heap n f) : ∀ k, k < n → lt (f k) (f 0) = false := by
  intro k
  induction k using Nat.strongRecOn with
  | _ k ih =>
    intro hk
    by_cases e : k = 0
    · subst e; rw [lt_no]; omega
    · have o := h k (by omega) hk
      have := ih ((k - 1) / 2) (by omega) (by omega)
      unfold Ord at o
      rw [lt_no] at *; omega
end Go.Proofs.Ytkehejkjifgieaa

namespace Go.Proofs.Ytkehejkjifgieaa
open Go.RowKit Go.ChangeMaps

def Ents (cur : Array Value) (n : Nat) (f : Nat → Ent) : Prop := ∀ k, k < n → cur[k * 2]? = some (.int .u32 (f k).1) ∧ cur[k * 2 + 1]? = some (.int .u64 (f k).2)
def Where (w : World) (mb n : Nat) (f : Nat → Ent) : Prop :=
  ∃ D, IMap w mb .u32 D ∧ (∀ k, k < n → D (f k).1 = some (.int .i64 (k : Int))) ∧ ∀ x v, D x = some v → ∃ k, k < n ∧ (f k).1 = x
structure Tm (w : World) (t mb : Nat) (sv : Value) (n : Nat) (f : Nat → Ent) : Prop where
  blk : Blk w t #[sv, .map (some mb)] 92
  row : (sv = .slice none 0 0 ∧ n = 0) ∨ ∃ g cap cur, sv = .slice (some ⟨g, 0, none⟩) n cap ∧ Blk w g cur 95 ∧ n ≤ cap ∧ cap ≤ maxLen ∧ cur.size = cap * 2 ∧ Ents cur n f
  map : Where w mb n f
  inj : Inj n f
  few : n ≤ 1001

theorem Ents.sw {cur : Array Value} {n i j : Nat} {f : Nat → Ent} (h : Ents cur n f) (hi : i < n) (hj : j < n) (hc : n * 2 ≤ cur.size) :
    Ents ((((cur.setIfInBounds (i * 2) (.int .u32 (f j).1)).setIfInBounds (i * 2 + 1) (.int .u64 (f j).2)).setIfInBounds (j * 2) (.int .u32 (f i).1)).setIfInBounds (j * 2 + 1) (.int .u64 (f i).2)) n (sw f i j) := by
  intro k hk
  unfold Go.Proofs.Ytkehejkjifgieaa.sw
  by_cases e2 : k = j
  · subst e2
    have e : (if k = i then f k else if k = k then f i else f k) = f i := by
      split
      · rename_i h; rw [h]
      · rw [if_pos rfl]
    rw [e]
    constructor
    · rw [Array.getElem?_setIfInBounds_ne (by omega), Array.getElem?_setIfInBounds_self_of_lt (by simp; omega)]
    · rw [Array.getElem?_setIfInBounds_self_of_lt (by simp; omega)]
  · rw [if_neg e2]
    by_cases e1 : k = i
    · subst e1
      rw [if_pos rfl]
      constructor
      · rw [Array.getElem?_setIfInBounds_ne (by omega), Array.getElem?_setIfInBounds_ne (by omega), Array.getElem?_setIfInBounds_ne (by omega), Array.getElem?_setIfInBounds_self_of_lt (by omega)]
      · rw [Array.getElem?_setIfInBounds_ne (by omega), Array.getElem?_setIfInBounds_ne (by omega), Array.getElem?_setIfInBounds_self_of_lt (by simp; omega)]
    · rw [if_neg e1]
      obtain ⟨h1, h2⟩ := h k hk
      constructor
      · rw [Array.getElem?_setIfInBounds_ne (by omega), Array.getElem?_setIfInBounds_ne (by omega), Array.getElem?_setIfInBounds_ne (by omega), Array.getElem?_setIfInBounds_ne (by omega)]; exact h1
      · rw [Array.getElem?_setIfInBounds_ne (by omega), Array.getElem?_setIfInBounds_ne (by omega), Array.getElem?_setIfInBounds_ne (by omega), Array.getElem?_setIfInBounds_ne (by omega)]; exact h2

set_option maxRecDepth 100000 in
set_option maxHeartbeats 2000000 in
theorem less_raw (t hb i j n cap : Nat) (ai aj ti tj : Int) (w : World) (ht : t < w.heap.size) (hh : hb < w.heap.size)
    (h0 : w.cell? ⟨t, 0, none⟩ = some (.slice (some ⟨hb, 0, none⟩) n cap)) (hi : i < n) (hj : j < n) (_ : n ≤ 1001) (_ : n ≤ cap)
    (ci0 : w.cell? ⟨hb, i * 2, none⟩ = some (.int .u32 ai)) (ci1 : w.cell? ⟨hb, i * 2 + 1, none⟩ = some (.int .u64 ti))
    (cj0 : w.cell? ⟨hb, j * 2, none⟩ = some (.int .u32 aj)) (cj1 : w.cell? ⟨hb, j * 2 + 1, none⟩ = some (.int .u64 tj)) :
    Calls Try.prog 64 #[.pointer (some ⟨t, 0, none⟩), .int .i64 i, .int .i64 j] w fun e w' => e = .returned (.bool (lt (ai, ti) (aj, tj))) ∧ Below w.heap.size w w' := by
  go_enter Try.func64, Try.ntmps64
  go_wp2
  go_region
  all_goals
    go_wp2
    all_goals
      go_ret
      refine ⟨ret_bool ?_, ((((Below.refl _ _).alloc (Nat.le_refl _) _).alloc (by simp) _).drew)⟩
      rw [Bool.eq_iff_iff, lt_iff]
      simp
      try omega
end Go.Proofs.Ytkehejkjifgieaa

namespace Go.Proofs.Ytkehejkjifgieaa
open Go.RowKit Go.ChangeMaps

set_option maxRecDepth 100000 in
set_option maxHeartbeats 4000000 in
theorem swap_raw (t hb mb i j n cap : Nat) (ai aj ti tj : Int) (w : World) (cur : Array Value) (D : Int → Option Value)
    (hT : Blk w t #[.slice (some ⟨hb, 0, none⟩) n cap, .map (some mb)] 92) (hH : Blk w hb cur 95) (hM : IMap w mb .u32 D)
    (hi : i < n) (hj : j < n) (_ : n ≤ 1001)
    (ci0 : cur[i * 2]? = some (.int .u32 ai)) (ci1 : cur[i * 2 + 1]? = some (.int .u64 ti))
    (cj0 : cur[j * 2]? = some (.int .u32 aj)) (cj1 : cur[j * 2 + 1]? = some (.int .u64 tj)) :
    Calls Try.prog 65 #[.pointer (some ⟨t, 0, none⟩), .int .i64 i, .int .i64 j] w fun e w' => e = .returned (.tuple #[]) ∧
      Blk w' t #[.slice (some ⟨hb, 0, none⟩) n cap, .map (some mb)] 92 ∧
      Blk w' hb ((((cur.setIfInBounds (i * 2) (.int .u32 aj)).setIfInBounds (i * 2 + 1) (.int .u64 tj)).setIfInBounds (j * 2) (.int .u32 ai)).setIfInBounds (j * 2 + 1) (.int .u64 ti)) 95 ∧
      IMap w' mb .u32 (upd (upd D aj (.int .i64 i)) ai (.int .i64 j)) ∧ Mod (fun k => k = hb ∨ k = mb) w w' := by
  have ht := hT.lt
  have hh := hH.lt
  have hm := hM.lt
  have hth : t ≠ hb := hT.ne hH (by decide)
  have htm : t ≠ mb := hM.not_cells hT
  have hhm : hb ≠ mb := hM.not_cells hH
  have h0 : w.cell? ⟨t, 0, none⟩ = some (.slice (some ⟨hb, 0, none⟩) n cap) := hT.cellv rfl
  have h1 : w.cell? ⟨t, 1, none⟩ = some (.map (some mb)) := hT.cellv rfl
  have d0 : w.cell? ⟨hb, i * 2, none⟩ = some (.int .u32 ai) := hH.cellv ci0
  have d1 : w.cell? ⟨hb, i * 2 + 1, none⟩ = some (.int .u64 ti) := hH.cellv ci1
  have d2 : w.cell? ⟨hb, j * 2, none⟩ = some (.int .u32 aj) := hH.cellv cj0
  have d3 : w.cell? ⟨hb, j * 2 + 1, none⟩ = some (.int .u64 tj) := hH.cellv cj1
  have f0 : w.frozen? ⟨hb, i * 2, none⟩ = false := hH.frozen _
  have f1 : w.frozen? ⟨hb, i * 2 + 1, none⟩ = false := hH.frozen _
  have f2 : w.frozen? ⟨hb, j * 2, none⟩ = false := hH.frozen _
  have f3 : w.frozen? ⟨hb, j * 2 + 1, none⟩ = false := hH.frozen _
  have HT := hid hT; have HH := hid hH; have HM := hid hM
  have H0 := hid ci0; have H1 := hid ci1; have H2 := hid cj0; have H3 := hid cj1
  clear hT hH hM ci0 ci1 cj0 cj1
  go_enter Try.func65, Try.ntmps65
  go_wp2
  obtain ⟨y1, z1⟩ : ∃ z, (w.setCell ⟨hb, i * 2, none⟩ (.int .u32 aj)).cell? ⟨hb, j * 2, none⟩ = some z := by
    refine ⟨_, (HH.out.set (i * 2) (.int .u32 aj)).cellv (Array.getElem?_eq_getElem ?_)⟩
    have := (Array.getElem?_eq_some_iff.1 H2.out).1; simp; omega
  obtain ⟨y2, z2⟩ : ∃ z, ((w.setCell ⟨hb, i * 2, none⟩ (.int .u32 aj)).setCell ⟨hb, i * 2 + 1, none⟩ (.int .u64 tj)).cell? ⟨hb, j * 2 + 1, none⟩ = some z := by
    refine ⟨_, ((HH.out.set (i * 2) (.int .u32 aj)).set (i * 2 + 1) (.int .u64 tj)).cellv (Array.getElem?_eq_getElem ?_)⟩
    have := (Array.getElem?_eq_some_iff.1 H3.out).1; simp; omega
  go_region
  generalize hwq : World.setCell _ _ _ = wq
  have hH : Blk wq hb ((((cur.setIfInBounds (i * 2) (.int .u32 aj)).setIfInBounds (i * 2 + 1) (.int .u64 tj)).setIfInBounds (j * 2) (.int .u32 ai)).setIfInBounds (j * 2 + 1) (.int .u64 ti)) 95 := by
    rw [← hwq]; exact (((HH.out.set _ _).set _ _).set _ _).set _ _
  have hT : Blk wq t #[.slice (some ⟨hb, 0, none⟩) n cap, .map (some mb)] 92 := by
    rw [← hwq]; exact (((HT.out.other (Ne.symm hth) _).other (Ne.symm hth) _).other (Ne.symm hth) _).other (Ne.symm hth) _
  have hM : IMap wq mb .u32 D := by
    rw [← hwq]; exact (((HM.out.other hhm _).other hhm _).other hhm _).other hhm _
  have hMod : Mod (fun k => k = hb ∨ k = mb) w wq := by
    rw [← hwq]; exact ((((Mod.refl _ w).setCell (fun _ => Or.inl rfl) _).setCell (fun _ => Or.inl rfl) _).setCell (fun _ => Or.inl rfl) _).setCell (fun _ => Or.inl rfl) _
  have hsz : i * 2 + 1 < cur.size := (Array.getElem?_eq_some_iff.1 H1.out).1
  have hsz2 : j * 2 + 1 < cur.size := (Array.getElem?_eq_some_iff.1 H3.out).1
  have g0 : wq.cell? ⟨t, 0, none⟩ = some (.slice (some ⟨hb, 0, none⟩) n cap) := hT.cellv rfl
  have g1 : wq.cell? ⟨t, 1, none⟩ = some (.map (some mb)) := hT.cellv rfl
  have e0 : wq.cell? ⟨hb, i * 2, none⟩ = some (.int .u32 aj) := hH.cellv (by
    by_cases hij : i = j
    · subst hij
      have : (Value.int .u32 ai) = .int .u32 aj := Option.some.inj (H0.out.symm.trans H2.out)
      rw [Array.getElem?_setIfInBounds_ne (by omega), Array.getElem?_setIfInBounds_self_of_lt (by simp; omega), this]
    · rw [Array.getElem?_setIfInBounds_ne (by omega), Array.getElem?_setIfInBounds_ne (by omega), Array.getElem?_setIfInBounds_ne (by omega), Array.getElem?_setIfInBounds_self_of_lt (by omega)])
  have e2 : wq.cell? ⟨hb, j * 2, none⟩ = some (.int .u32 ai) := hH.cellv (by
    rw [Array.getElem?_setIfInBounds_ne (by omega), Array.getElem?_setIfInBounds_self_of_lt (by simp; omega)])
  have HW := hid hwq; clear hwq
  have GT := hid hT; have GH := hid hH; have GM := hid hM; have GMod := hid hMod
  clear hT hH hM hMod hsz hsz2
  have ht' : t < wq.heap.size := GT.out.lt
  have hh' : hb < wq.heap.size := GH.out.lt
  clear ht hh hm h0 h1 d0 d1 d2 d3 f0 f1 f2 f3 z1 z2
  go_wp2
  have hM0 : IMap wq.drew.drew mb .u32 D := GM.out.of_block rfl
  obtain ⟨v1, st1, o1, o2, hE1, hS1, hM1⟩ := hM0.put (P := Try.prog) (t := 89) rfl rfl (z := .int .i64 0) (fun _ => rfl) aj (.int .i64 i)
  obtain ⟨v2, st2, o3, o4, hE2, hS2, hM2⟩ := hM1.put (P := Try.prog) (t := 89) rfl rfl (z := .int .i64 0) (fun _ => rfl) ai (.int .i64 j)
  have HM0 := hid hM0; have HM1 := hid hM1; have HM2 := hid hM2
  clear hM0 hM1 hM2
  go_region
  go_end0
  have K : ∀ k, k ≠ mb → (setBlock (setBlock (setBlock (setBlock wq.drew.drew mb o1) mb o2) mb o3) mb o4).heap[k]? = wq.heap[k]? := fun k hk => by
    rw [heap_setBlock_ne _ hk, heap_setBlock_ne _ hk, heap_setBlock_ne _ hk, heap_setBlock_ne _ hk]; rfl
  exact ⟨rfl, GT.out.of_block (K _ htm), GH.out.of_block (K _ hhm), HM2.out, (((GMod.out.drew.drew.setBlock (fun _ => Or.inr rfl) _).setBlock (fun _ => Or.inr rfl) _).setBlock (fun _ => Or.inr rfl) _).setBlock (fun _ => Or.inr rfl) _⟩
end Go.Proofs.Ytkehejkjifgieaa

namespace Go.Proofs.Ytkehejkjifgieaa
open Go.RowKit Go.ChangeMaps

def Own (sv : Value) (mb : Nat) : Nat → Prop := fun k => sv.ownBlock = some k ∨ k = mb

theorem Where.mono {w w' : World} {mb n : Nat} {f : Nat → Ent} (h : Where w mb n f) (hb : w'.heap[mb]? = w.heap[mb]?) : Where w' mb n f := by
  obtain ⟨D, h1, h2⟩ := h
  exact ⟨D, h1.of_block hb, h2⟩
theorem Where.lt {w : World} {mb n : Nat} {f : Nat → Ent} (h : Where w mb n f) : mb < w.heap.size := by
  obtain ⟨D, h1, h2⟩ := h
  exact h1.lt
theorem Tm.of_blocks {w w' : World} {t mb n : Nat} {sv : Value} {f : Nat → Ent} (h : Tm w t mb sv n f) (h1 : w'.heap[t]? = w.heap[t]?) (h2 : w'.heap[mb]? = w.heap[mb]?)
    (h3 : ∀ g, sv.ownBlock = some g → w'.heap[g]? = w.heap[g]?) : Tm w' t mb sv n f := by
  refine ⟨h.blk.of_block h1, ?_, h.map.mono h2, h.inj, h.few⟩
  rcases h.row with r | ⟨g, cap, cur, r1, r2, r3⟩
  · exact Or.inl r
  · exact Or.inr ⟨g, cap, cur, r1, r2.of_block (h3 g (by rw [r1]; rfl)), r3⟩
theorem Tm.own_lt {w : World} {t mb n : Nat} {sv : Value} {f : Nat → Ent} (h : Tm w t mb sv n f) : ∀ g, sv.ownBlock = some g → g < w.heap.size := by
  intro g hg
  rcases h.row with ⟨r, _⟩ | ⟨g', cap, cur, r1, r2, r3⟩
  · rw [r] at hg; cases hg
  · rw [r1] at hg; cases hg; exact r2.lt
theorem Tm.below {w w' : World} {t mb n : Nat} {sv : Value} {f : Nat → Ent} (h : Tm w t mb sv n f) (hb : Below w.heap.size w w') : Tm w' t mb sv n f :=
  h.of_blocks (hb.block t h.blk.lt) (hb.block mb h.map.lt) (fun g hg => hb.block g (h.own_lt g hg))
theorem Tm.drew {w : World} {t mb n : Nat} {sv : Value} {f : Nat → Ent} (h : Tm w t mb sv n f) : Tm w.drew t mb sv n f := h.of_blocks rfl rfl (fun _ _ => rfl)
theorem Tm.mod {w w' : World} {t mb n : Nat} {sv : Value} {f : Nat → Ent} (h : Tm w t mb sv n f) {S : Nat → Prop} (m : Mod S w w') (h1 : ¬ S t) (h2 : ¬ S mb) (h3 : ∀ g, sv.ownBlock = some g → ¬ S g) : Tm w' t mb sv n f :=
  h.of_blocks (m.block t h.blk.lt h1) (m.block mb h.map.lt h2) (fun g hg => m.block g (h.own_lt g hg) (h3 g hg))
theorem Tm.pos {w : World} {t mb n : Nat} {sv : Value} {f : Nat → Ent} (h : Tm w t mb sv n f) (hn : 0 < n) :
    ∃ g cap cur, sv = .slice (some ⟨g, 0, none⟩) n cap ∧ Blk w g cur 95 ∧ n ≤ cap ∧ cap ≤ maxLen ∧ cur.size = cap * 2 ∧ Ents cur n f := by
  rcases h.row with ⟨_, r⟩ | r
  · omega
  · exact r

theorem less_c {w : World} {t mb n : Nat} {sv : Value} {f : Nat → Ent} (h : Tm w t mb sv n f) {i j : Nat} {x y : Int} (hx : x = i) (hy : y = j) (hi : i < n) (hj : j < n) :
    Calls Try.prog 64 #[.pointer (some ⟨t, 0, none⟩), .int .i64 x, .int .i64 y] w fun e w' => e = .returned (.bool (lt (f i) (f j))) ∧ Below w.heap.size w w' := by
  subst hx; subst hy
  obtain ⟨g, cap, cur, rfl, hb, h1, h2, h3, h4⟩ := h.pos (by omega)
  exact less_raw t g i j n cap (f i).1 (f j).1 (f i).2 (f j).2 w h.blk.lt hb.lt (h.blk.cellv rfl) hi hj h.few h1 (hb.cellv (h4 i hi).1) (hb.cellv (h4 i hi).2) (hb.cellv (h4 j hj).1) (hb.cellv (h4 j hj).2)

theorem swap_c {w : World} {t mb n : Nat} {sv : Value} {f : Nat → Ent} (h : Tm w t mb sv n f) {i j : Nat} {x y : Int} (hx : x = i) (hy : y = j) (hi : i < n) (hj : j < n) :
    Calls Try.prog 65 #[.pointer (some ⟨t, 0, none⟩), .int .i64 x, .int .i64 y] w fun e w' => e = .returned (.tuple #[]) ∧ Tm w' t mb sv n (sw f i j) ∧ Mod (Own sv mb) w w' := by
  subst hx; subst hy
  obtain ⟨g, cap, cur, rfl, hb, h1, h2, h3, h4⟩ := h.pos (by omega)
  obtain ⟨D, hD, hD1, hD2⟩ := h.map
  refine (swap_raw t g mb i j n cap (f i).1 (f j).1 (f i).2 (f j).2 w cur D h.blk hb hD hi hj h.few (h4 i hi).1 (h4 i hi).2 (h4 j hj).1 (h4 j hj).2).mono ?_
  rintro e w' ⟨he, k1, k2, k3, k4⟩
  refine ⟨he, ⟨k1, Or.inr ⟨g, cap, _, rfl, k2, h1, h2, by simp [h3], h4.sw hi hj (by omega)⟩, ⟨_, k3, ?_, ?_⟩, inj_sw hi hj h.inj, h.few⟩, k4.weaken ?_⟩
  · intro k hk
    unfold upd sw
    by_cases e1 : k = i
    · subst e1
      rw [if_pos rfl]
      by_cases e2 : (f j).1 = (f k).1
      · have := h.inj j k hj hk e2; subst this; rw [if_pos rfl]
      · rw [if_neg e2, if_pos rfl]
    · rw [if_neg e1]
      by_cases e2 : k = j
      · subst e2; rw [if_pos rfl, if_pos rfl]
      · rw [if_neg e2, if_neg (fun e => e1 (h.inj _ _ hk hi e)), if_neg (fun e => e2 (h.inj _ _ hk hj e))]; exact hD1 k hk
  · intro x v hx
    have key : ∃ k, k < n ∧ (f k).1 = x := by
      unfold upd at hx
      by_cases e1 : x = (f i).1
      · exact ⟨i, hi, e1.symm⟩
      · rw [if_neg e1] at hx
        by_cases e2 : x = (f j).1
        · exact ⟨j, hj, e2.symm⟩
        · rw [if_neg e2] at hx; exact hD2 x v hx
    obtain ⟨k, hk, e⟩ := key
    obtain ⟨k', hk', e'⟩ := (in_sw hi hj (f k)).2 ⟨k, hk, rfl⟩
    exact ⟨k', hk', by rw [e']; exact e⟩
  · rintro k _ (rfl | rfl)
    · exact Or.inl rfl
    · exact Or.inr rfl
theorem Own.not_t {w : World} {t mb n : Nat} {sv : Value} {f : Nat → Ent} (h : Tm w t mb sv n f) : ¬ Own sv mb t := by
  obtain ⟨D, hD, hD1, hD2⟩ := h.map
  rintro (e | e)
  · rcases h.row with ⟨r, _⟩ | ⟨g', cap, cur, r1, r2, r3⟩
    · rw [r] at e; cases e
    · rw [r1] at e; cases e; exact h.blk.ne r2 (by decide) rfl
  · subst e; exact hD.not_cells h.blk rfl
end Go.Proofs.Ytkehejkjifgieaa
