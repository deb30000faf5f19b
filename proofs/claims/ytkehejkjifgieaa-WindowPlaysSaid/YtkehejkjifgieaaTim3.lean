/- Timers: At, New, remove, Cancel; the contracts by a list in order. -/
import Derived.Test.YtkehejkjifgieaaTim2
namespace Go.Proofs.Ytkehejkjifgieaa
open Go.RowKit Go.ChangeMaps

theorem Tm.shape {w : World} {t mb n : Nat} {sv : Value} {f : Nat → Ent} (h : Tm w t mb sv n f) : ∃ p cap, sv = .slice p n cap := by
  rcases h.row with ⟨rfl, rfl⟩ | ⟨g, cap, cur, rfl, _⟩
  · exact ⟨_, _, rfl⟩
  · exact ⟨_, _, rfl⟩

set_option maxRecDepth 100000 in
set_option maxHeartbeats 2000000 in
theorem at_old {w : World} {t mb n : Nat} {sv : Value} {f : Nat → Ent} (h : Tm w t mb sv n f) {i : Nat} (hi : i < n) {id : Int} (hid : id = (f i).1) :
    Calls Try.prog 20 #[.pointer (some ⟨t, 0, none⟩), .int .u32 id] w fun e w' => e = .returned (.tuple #[.int .u64 (f i).2, .bool true]) ∧ w' = w := by
  subst hid
  obtain ⟨g, cap, cur, rfl, hb, h1, h2, h3, h4⟩ := h.pos (by omega)
  obtain ⟨D, hD, hD1, hD2⟩ := h.map
  have ht := h.blk.lt
  have hg := hb.lt
  have few := h.few
  have c0 : w.cell? ⟨t, 0, none⟩ = some (.slice (some ⟨g, 0, none⟩) n cap) := h.blk.cellv rfl
  have c1 : w.cell? ⟨t, 1, none⟩ = some (.map (some mb)) := h.blk.cellv rfl
  have lk : (Instr.lookup 89 (.map (some mb)) (.int .u32 (f i).1) true).run Try.prog w = .ok (.tuple #[.int .i64 (i : Int), .bool true]) w := by
    have := hD.look (P := Try.prog) (t := 89) (z := .int .i64 0) rfl rfl rfl (f i).1
    rw [hD1 i hi] at this; exact this
  have cv : w.cell? ⟨g, i * 2 + 1, none⟩ = some (.int .u64 (f i).2) := hb.cellv (h4 i hi).2
  clear hD1 hD2 hD h4 h hb
  go_enter Try.func20, Try.ntmps20
  go_wp2
  go_ret2
  exact ⟨rfl, rfl⟩
theorem where_none' {n : Nat} {f : Nat → Ent} {D : Int → Option Value} (h3 : ∀ x v, D x = some v → ∃ k, k < n ∧ (f k).1 = x) {x : Int} (hn : ¬ Has n f x) : D x = none := by
  cases h : D x with
  | none => rfl
  | some v => exact absurd (h3 x v h) hn
set_option maxRecDepth 100000 in
set_option maxHeartbeats 2000000 in
theorem at_none {w : World} {t mb n : Nat} {sv : Value} {f : Nat → Ent} (h : Tm w t mb sv n f) {id : Int} (hhas : ¬ Has n f id) :
    Calls Try.prog 20 #[.pointer (some ⟨t, 0, none⟩), .int .u32 id] w fun e w' => e = .returned (.tuple #[.int .u64 0, .bool false]) ∧ w' = w := by
  obtain ⟨D, hD, hD1, hD2⟩ := h.map
  have ht := h.blk.lt
  have c1 : w.cell? ⟨t, 1, none⟩ = some (.map (some mb)) := h.blk.cellv rfl
  have lk : (Instr.lookup 89 (.map (some mb)) (.int .u32 id) true).run Try.prog w = .ok (.tuple #[.int .i64 0, .bool false]) w := by
    have := hD.look (P := Try.prog) (t := 89) (z := .int .i64 0) rfl rfl rfl id
    rw [where_none' hD2 hhas] at this; exact this
  clear hD1 hD2 hD h
  go_enter Try.func20, Try.ntmps20
  go_wp2
  go_ret2
  exact ⟨rfl, rfl⟩
theorem new_c (w : World) : Calls Try.prog 18 #[] w fun e w' => e = .returned (.pointer (some ⟨w.heap.size + 1, 0, none⟩)) ∧ Below w.heap.size w w' ∧ Tm w' (w.heap.size + 1) w.heap.size (.slice none 0 0) 0 (fun _ => (0, 0)) := by
  have hm : (Instr.makeMap 89 none).run Try.prog w = .ok (.map (some w.heap.size)) (w.alloc (.map #[] 0)) := rfl
  go_enter Try.func18, Try.ntmps18
  go_wp2
  go_ret
  refine ⟨by simp, ((Below.refl _ _).alloc (Nat.le_refl _) _).alloc (by simp) _, ?_, Or.inl ⟨rfl, rfl⟩, ⟨fun _ => none, ?_, fun k hk => absurd hk (by omega), fun x v h => by cases h⟩, fun a b ha => absurd ha (by omega), by omega⟩
  · have := Blk.new (w.alloc (.map #[] 0)) #[.slice none 0 0, .map (some w.heap.size)] 92
    simpa using this
  · refine IMap.empty ?_
    rw [Below.heap_alloc _ _ _ (by simp)]
    exact heap_alloc_new w _
end Go.Proofs.Ytkehejkjifgieaa

namespace Go.Proofs.Ytkehejkjifgieaa
open Go.RowKit Go.ChangeMaps

theorem set_c {w : World} {t mb n : Nat} {sv : Value} {f : Nat → Ent} (h : Tm w t mb sv n f) (hh : Heap n f) (hn : n ≤ 1000) {id at_ : Int} :
    Calls Try.prog 22 #[.pointer (some ⟨t, 0, none⟩), .int .u32 id, .int .u64 at_] w fun e w' => ∃ x, e = .returned (.int .i64 x) ∧ SetDone w w' t mb sv n f id at_ x := by
  by_cases hh' : Has n f id
  · exact set_old h hh hn hh'
  · by_cases hn' : n < 1000
    · exact set_new h hh hn' hh'
    · exact set_full h (by omega) hh'

theorem Up.congr {n i k : Nat} {f g : Nat → Ent} (h : Up n i f k) (hk : k < n) (e : ∀ j, j < n → g j = f j) : Up n i g k := by
  obtain ⟨h1, h2, h3, h4⟩ := h
  refine ⟨h1, fun j j0 jn ji jp => ?_, fun j j0 jn jp i0 => ?_, fun hki j j0 jn jp => ?_⟩
  · unfold Ord; rw [e j jn, e _ (by omega)]; exact h2 j j0 jn ji jp
  · rw [e j jn, e _ (by omega)]; exact h3 j j0 jn jp i0
  · unfold Ord; rw [e j jn, e _ (by omega)]; exact h4 hki j j0 jn jp
theorem Heap.congr {n : Nat} {f g : Nat → Ent} (h : Heap n f) (e : ∀ j, j < n → g j = f j) : Heap n g := by
  intro j j0 jn
  unfold Ord; rw [e j jn, e _ (by omega)]; exact h j j0 jn
theorem Heap.less {n m : Nat} {f : Nat → Ent} (h : Heap n f) (hm : m ≤ n) : Heap m f := fun j j0 jn => h j j0 (by omega)
theorem sw_last {m i : Nat} {f : Nat → Ent} : sw f i m m = f i := by
  unfold sw
  by_cases e : m = i
  · subst e; rw [if_pos rfl]
  · rw [if_neg e, if_pos rfl]
theorem in_out {m i : Nat} {f : Nat → Ent} (h : Inj (m + 1) f) (hi : i < m + 1) (p : Ent) : In m (sw f i m) p ↔ p.1 ≠ (f i).1 ∧ In (m + 1) f p := by
  have hj := inj_sw hi (Nat.lt_succ_self m) h
  rw [← in_sw hi (Nat.lt_succ_self m) p]
  constructor
  · rintro ⟨k, hk, e⟩
    refine ⟨fun e2 => ?_, k, by omega, e⟩
    rw [← e, ← sw_last (m := m) (i := i) (f := f)] at e2
    have := hj k m (by omega) (by omega) e2
    omega
  · rintro ⟨h1, k, hk, e⟩
    have : k ≠ m := by rintro rfl; rw [sw_last] at e; rw [← e] at h1; exact h1 rfl
    exact ⟨k, by omega, e⟩

set_option maxRecDepth 100000 in
set_option maxHeartbeats 4000000 in
theorem remove_c {w : World} {t mb m : Nat} {sv : Value} {f : Nat → Ent} (h : Tm w t mb sv (m + 1) f) (hh : Heap (m + 1) f) {i : Nat} {x : Int} (hx : x = i) (hi : i < m + 1) :
    Calls Try.prog 57 #[.pointer (some ⟨t, 0, none⟩), .int .i64 x] w fun e w' => e = .returned (.tuple #[]) ∧ Mod (fun k => k = t ∨ Own sv mb k) w w' ∧
      ∃ sv' f', sv'.ownBlock = sv.ownBlock ∧ Tm w' t mb sv' m f' ∧ Heap m f' ∧ ∀ p, In m f' p ↔ p.1 ≠ (f i).1 ∧ In (m + 1) f p := by
  subst hx
  obtain ⟨g, cap, cur, rfl, hb, h1, h2, h3, h4⟩ := h.pos (by omega)
  have ht := h.blk.lt
  have few := h.few
  have c0 : w.cell? ⟨t, 0, none⟩ = some (.slice (some ⟨g, 0, none⟩) (m + 1 : Nat) cap) := h.blk.cellv rfl
  have H := hid h; have HH := hid hh
  clear h hh hb h3 h4
  have hmi : (((m + 1 : Nat) : Int) - 1) = (m : Int) := by omega
  go_enter Try.func57, Try.ntmps57
  go_wp2_with (go_at_call 65; refine (swap_c H.out (j := m) rfl rfl hi (Nat.lt_succ_self m)).mono ?_; rintro e w1 ⟨rfl, T1, M1⟩; have T1' := hid T1; have M1' := hid M1; clear T1 M1)
  clear c0 ht
  obtain ⟨g', cap', cur1, hsv, hb, q1, q2, q3, q4⟩ := T1'.out.pos (by omega)
  have hsv2 : g = g' ∧ cap = cap' := by simpa using hsv
  obtain ⟨rfl, rfl⟩ := hsv2
  clear hsv
  obtain ⟨D, hD, hD1, hD2⟩ := T1'.out.map
  have hsl := sw_last (m := m) (i := i) (f := f)
  have ht1 := T1'.out.blk.lt
  have hg1 := hb.lt
  have htg : t ≠ g := T1'.out.blk.ne hb (by decide)
  have htm : t ≠ mb := hD.not_cells T1'.out.blk
  have hgm : g ≠ mb := hD.not_cells hb
  have d0 : w1.cell? ⟨t, 0, none⟩ = some (.slice (some ⟨g, 0, none⟩) (m + 1) cap) := T1'.out.blk.cellv rfl
  have d1 : w1.cell? ⟨t, 1, none⟩ = some (.map (some mb)) := T1'.out.blk.cellv rfl
  have d2 : w1.cell? ⟨g, m * 2, none⟩ = some (.int .u32 (f i).1) := hb.cellv (by have := (q4 m (by omega)).1; rw [hsl] at this; exact this)
  obtain ⟨es, cl, hdel, hdel2⟩ := (hD.of_block (w' := w1.drew) rfl).delete (P := Try.prog) (t := 89) rfl rfl 63 0 (f i).1
  have b1 : Blk (setBlock w1.drew mb (.map es cl)) t #[.slice (some ⟨g, 0, none⟩) (m + 1) cap, .map (some mb)] 92 := (T1'.out.blk.drew).setBlock _ htm
  have b2 : Blk (setBlock w1.drew mb (.map es cl)) g cur1 95 := (hb.drew).setBlock _ hgm
  have b3 := hdel2 _ (heap_setBlock (w := w1.drew) hD.lt _)
  have M2 : Mod (fun k => k = t ∨ Own (.slice (some ⟨g, 0, none⟩) (m + 1) cap) mb k) w (setBlock w1.drew mb (.map es cl)) := (M1'.out.weaken (S' := fun k => k = t ∨ Own (.slice (some ⟨g, 0, none⟩) (m + 1) cap) mb k) (fun k _ hk => Or.inr hk)).drew.setBlock (fun _ => Or.inr (Or.inr rfl)) _
  have e0 : (setBlock w1.drew mb (.map es cl)).cell? ⟨t, 0, none⟩ = some (.slice (some ⟨g, 0, none⟩) (m + 1) cap) := b1.cellv rfl
  have e1 : (setBlock w1.drew mb (.map es cl)).frozen? ⟨t, 0, none⟩ = false := b1.frozen _
  generalize hw2 : setBlock w1.drew mb (.map es cl) = w2 at *
  have ht2 := b1.lt
  have hi' := inj_sw hi (Nat.lt_succ_self m) H.out.inj
  have T2 : Tm (w2.setCell ⟨t, 0, none⟩ (.slice (some ⟨g, 0, none⟩) m cap)) t mb (.slice (some ⟨g, 0, none⟩) m cap) m (sw f i m) := by
    refine ⟨b1.set 0 _, Or.inr ⟨g, cap, cur1, rfl, b2.other htg _, by omega, q2, q3, fun k hk => q4 k (by omega)⟩, ⟨_, b3.other htm _, fun k hk => ?_, fun x v hx => ?_⟩, fun a b ha hb => hi' a b (by omega) (by omega), by omega⟩
    · unfold del
      rw [if_neg (fun e => ?_)]
      · exact hD1 k (by omega)
      · rw [← hsl] at e
        have := hi' k m (by omega) (by omega) e
        omega
    · unfold del at hx
      by_cases e : x = (f i).1
      · rw [if_pos e] at hx; cases hx
      · rw [if_neg e] at hx
        obtain ⟨k, hk, hk'⟩ := hD2 x v hx
        refine ⟨k, ?_, hk'⟩
        have : k ≠ m := by rintro rfl; rw [hsl] at hk'; exact e hk'.symm
        omega
  have T2' := hid T2; have M2' := hid M2; have HW2 := hid hw2
  clear T2 M2 hw2 b1 b2 b3 hdel2 hD hD1 hD2 hb q4 q3 hsl hi'
  go_region
  by_cases him : i < m
  · have UP := hid (show Up m i (sw f i m) i from (up_put (HH.out.less (Nat.le_succ m)) (f m)).congr him (fun j hj => by
      unfold sw put; by_cases e : j = i
      · rw [if_pos e, if_pos e]
      · rw [if_neg e, if_neg e, if_neg (by omega)]))
    go_wp2_with (go_at_call 39; refine (settle_c T2'.out rfl him UP.out).mono ?_; rintro e w5 ⟨rfl, f2, T5, D5, I5, M5⟩; have T5' := hid T5; have D5' := hid D5; have I5' := hid I5; have M5' := hid M5; clear T5 D5 I5 M5)
    go_end0
    exact ⟨rfl, (M2'.out.setCell (fun _ => Or.inl rfl) _).trans (M5'.out.weaken fun k _ hk => Or.inr hk), (.slice (some ⟨g, 0, none⟩) m cap), f2, rfl, T5'.out, D5'.out, fun p => (I5'.out p).trans (in_out H.out.inj hi p)⟩
  · go_wp2
    go_end0
    have e : i = m := by omega
    refine ⟨rfl, M2'.out.setCell (fun _ => Or.inl rfl) _, (.slice (some ⟨g, 0, none⟩) m cap), _, rfl, T2'.out, (HH.out.less (Nat.le_succ m)).congr (fun j hj => ?_), fun p => in_out H.out.inj hi p⟩
    unfold sw
    rw [if_neg (by omega), if_neg (by omega)]
end Go.Proofs.Ytkehejkjifgieaa

namespace Go.Proofs.Ytkehejkjifgieaa
open Go.RowKit Go.ChangeMaps

set_option maxRecDepth 100000 in
set_option maxHeartbeats 2000000 in
theorem cancel_old {w : World} {t mb m : Nat} {sv : Value} {f : Nat → Ent} (h : Tm w t mb sv (m + 1) f) (hh : Heap (m + 1) f) {i : Nat} (hi : i < m + 1) {id : Int} (hid : id = (f i).1) :
    Calls Try.prog 44 #[.pointer (some ⟨t, 0, none⟩), .int .u32 id] w fun e w' => e = .returned (.bool true) ∧ Mod (fun k => k = t ∨ Own sv mb k) w w' ∧
      ∃ sv' f', sv'.ownBlock = sv.ownBlock ∧ Tm w' t mb sv' m f' ∧ Heap m f' ∧ ∀ p, In m f' p ↔ p.1 ≠ id ∧ In (m + 1) f p := by
  subst hid
  obtain ⟨D, hD, hD1, hD2⟩ := h.map
  have ht := h.blk.lt
  have c1 : w.cell? ⟨t, 1, none⟩ = some (.map (some mb)) := h.blk.cellv rfl
  have lk : (Instr.lookup 89 (.map (some mb)) (.int .u32 (f i).1) true).run Try.prog w = .ok (.tuple #[.int .i64 (i : Int), .bool true]) w := by
    have := hD.look (P := Try.prog) (t := 89) (z := .int .i64 0) rfl rfl rfl (f i).1
    rw [hD1 i hi] at this; exact this
  have H := hid h; have HH := hid hh
  clear hD1 hD2 hD h hh
  go_enter Try.func44, Try.ntmps44
  go_wp2_with (go_at_call 57; refine (remove_c H.out HH.out rfl hi).mono ?_; rintro e w1 ⟨rfl, M1, R1⟩; have M1' := Go.Proofs.Ytkehejkjifgieaa.hid M1; have R1' := Go.Proofs.Ytkehejkjifgieaa.hid R1; clear M1 R1)
  go_ret
  exact ⟨rfl, M1'.out, R1'.out⟩
set_option maxRecDepth 100000 in
set_option maxHeartbeats 2000000 in
theorem cancel_none {w : World} {t mb n : Nat} {sv : Value} {f : Nat → Ent} (h : Tm w t mb sv n f) {id : Int} (hhas : ¬ Has n f id) :
    Calls Try.prog 44 #[.pointer (some ⟨t, 0, none⟩), .int .u32 id] w fun e w' => e = .returned (.bool false) ∧ w' = w := by
  obtain ⟨D, hD, hD1, hD2⟩ := h.map
  have ht := h.blk.lt
  have c1 : w.cell? ⟨t, 1, none⟩ = some (.map (some mb)) := h.blk.cellv rfl
  have lk : (Instr.lookup 89 (.map (some mb)) (.int .u32 id) true).run Try.prog w = .ok (.tuple #[.int .i64 0, .bool false]) w := by
    have := hD.look (P := Try.prog) (t := 89) (z := .int .i64 0) rfl rfl rfl id
    rw [where_none' hD2 hhas] at this; exact this
  clear hD1 hD2 hD h
  go_enter Try.func44, Try.ntmps44
  go_wp2
  go_ret
  exact ⟨rfl, rfl⟩
end Go.Proofs.Ytkehejkjifgieaa

namespace Go.Proofs.Ytkehejkjifgieaa
open Go.RowKit Go.ChangeMaps

def Sorted (m : List Ent) : Prop := m.Pairwise (fun a b => lt a b = true)
def ins (e : Ent) : List Ent → List Ent
  | [] => [e]
  | x :: xs => if lt e x then e :: x :: xs else x :: ins e xs
def without (m : List Ent) (id : Int) : List Ent := m.filter (fun p => decide (p.1 ≠ id))
def setL (m : List Ent) (id at_ : Int) : List Ent := ins (id, at_) (without m id)
def hasL (m : List Ent) (id : Int) : Bool := m.any (fun p => decide (p.1 = id))
/-- The first that are due, at most so many; and what stays. -/
def dueL (now : Int) : Nat → List Ent → List Ent × List Ent
  | 0, m => ([], m)
  | _ + 1, [] => ([], [])
  | k + 1, e :: m => if e.2 ≤ now then (e :: (dueL now k m).1, (dueL now k m).2) else ([], e :: m)

structure Rep (w : World) (t mb : Nat) (sv : Value) (m : List Ent) : Prop where
  ex : ∃ f, Tm w t mb sv m.length f ∧ Heap m.length f ∧ ∀ p, In m.length f p ↔ p ∈ m
  ord : Sorted m
  few : m.length ≤ 1000

theorem ids_of {n : Nat} {f : Nat → Ent} {m : List Ent} (h : Inj n f) (hi : ∀ p, In n f p ↔ p ∈ m) {a b : Ent} (ha : a ∈ m) (hb : b ∈ m) (e : a.1 = b.1) : a = b := by
  obtain ⟨i, i1, i2⟩ := (hi a).2 ha
  obtain ⟨j, j1, j2⟩ := (hi b).2 hb
  have := h i j i1 j1 (by rw [i2, j2]; exact e)
  rw [← i2, ← j2, this]
theorem lt_irrefl (a : Ent) : lt a a = false := by rw [lt_no]; omega
theorem lt_trans {a b c : Ent} (h : lt a b = true) (k : lt b c = true) : lt a c = true := by rw [lt_iff] at *; omega
theorem mem_ins (e : Ent) (m : List Ent) (p : Ent) : p ∈ ins e m ↔ p = e ∨ p ∈ m := by
  induction m with
  | nil => simp [ins]
  | cons x xs ih =>
    unfold ins; split
    · simp
    · simp [ih]; constructor <;> (intro h; rcases h with h | h | h <;> simp [h])
theorem ins_length (e : Ent) (m : List Ent) : (ins e m).length = m.length + 1 := by
  induction m with
  | nil => rfl
  | cons x xs ih => unfold ins; split <;> simp [ih]
theorem ins_sorted {e : Ent} {m : List Ent} (h : Sorted m) (hn : ∀ p ∈ m, p.1 ≠ e.1) : Sorted (ins e m) := by
  induction m with
  | nil => simp [Sorted, ins]
  | cons x xs ih =>
    obtain ⟨h1, h2⟩ := List.pairwise_cons.1 h
    unfold ins; split
    · rename_i hl
      refine List.pairwise_cons.2 ⟨fun y hy => ?_, h⟩
      rcases List.mem_cons.1 hy with rfl | hy
      · exact hl
      · exact lt_trans hl (h1 y hy)
    · rename_i hl
      refine List.pairwise_cons.2 ⟨fun y hy => ?_, ih h2 (fun p hp => hn p (List.mem_cons_of_mem _ hp))⟩
      rcases (mem_ins _ _ _).1 hy with rfl | hy
      · have := hn x List.mem_cons_self
        have hl' : lt y x = false := by simpa using hl
        rw [lt_no] at hl'; rw [lt_iff]; omega
      · exact h1 y hy
theorem without_sorted {m : List Ent} (h : Sorted m) (id : Int) : Sorted (without m id) := h.filter _
theorem mem_without (m : List Ent) (id : Int) (p : Ent) : p ∈ without m id ↔ p.1 ≠ id ∧ p ∈ m := by simp [without, and_comm]
theorem without_none {m : List Ent} {id : Int} (h : ∀ p ∈ m, p.1 ≠ id) : without m id = m := by
  unfold without; rw [List.filter_eq_self]; intro p hp; simpa using h p hp
theorem without_length {m : List Ent} {id : Int} (h : Sorted m) (hid : ∀ a ∈ m, ∀ b ∈ m, a.1 = b.1 → a = b) (hh : ∃ a ∈ m, a.1 = id) : (without m id).length + 1 = m.length := by
  induction m with
  | nil => obtain ⟨a, ha, _⟩ := hh; cases ha
  | cons x xs ih =>
    obtain ⟨h1, h2⟩ := List.pairwise_cons.1 h
    by_cases e : x.1 = id
    · have : without (x :: xs) id = xs := by
        have k : ∀ p ∈ xs, p.1 ≠ id := by
          intro p hp e2
          have := hid x List.mem_cons_self p (List.mem_cons_of_mem _ hp) (by rw [e, e2])
          have hl := h1 p hp
          rw [← this, lt_irrefl] at hl; cases hl
        have : without (x :: xs) id = without xs id := by simp [without, e]
        rw [this]; exact without_none k
      rw [this]; rfl
    · have : without (x :: xs) id = x :: without xs id := by simp [without, e]
      rw [this, List.length_cons, List.length_cons, ih h2 (fun a ha b hb => hid a (List.mem_cons_of_mem _ ha) b (List.mem_cons_of_mem _ hb))]
      obtain ⟨a, ha, hae⟩ := hh
      rcases List.mem_cons.1 ha with rfl | ha
      · exact absurd hae e
      · exact ⟨a, ha, hae⟩
theorem hasL_iff (m : List Ent) (id : Int) : hasL m id = true ↔ ∃ a ∈ m, a.1 = id := by simp [hasL]
theorem has_iff {n : Nat} {f : Nat → Ent} {m : List Ent} (hi : ∀ p, In n f p ↔ p ∈ m) (id : Int) : Has n f id ↔ ∃ a ∈ m, a.1 = id := by
  constructor
  · rintro ⟨k, hk, e⟩; exact ⟨f k, (hi _).1 ⟨k, hk, rfl⟩, e⟩
  · rintro ⟨a, ha, e⟩
    obtain ⟨k, hk, e'⟩ := (hi a).2 ha
    exact ⟨k, hk, by rw [e']; exact e⟩
theorem top_head {n : Nat} {f : Nat → Ent} {e : Ent} {m : List Ent} (hh : Heap n f) (hn : 0 < n) (hi : ∀ p, In n f p ↔ p ∈ e :: m) (hs : Sorted (e :: m)) : f 0 = e := by
  have h0 := (hi (f 0)).1 ⟨0, hn, rfl⟩
  rcases List.mem_cons.1 h0 with h | h
  · exact h
  · have := (List.pairwise_cons.1 hs).1 _ h
    obtain ⟨k, hk, ek⟩ := (hi e).2 List.mem_cons_self
    have h2 := heap_top hh k hk
    rw [ek, this] at h2; cases h2

theorem Rep.ids {w : World} {t mb : Nat} {sv : Value} {m : List Ent} (h : Rep w t mb sv m) : ∀ a ∈ m, ∀ b ∈ m, a.1 = b.1 → a = b := by
  obtain ⟨f, h1, h2, h3⟩ := h.ex
  exact fun a ha b hb e => ids_of h1.inj h3 ha hb e
theorem Rep.tm {w w' : World} {t mb : Nat} {sv : Value} {m : List Ent} (h : Rep w t mb sv m) (hk : ∀ n f, Tm w t mb sv n f → Tm w' t mb sv n f) : Rep w' t mb sv m := by
  obtain ⟨f, h1, h2, h3⟩ := h.ex
  exact ⟨⟨f, hk _ _ h1, h2, h3⟩, h.ord, h.few⟩
theorem Rep.below {w w' : World} {t mb : Nat} {sv : Value} {m : List Ent} (h : Rep w t mb sv m) (hb : Below w.heap.size w w') : Rep w' t mb sv m := h.tm fun _ _ k => k.below hb
theorem Rep.lts {w : World} {t mb : Nat} {sv : Value} {m : List Ent} (h : Rep w t mb sv m) : t < w.heap.size ∧ ∀ k, Own sv mb k → k < w.heap.size := by
  obtain ⟨f, h1, h2, h3⟩ := h.ex
  refine ⟨h1.blk.lt, ?_⟩
  rintro k (e | rfl)
  · exact h1.own_lt k e
  · exact h1.map.lt

theorem Rep.kind {w : World} {t mb : Nat} {sv : Value} {m : List Ent} (h : Rep w t mb sv m) {k : Nat} (hk : k = t ∨ Own sv mb k) {cs : Array Value} {T : TypeId} {fz : Nat × Nat} (hc : w.heap[k]? = some (.cells cs T fz)) : T = 92 ∨ T = 95 := by
  obtain ⟨f, h1, h2, h3⟩ := h.ex
  obtain ⟨D, hD, _⟩ := h1.map
  rcases hk with rfl | hk | rfl
  · have := h1.blk; unfold Blk at this; rw [hc] at this; cases this; exact Or.inl rfl
  · rcases h1.row with ⟨r, _⟩ | ⟨g', cap, cur, r1, r2, r3⟩
    · rw [r] at hk; cases hk
    · rw [r1] at hk; cases hk; unfold Blk at r2; rw [hc] at r2; cases r2; exact Or.inr rfl
  · exact absurd rfl (hD.not_cells hc)
theorem Rep.keeps {w w' : World} {t mb : Nat} {sv : Value} {m : List Ent} (h : Rep w t mb sv m) (M : Mod (fun k => k = t ∨ Own sv mb k) w w') {b : Nat} {cs : Array Value} {T : TypeId} {fz : Nat × Nat} (hc : w.heap[b]? = some (.cells cs T fz)) (h1 : T ≠ 92) (h2 : T ≠ 95) : w'.heap[b]? = some (.cells cs T fz) :=
  (M.block b (Array.getElem?_eq_some_iff.1 hc).1 (fun hs => (h.kind hs hc).elim h1 h2)).trans hc
theorem Rep.keeps_row {w w' : World} {t mb : Nat} {sv : Value} {m : List Ent} (h : Rep w t mb sv m) (M : Mod (fun k => k = t ∨ Own sv mb k) w w') {base size n : Nat} {v : Value} {xs : List Value} {T : TypeId} (ho : w.ownsRow base T size v n xs) (h1 : T ≠ 92) (h2 : T ≠ 95) : w'.ownsRow base T size v n xs := by
  refine ⟨ho.1, ?_⟩
  rcases ho.2 with k1 | ⟨g, cap, cur, rfl, k2, k3, k4⟩
  · exact Or.inl k1
  · exact Or.inr ⟨g, cap, cur, rfl, k2, h.keeps M k3 h1 h2, k4⟩
theorem Rep.apart {w w' : World} {t mb : Nat} {sv : Value} {m : List Ent} (h : Rep w t mb sv m) {S : Nat → Prop} (M : Mod S w w') (hs : ∀ k, S k → k < w.heap.size → ∃ cs T fz, w.heap[k]? = some (.cells cs T fz) ∧ T ≠ 92 ∧ T ≠ 95) : Rep w' t mb sv m := by
  have key : ∀ k, (k = t ∨ Own sv mb k) → ¬ S k := by
    intro k hk hS
    have hlt : k < w.heap.size := by
      rcases hk with rfl | hk
      · exact h.lts.1
      · exact h.lts.2 k hk
    obtain ⟨cs, T, fz, hc, h1, h2⟩ := hs k hS hlt
    exact (h.kind hk hc).elim h1 h2
  exact h.tm fun _ _ k => k.mod M (key _ (Or.inl rfl)) (key _ (Or.inr (Or.inr rfl))) (fun g hg => key _ (Or.inr (Or.inl hg)))

theorem new_r (w : World) : Calls Try.prog 18 #[] w fun e w' => ∃ t mb sv, e = .returned (.pointer (some ⟨t, 0, none⟩)) ∧ w.heap.size ≤ t ∧ (∀ k, Own sv mb k → w.heap.size ≤ k) ∧ Below w.heap.size w w' ∧ Rep w' t mb sv [] := by
  refine (new_c w).mono ?_
  rintro e w' ⟨rfl, hb, T⟩
  refine ⟨_, _, _, rfl, by omega, ?_, hb, ⟨_, T, fun j j0 jn => absurd jn (by simp), fun p => ⟨?_, fun h => by cases h⟩⟩, List.Pairwise.nil, by simp⟩
  · rintro k (h | rfl)
    · cases h
    · exact Nat.le_refl _
  · rintro ⟨k, hk, _⟩; cases hk

/-- What Set answers. -/
theorem set_r {w : World} {t mb : Nat} {sv : Value} {m : List Ent} (h : Rep w t mb sv m) (id at_ : Int) :
    Calls Try.prog 22 #[.pointer (some ⟨t, 0, none⟩), .int .u32 id, .int .u64 at_] w fun e w' => Mod (fun k => k = t ∨ Own sv mb k) w w' ∧ ∃ sv', (∀ k, Own sv' mb k → Own sv mb k ∨ w.heap.size ≤ k) ∧
      e = .returned (.int .i64 (if hasL m id = false ∧ 1000 ≤ m.length then 7 else 0)) ∧ Rep w' t mb sv' (if hasL m id = false ∧ 1000 ≤ m.length then m else setL m id at_) := by
  obtain ⟨f, h1, h2, h3⟩ := h.ex
  refine (set_c h1 h2 h.few).mono ?_
  rintro e w' ⟨x, rfl, M, F, D⟩
  refine ⟨M, ?_⟩
  have hb : hasL m id = false ↔ ¬ Has m.length f id := by rw [has_iff h3, ← hasL_iff]; simp
  by_cases hx : x = 7
  · obtain ⟨f1, f2, f3⟩ := F hx
    have c : hasL m id = false ∧ 1000 ≤ m.length := ⟨hb.2 f1, f2⟩
    rw [if_pos c, if_pos c]
    exact ⟨sv, fun _ => Or.inl, by rw [hx], ⟨f, f3, h2, h3⟩, h.ord, h.few⟩
  · obtain ⟨d1, d2, sv', n', f', d3, d3', d4, d5, d6, d7⟩ := D hx
    have c : ¬ (hasL m id = false ∧ 1000 ≤ m.length) := by
      rintro ⟨c1, c2⟩
      rcases d2 with d2 | d2
      · exact hb.1 c1 d2
      · omega
    rw [if_neg c, if_neg c]
    have hl : (setL m id at_).length = n' := by
      unfold setL
      rw [ins_length]
      by_cases hh : Has m.length f id
      · rw [d5 hh]
        exact without_length h.ord h.ids ((has_iff h3 id).1 hh)
      · rw [d6 hh, without_none]
        intro p hp e; exact hh ((has_iff h3 id).2 ⟨p, hp, e⟩)
    refine ⟨sv', d3', by rw [d1], ⟨f', by rw [hl]; exact d3, by rw [hl]; exact d4, fun p => by rw [hl, d7, setL, mem_ins, mem_without, h3, or_comm]⟩, ?_, ?_⟩
    · exact ins_sorted (without_sorted h.ord _) (fun p hp => ((mem_without _ _ _).1 hp).1)
    · rw [hl]
      by_cases hh : Has m.length f id
      · rw [d5 hh]; exact h.few
      · rw [d6 hh]
        rcases d2 with d2 | d2
        · exact absurd d2 hh
        · omega

theorem set_ok {w : World} {t mb : Nat} {sv : Value} {m : List Ent} (h : Rep w t mb sv m) (id at_ : Int) (hc : ¬ (hasL m id = false ∧ 1000 ≤ m.length)) {m' : List Ent} (hm : setL m id at_ = m') :
    Calls Try.prog 22 #[.pointer (some ⟨t, 0, none⟩), .int .u32 id, .int .u64 at_] w fun e w' => Mod (fun k => k = t ∨ Own sv mb k) w w' ∧ ∃ sv', (∀ k, Own sv' mb k → Own sv mb k ∨ w.heap.size ≤ k) ∧
      e = .returned (.int .i64 0) ∧ Rep w' t mb sv' m' := by
  subst hm
  refine (set_r h id at_).mono ?_
  rintro e w' ⟨M, sv', L, rfl, R⟩
  rw [if_neg hc] at R
  exact ⟨M, sv', L, by rw [if_neg hc], R⟩
theorem set_no {w : World} {t mb : Nat} {sv : Value} {m : List Ent} (h : Rep w t mb sv m) (id at_ : Int) (hc : hasL m id = false ∧ 1000 ≤ m.length) :
    Calls Try.prog 22 #[.pointer (some ⟨t, 0, none⟩), .int .u32 id, .int .u64 at_] w fun e w' => Mod (fun k => k = t ∨ Own sv mb k) w w' ∧ ∃ sv', (∀ k, Own sv' mb k → Own sv mb k ∨ w.heap.size ≤ k) ∧
      e = .returned (.int .i64 7) ∧ Rep w' t mb sv' m := by
  refine (set_r h id at_).mono ?_
  rintro e w' ⟨M, sv', L, rfl, R⟩
  rw [if_pos hc] at R
  exact ⟨M, sv', L, by rw [if_pos hc], R⟩

theorem cancel_r {w : World} {t mb : Nat} {sv : Value} {m : List Ent} (h : Rep w t mb sv m) (id : Int) :
    Calls Try.prog 44 #[.pointer (some ⟨t, 0, none⟩), .int .u32 id] w fun e w' => e = .returned (.bool (hasL m id)) ∧ Mod (fun k => k = t ∨ Own sv mb k) w w' ∧ ∃ sv', sv'.ownBlock = sv.ownBlock ∧ Rep w' t mb sv' (without m id) := by
  obtain ⟨f, h1, h2, h3⟩ := h.ex
  by_cases hh : Has m.length f id
  · have hl := without_length h.ord h.ids ((has_iff h3 id).1 hh)
    have hb : hasL m id = true := (hasL_iff m id).2 ((has_iff h3 id).1 hh)
    obtain ⟨i, hi, e⟩ := hh
    rw [← hl] at h1 h2 h3 hi
    refine (cancel_old h1 h2 hi e.symm).mono ?_
    rintro e w' ⟨rfl, M, sv', f', o, T, H, I⟩
    refine ⟨by rw [hb], M, sv', o, ⟨f', T, H, fun p => ?_⟩, without_sorted h.ord _, by have := h.few; omega⟩
    rw [I, mem_without, h3]
  · have hn : ∀ p ∈ m, p.1 ≠ id := fun p hp e => hh ((has_iff h3 id).2 ⟨p, hp, e⟩)
    have hb : hasL m id = false := by
      rw [← Bool.not_eq_true, hasL_iff]; rintro ⟨a, ha, e⟩; exact hn a ha e
    refine (cancel_none h1 hh).mono ?_
    rintro e w' ⟨rfl, rfl⟩
    exact ⟨by rw [hb], Mod.refl _ _, sv, rfl, by rw [without_none hn]; exact h⟩

theorem at_r {w : World} {t mb : Nat} {sv : Value} {m : List Ent} (h : Rep w t mb sv m) (id : Int) :
    Calls Try.prog 20 #[.pointer (some ⟨t, 0, none⟩), .int .u32 id] w fun e w' => e = .returned (.tuple #[.int .u64 (((m.find? (fun p => decide (p.1 = id))).map (·.2)).getD 0), .bool (hasL m id)]) ∧ w' = w := by
  obtain ⟨f, h1, h2, h3⟩ := h.ex
  by_cases hh : Has m.length f id
  · have hb : hasL m id = true := (hasL_iff m id).2 ((has_iff h3 id).1 hh)
    obtain ⟨i, hi, e⟩ := hh
    refine (at_old h1 hi e.symm).mono ?_
    rintro e' w' ⟨rfl, rfl⟩
    refine ⟨?_, rfl⟩
    have hm : f i ∈ m := (h3 _).1 ⟨i, hi, rfl⟩
    cases hf : m.find? (fun p => decide (p.1 = id)) with
    | none =>
      have := List.find?_eq_none.1 hf _ hm
      simp [e] at this
    | some p =>
      have h4 := List.find?_some hf
      have h5 := List.mem_of_find?_eq_some hf
      have : p = f i := h.ids p h5 (f i) hm (by rw [e]; simpa using h4)
      rw [hb, this]; rfl
  · have hn : ∀ p ∈ m, p.1 ≠ id := fun p hp e => hh ((has_iff h3 id).2 ⟨p, hp, e⟩)
    have hb : hasL m id = false := by
      rw [← Bool.not_eq_true, hasL_iff]; rintro ⟨a, ha, e⟩; exact hn a ha e
    refine (at_none h1 hh).mono ?_
    rintro e' w' ⟨rfl, rfl⟩
    refine ⟨?_, rfl⟩
    have : m.find? (fun p => decide (p.1 = id)) = none := List.find?_eq_none.2 (fun p hp => by simpa using hn p hp)
    rw [this, hb]; rfl

/-- The first one goes. -/
theorem remove_r {w : World} {t mb : Nat} {sv : Value} {a : Ent} {m : List Ent} (h : Rep w t mb sv (a :: m)) :
    Calls Try.prog 57 #[.pointer (some ⟨t, 0, none⟩), .int .i64 0] w fun e w' => e = .returned (.tuple #[]) ∧ Mod (fun k => k = t ∨ Own sv mb k) w w' ∧ ∃ sv', sv'.ownBlock = sv.ownBlock ∧ Rep w' t mb sv' m := by
  obtain ⟨f, h1, h2, h3⟩ := h.ex
  have e := top_head h2 (by simp) h3 h.ord
  refine (remove_c (m := m.length) h1 h2 (i := 0) rfl (by omega)).mono ?_
  rintro e' w' ⟨rfl, M, sv', f', o, T, H, I⟩
  refine ⟨rfl, M, sv', o, ⟨f', T, H, fun p => ?_⟩, (List.pairwise_cons.1 h.ord).2, by have := h.few; simp at this; omega⟩
  rw [I]
  have h3' := h3 p
  rw [List.length_cons] at h3'
  rw [h3', e, List.mem_cons]
  constructor
  · rintro ⟨k1, rfl | k2⟩
    · exact absurd rfl k1
    · exact k2
  · intro hp
    refine ⟨fun e2 => ?_, Or.inr hp⟩
    have := h.ids p (List.mem_cons_of_mem _ hp) a List.mem_cons_self e2
    have hl := (List.pairwise_cons.1 h.ord).1 p hp
    rw [this, lt_irrefl] at hl; cases hl
end Go.Proofs.Ytkehejkjifgieaa
