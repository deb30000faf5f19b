/- Set joined; remove takes one out. -/
import Derived.Test.YtfolgjgkeheaoaaSet
namespace Go.Proofs.Ytfolgjgkeheaoaa
open Go.RowKit Go.ChangeMaps

theorem set_c {w : World} {t mb n : Nat} {sv : Value} {f : Nat → Ent} (h : Tm w t mb sv n f) (hh : Heap n f) (hn : n ≤ 1000) {id at_ : Int} :
    Calls Try.prog 8 #[.pointer (some ⟨t, 0, none⟩), .int .u32 id, .int .u64 at_] w fun e w' => ∃ x, e = .returned (.int .i64 x) ∧ SetDone w w' t mb sv n f id at_ x := by
  by_cases hh' : Has n f id
  · exact set_old h hh hn hh'
  · by_cases hn' : n < 1000
    · exact set_new h hh hn' hh'
    · exact set_full h (by omega) hh'

theorem Up.congr {n i k : Nat} {f g : Nat → Ent} (h : Up n i f k) (hk : k < n) (e : ∀ j, j < n → g j = f j) : Up n i g k := by
  obtain ⟨h1, h2, h3, h4⟩ := h
  refine ⟨h1, fun j j0 jn ji jp => ?_, fun j j0 jn jp i0 => ?_, fun hki j j0 jn jp => ?_⟩
  · unfold Ord; rw [e j jn, e _ (by omega)]; exact h2 j j0 jn ji jp
  · rw [e j jn, e _ (by omega)]; exact h3 j j0 jn jp i0
  · unfold Ord; rw [e j jn, e _ (by omega)]; exact h4 hki j j0 jn jp
theorem Heap.congr {n : Nat} {f g : Nat → Ent} (h : Heap n f) (e : ∀ j, j < n → g j = f j) : Heap n g := by
  intro j j0 jn
  unfold Ord; rw [e j jn, e _ (by omega)]; exact h j j0 jn
theorem Heap.less {n m : Nat} {f : Nat → Ent} (h : Heap n f) (hm : m ≤ n) : Heap m f := fun j j0 jn => h j j0 (by omega)
theorem sw_last {m i : Nat} {f : Nat → Ent} : sw f i m m = f i := by
  unfold sw
  by_cases e : m = i
  · subst e; rw [if_pos rfl]
  · rw [if_neg e, if_pos rfl]
theorem in_out {m i : Nat} {f : Nat → Ent} (h : Inj (m + 1) f) (hi : i < m + 1) (p : Ent) : In m (sw f i m) p ↔ p.1 ≠ (f i).1 ∧ In (m + 1) f p := by
  have hj := inj_sw hi (Nat.lt_succ_self m) h
  rw [← in_sw hi (Nat.lt_succ_self m) p]
  constructor
  · rintro ⟨k, hk, e⟩
    refine ⟨fun e2 => ?_, k, by omega, e⟩
    rw [← e, ← sw_last (m := m) (i := i) (f := f)] at e2
    have := hj k m (by omega) (by omega) e2
    omega
  · rintro ⟨h1, k, hk, e⟩
    have : k ≠ m := by rintro rfl; rw [sw_last] at e; rw [← e] at h1; exact h1 rfl
    exact ⟨k, by omega, e⟩

set_option maxRecDepth 100000 in
set_option maxHeartbeats 4000000 in
theorem remove_c {w : World} {t mb m : Nat} {sv : Value} {f : Nat → Ent} (h : Tm w t mb sv (m + 1) f) (hh : Heap (m + 1) f) {i : Nat} {x : Int} (hx : x = i) (hi : i < m + 1) :
    Calls Try.prog 21 #[.pointer (some ⟨t, 0, none⟩), .int .i64 x] w fun e w' => e = .returned (.tuple #[]) ∧ Mod (fun k => k = t ∨ Own sv mb k) w w' ∧
      ∃ sv' f', sv'.ownBlock = sv.ownBlock ∧ Tm w' t mb sv' m f' ∧ Heap m f' ∧ ∀ p, In m f' p ↔ p.1 ≠ (f i).1 ∧ In (m + 1) f p := by
  subst hx
  obtain ⟨g, cap, cur, rfl, hb, h1, h2, h3, h4⟩ := h.pos (by omega)
  have ht := h.blk.lt
  have few := h.few
  have c0 : w.cell? ⟨t, 0, none⟩ = some (.slice (some ⟨g, 0, none⟩) (m + 1 : Nat) cap) := h.blk.cellv rfl
  have H := hid h; have HH := hid hh
  clear h hh hb h3 h4
  have hmi : (((m + 1 : Nat) : Int) - 1) = (m : Int) := by omega
  go_enter Try.func21, Try.ntmps21
  go_wp2_with (go_at_call 25; refine (swap_c H.out (j := m) rfl rfl hi (Nat.lt_succ_self m)).mono ?_; rintro e w1 ⟨rfl, T1, M1⟩; have T1' := hid T1; have M1' := hid M1; clear T1 M1)
  clear c0 ht
  obtain ⟨g', cap', cur1, hsv, hb, q1, q2, q3, q4⟩ := T1'.out.pos (by omega)
  have hsv2 : g = g' ∧ cap = cap' := by simpa using hsv
  obtain ⟨rfl, rfl⟩ := hsv2
  clear hsv
  obtain ⟨D, hD, hD1, hD2⟩ := T1'.out.map
  have hsl := sw_last (m := m) (i := i) (f := f)
  have ht1 := T1'.out.blk.lt
  have hg1 := hb.lt
  have htg : t ≠ g := T1'.out.blk.ne hb (by decide)
  have htm : t ≠ mb := hD.not_cells T1'.out.blk
  have hgm : g ≠ mb := hD.not_cells hb
  have d0 : w1.cell? ⟨t, 0, none⟩ = some (.slice (some ⟨g, 0, none⟩) (m + 1) cap) := T1'.out.blk.cellv rfl
  have d1 : w1.cell? ⟨t, 1, none⟩ = some (.map (some mb)) := T1'.out.blk.cellv rfl
  have d2 : w1.cell? ⟨g, m * 2, none⟩ = some (.int .u32 (f i).1) := hb.cellv (by have := (q4 m (by omega)).1; rw [hsl] at this; exact this)
  obtain ⟨es, cl, hdel, hdel2⟩ := (hD.of_block (w' := w1.drew) rfl).delete (P := Try.prog) (t := 56) rfl rfl 22 0 (f i).1
  have b1 : Blk (setBlock w1.drew mb (.map es cl)) t #[.slice (some ⟨g, 0, none⟩) (m + 1) cap, .map (some mb)] 59 := (T1'.out.blk.drew).setBlock _ htm
  have b2 : Blk (setBlock w1.drew mb (.map es cl)) g cur1 62 := (hb.drew).setBlock _ hgm
  have b3 := hdel2 _ (heap_setBlock (w := w1.drew) hD.lt _)
  have M2 : Mod (fun k => k = t ∨ Own (.slice (some ⟨g, 0, none⟩) (m + 1) cap) mb k) w (setBlock w1.drew mb (.map es cl)) := (M1'.out.weaken (S' := fun k => k = t ∨ Own (.slice (some ⟨g, 0, none⟩) (m + 1) cap) mb k) (fun k _ hk => Or.inr hk)).drew.setBlock (fun _ => Or.inr (Or.inr rfl)) _
  have e0 : (setBlock w1.drew mb (.map es cl)).cell? ⟨t, 0, none⟩ = some (.slice (some ⟨g, 0, none⟩) (m + 1) cap) := b1.cellv rfl
  have e1 : (setBlock w1.drew mb (.map es cl)).frozen? ⟨t, 0, none⟩ = false := b1.frozen _
  generalize hw2 : setBlock w1.drew mb (.map es cl) = w2 at *
  have ht2 := b1.lt
  have hi' := inj_sw hi (Nat.lt_succ_self m) H.out.inj
  have T2 : Tm (w2.setCell ⟨t, 0, none⟩ (.slice (some ⟨g, 0, none⟩) m cap)) t mb (.slice (some ⟨g, 0, none⟩) m cap) m (sw f i m) := by
    refine ⟨b1.set 0 _, Or.inr ⟨g, cap, cur1, rfl, b2.other htg _, by omega, q2, q3, fun k hk => q4 k (by omega)⟩, ⟨_, b3.other htm _, fun k hk => ?_, fun x v hx => ?_⟩, fun a b ha hb => hi' a b (by omega) (by omega), by omega⟩
    · unfold del
      rw [if_neg (fun e => ?_)]
      · exact hD1 k (by omega)
      · rw [← hsl] at e
        have := hi' k m (by omega) (by omega) e
        omega
    · unfold del at hx
      by_cases e : x = (f i).1
      · rw [if_pos e] at hx; cases hx
      · rw [if_neg e] at hx
        obtain ⟨k, hk, hk'⟩ := hD2 x v hx
        refine ⟨k, ?_, hk'⟩
        have : k ≠ m := by rintro rfl; rw [hsl] at hk'; exact e hk'.symm
        omega
  have T2' := hid T2; have M2' := hid M2; have HW2 := hid hw2
  clear T2 M2 hw2 b1 b2 b3 hdel2 hD hD1 hD2 hb q4 q3 hsl hi'
  go_region
  by_cases him : i < m
  · have UP := hid (show Up m i (sw f i m) i from (up_put (HH.out.less (Nat.le_succ m)) (f m)).congr him (fun j hj => by
      unfold sw put; by_cases e : j = i
      · rw [if_pos e, if_pos e]
      · rw [if_neg e, if_neg e, if_neg (by omega)]))
    go_wp2_with (go_at_call 20; refine (settle_c T2'.out rfl him UP.out).mono ?_; rintro e w5 ⟨rfl, f2, T5, D5, I5, M5⟩; have T5' := hid T5; have D5' := hid D5; have I5' := hid I5; have M5' := hid M5; clear T5 D5 I5 M5)
    go_end0
    exact ⟨rfl, (M2'.out.setCell (fun _ => Or.inl rfl) _).trans (M5'.out.weaken fun k _ hk => Or.inr hk), (.slice (some ⟨g, 0, none⟩) m cap), f2, rfl, T5'.out, D5'.out, fun p => (I5'.out p).trans (in_out H.out.inj hi p)⟩
  · go_wp2
    go_end0
    have e : i = m := by omega
    refine ⟨rfl, M2'.out.setCell (fun _ => Or.inl rfl) _, (.slice (some ⟨g, 0, none⟩) m cap), _, rfl, T2'.out, (HH.out.less (Nat.le_succ m)).congr (fun j hj => ?_), fun p => in_out H.out.inj hi p⟩
    unfold sw
    rw [if_neg (by omega), if_neg (by omega)]
end Go.Proofs.Ytfolgjgkeheaoaa
