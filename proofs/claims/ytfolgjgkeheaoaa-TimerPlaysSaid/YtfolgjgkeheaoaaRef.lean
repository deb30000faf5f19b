/- The document's answer: a list in memory; At, Cancel. -/
import Derived.Test.YtfolgjgkeheaoaaOrder
namespace Go.Proofs.Ytfolgjgkeheaoaa
open Go.RowKit Go.ChangeMaps

/-- v is a slice of the timers m. -/
def Lst (w : World) (v : Value) (m : List Ent) : Prop :=
  ∃ p cap, v = .slice p m.length cap ∧ m.length ≤ cap ∧ cap ≤ maxLen ∧ (0 < m.length → ∃ b off, p = some ⟨b, off, none⟩ ∧ b < w.heap.size ∧ ∃ cs fz, w.heap[b]? = some (.cells cs 53 fz)) ∧
    ∀ b off, p = some ⟨b, off, none⟩ → ∀ i, i < m.length → w.cell? ⟨b, off + i * 2, none⟩ = some (.int .u32 (m.getD i (0, 0)).1) ∧ w.cell? ⟨b, off + i * 2 + 1, none⟩ = some (.int .u64 (m.getD i (0, 0)).2)
def prs (m : List Ent) : List Value := m.flatMap (fun e => [.int .u32 e.1, .int .u64 e.2])
theorem prs_length (m : List Ent) : (prs m).length = m.length * 2 := by
  induction m with
  | nil => rfl
  | cons a m ih => simp only [prs, List.flatMap_cons, List.length_append, List.length_cons, List.length_nil] at *; omega
theorem prs_get (m : List Ent) : ∀ i, i < m.length → (prs m)[i * 2]? = some (.int .u32 (m.getD i (0, 0)).1) ∧ (prs m)[i * 2 + 1]? = some (.int .u64 (m.getD i (0, 0)).2) := by
  induction m with
  | nil => intro i hi; simp at hi
  | cons a m ih =>
    intro i hi
    cases i with
    | zero => exact ⟨rfl, rfl⟩
    | succ i =>
      have h := ih i (by simpa using hi)
      rw [show (i + 1) * 2 = i * 2 + 2 by omega, show i * 2 + 2 + 1 = i * 2 + 1 + 2 by omega]
      exact h
theorem own_lst {w : World} {base : Nat} {v : Value} {m : List Ent} {n : Nat} (hn : m.length = n) (h : w.ownsRow base 53 2 v n (prs m)) : Lst w v m := by
  subst hn
  rcases h.2 with ⟨rfl, h0⟩ | ⟨g, cap, cur, rfl, h1, h2, h3, h4, h5, h6⟩
  · refine ⟨none, 0, by rw [h0], by omega, Nat.zero_le _, fun hp => by omega, fun b off e => by cases e⟩
  · refine ⟨_, cap, rfl, h3, h4, fun _ => ⟨g, 0, rfl, (Array.getElem?_eq_some_iff.1 h2).1, _, _, h2⟩, fun b off e i hi => ?_⟩
    cases e
    have hb : Blk w g cur 53 := h2
    have hp := prs_get m i hi
    rw [← h6, List.getElem?_take_of_lt (by omega), List.getElem?_take_of_lt (by omega), Array.getElem?_toList, Array.getElem?_toList] at hp
    rw [Nat.zero_add]
    exact ⟨hb.cellv hp.1, hb.cellv hp.2⟩
theorem Lst.below {w w' : World} {v : Value} {m : List Ent} (h : Lst w v m) (hb : Below w.heap.size w w') : Lst w' v m := by
  obtain ⟨p, cap, rfl, h1, h2, h3, h4⟩ := h
  refine ⟨p, cap, rfl, h1, h2, fun hp => ?_, fun b off e i hi => ?_⟩
  · obtain ⟨b, off, e, hl, cs, fz, hc⟩ := h3 hp
    exact ⟨b, off, e, Nat.lt_of_lt_of_le hl hb.size, cs, fz, (hb.block b hl).trans hc⟩
  · obtain ⟨b', off', e', hl, _⟩ := h3 (by omega)
    rw [e] at e'; cases e'
    have := h4 b off e i hi
    exact ⟨(hb.cell hl).trans this.1, (hb.cell hl).trans this.2⟩
/-- What a call on the timers leaves of a list. -/
theorem Lst.keeps {w w' : World} {t mb : Nat} {sv : Value} {q : List Ent} (R : Rep w t mb sv q) (M : Mod (fun k => k = t ∨ Own sv mb k) w w') {v : Value} {m : List Ent} (h : Lst w v m) : Lst w' v m := by
  obtain ⟨p, cap, rfl, h1, h2, h3, h4⟩ := h
  refine ⟨p, cap, rfl, h1, h2, fun hp => ?_, fun b off e i hi => ?_⟩
  · obtain ⟨b, off, e, hl, cs, fz, hc⟩ := h3 hp
    exact ⟨b, off, e, Nat.lt_of_lt_of_le hl M.size, cs, fz, R.keeps M hc (by decide) (by decide)⟩
  · obtain ⟨b', off', e', hl, cs, fz, hc⟩ := h3 (by omega)
    rw [e] at e'; cases e'
    have hk := R.keeps M hc (by decide) (by decide)
    have := h4 b off e i hi
    have hbk : w'.heap[b]? = w.heap[b]? := hk.trans hc.symm
    exact ⟨(World.cell?_of_block (w := w) hbk).trans this.1, (World.cell?_of_block (w := w) hbk).trans this.2⟩

theorem find_take_none {m : List Ent} {id : Int} {k : Nat} (h : ∀ j, j < k → (m.getD j (0, 0)).1 ≠ id) : (m.take k).find? (fun p => decide (p.1 = id)) = none := by
  refine List.find?_eq_none.2 (fun p hp => ?_)
  obtain ⟨j, hj, e⟩ := List.getElem_of_mem hp
  have hj' : j < k := by simp at hj; omega
  have := h j hj'
  rw [List.getElem_take] at e
  rw [List.getD_eq_getElem?_getD, List.getElem?_eq_getElem (by simp at hj; omega), Option.getD_some, e] at this
  simpa using this

set_option maxRecDepth 100000 in
set_option maxHeartbeats 2000000 in
theorem refAt_c {w : World} {v : Value} {m : List Ent} (h : Lst w v m) (id : Int) :
    Calls Try.prog 18 #[v, .int .u32 id] w fun e w' => e = .returned (.tuple #[.int .u64 (((m.find? (fun p => decide (p.1 = id))).map (·.2)).getD 0), .bool (hasL m id)]) ∧ w' = w := by
  obtain ⟨p, cap, rfl, h1, h2, h3, h4⟩ := h
  have hl' : m.length ≤ 9223372036854775807 := by have : maxLen = 9223372036854775807 := rfl; omega
  have H3 := hid h3; have H4 := hid h4
  clear h3 h4
  go_enter Try.func18, Try.ntmps18
  go_wp2
  go_loopg [6] m.length (fun g v6 wr => ∃ k : Nat, v6 = .int .i64 k ∧ g = m.length - k ∧ k ≤ m.length ∧ wr = w ∧ Hid (∀ j, j < k → (m.getD j (0, 0)).1 ≠ id))
  case atStart => exact ⟨0, rfl, rfl, by omega, rfl, hid (fun j hj => by omega)⟩
  case round =>
    obtain ⟨k, rfl, hg, hk, rfl, N⟩ := hrel
    by_cases hk0 : k < m.length
    · obtain ⟨b, off, rfl, hb, _⟩ := H3.out (by omega)
      obtain ⟨c0, c1⟩ := H4.out b off rfl k hk0
      have hge := hid (show m.getD k (0, 0) = m[k] by rw [List.getD_eq_getElem?_getD, List.getElem?_eq_getElem hk0]; rfl)
      generalize hx : m.getD k (0, 0) = x at c0 c1
      have HX := hid hx
      clear hx
      by_cases hid' : x.1 = id
      · go_wp2
        go_ret2
        refine ⟨?_, rfl⟩
        have hsp : m = m.take k ++ x :: m.drop (k + 1) := by
          rw [← HX.out, hge.out]; simp
        have hf : m.find? (fun p => decide (p.1 = id)) = some x := by
          rw [hsp, List.find?_append, find_take_none N.out]
          simp [hid']
        have hh : hasL m id = true := (hasL_iff m id).2 ⟨x, List.mem_of_find?_eq_some hf, hid'⟩
        rw [hf, hh]; rfl
      · go_wp2
        go_roundg (m.length - (k + 1))
        case measure => omega
        case rel => exact ⟨k + 1, by go_num, rfl, by omega, rfl, hid (fun j hj => by
          by_cases e : j = k
          · subst e; rw [HX.out]; exact hid'
          · exact N.out j (by omega))⟩
    · have hke : k = m.length := by omega
      subst hke
      go_wp2
      go_ret2
      have hf : m.find? (fun p => decide (p.1 = id)) = none := by
        have := find_take_none N.out; rwa [List.take_length] at this
      have hh : hasL m id = false := by
        rw [← Bool.not_eq_true, hasL_iff]; rintro ⟨a, ha, e⟩
        have := List.find?_eq_none.1 hf a ha; simp [e] at this
      rw [hf, hh]; exact ⟨rfl, rfl⟩
end Go.Proofs.Ytfolgjgkeheaoaa
