/- The document's Cancel. -/
import Derived.Test.YtfolgjgkeheaoaaRef
namespace Go.Proofs.Ytfolgjgkeheaoaa
open Go.RowKit Go.ChangeMaps

theorem info53 : (Try.prog.info? 53).map (fun i => (i.zero, i.size, i.bytes)) = some (some (.agg #[.int .u32 0, .int .u64 0]), 2, 16) := by kernel_rfl
theorem take_succ_getD {m : List Ent} {k : Nat} (hk : k < m.length) : m.take (k + 1) = m.take k ++ [m.getD k (0, 0)] := by
  rw [List.take_add_one, List.getElem?_eq_getElem hk, List.getD_eq_getElem?_getD, List.getElem?_eq_getElem hk]; rfl
theorem without_append (a b : List Ent) (id : Int) : without (a ++ b) id = without a id ++ without b id := by simp [without]
theorem without_lt (m : List Ent) (id : Int) : ((without m id).length < m.length) ↔ hasL m id = true := by
  unfold without
  rw [hasL_iff]
  induction m with
  | nil => simp
  | cons a m ih =>
    by_cases e : a.1 = id
    · have := List.length_filter_le (fun p : Ent => decide (p.1 ≠ id)) m
      simp [e]; simp at this; omega
    · simp [e] at ih ⊢ <;> (try simpa using ih)
theorem prs_append (a b : List Ent) : prs (a ++ b) = prs a ++ prs b := by simp [prs]
/-- Append to a slice of the call's own leaves other lists. -/
theorem Lst.grown {w w' : World} {v : Value} {m : List Ent} (h : Lst w v m) {base : Nat} (hb : ∀ b off, (∃ cap, v = .slice (some ⟨b, off, none⟩) m.length cap) → b < base) {S : Nat → Prop} (M : Mod S w w') (hS : ∀ k, S k → base ≤ k) : Lst w' v m := by
  obtain ⟨p, cap, rfl, h1, h2, h3, h4⟩ := h
  refine ⟨p, cap, rfl, h1, h2, fun hp => ?_, fun b off e i hi => ?_⟩
  · obtain ⟨b, off, e, hl, cs, fz, hc⟩ := h3 hp
    have hlt := hb b off ⟨cap, by rw [e]⟩
    exact ⟨b, off, e, Nat.lt_of_lt_of_le hl M.size, cs, fz, (M.block b hl (fun hs => by have := hS b hs; omega)).trans hc⟩
  · obtain ⟨b', off', e', hl, _⟩ := h3 (by omega)
    rw [e] at e'; cases e'
    have hlt := hb b off ⟨cap, by rw [e]⟩
    have hbk := M.block b hl (fun hs => by have := hS b hs; omega)
    have := h4 b off e i hi
    exact ⟨(World.cell?_of_block (w := w) hbk).trans this.1, (World.cell?_of_block (w := w) hbk).trans this.2⟩

set_option maxRecDepth 100000 in
set_option maxHeartbeats 2000000 in
theorem refCancel_c {w : World} {v : Value} {m : List Ent} (h : Lst w v m) (hm : m.length ≤ 2000) (id : Int) :
    Calls Try.prog 16 #[v, .int .u32 id] w fun e w' => ∃ v', e = .returned (.tuple #[v', .bool (hasL m id)]) ∧ Lst w' v' (without m id) ∧ Below w.heap.size w w' := by
  obtain ⟨i0, hi, hz0, hz1, hz2⟩ := info_parts info53
  have HL := hid h
  obtain ⟨p, cap, rfl, h1, h2, h3, h4⟩ := h
  have H3 := hid h3; have H4 := hid h4
  clear h3 h4
  have O0 := hid (show (w.alloc (.cells #[] 53)).ownsRow w.heap.size 53 2 (.slice (some ⟨w.heap.size, 0, none⟩) 0 0) 0 (prs []) from ⟨rfl, Or.inr ⟨w.heap.size, 0, #[], rfl, Nat.le_refl _, Blk.new w #[] 53, Nat.le_refl _, Nat.zero_le _, rfl, rfl⟩⟩)
  have L0 := hid ((Below.refl w.heap.size w).alloc (Nat.le_refl _) (.cells #[] 53))
  go_enter Try.func16, Try.ntmps16
  go_wp2
  go_loopg [6, 7] m.length (fun g v6 v7 wr => ∃ k : Nat, v7 = .int .i64 k ∧ g = m.length - k ∧ k ≤ m.length ∧ Hid (wr.ownsRow w.heap.size 53 2 v6 (without (m.take k) id).length (prs (without (m.take k) id))) ∧ Hid (Below w.heap.size w wr))
  case atStart => exact ⟨0, rfl, rfl, by omega, O0, L0⟩
  case round =>
    obtain ⟨k, rfl, hg, hk, O, L⟩ := hrel
    have hwl : (without (m.take k) id).length ≤ 2000 := by
      have := List.length_filter_le (fun p : Ent => decide (p.1 ≠ id)) (m.take k)
      unfold without; simp at this ⊢; omega
    by_cases hk0 : k < m.length
    · obtain ⟨b, off, rfl, hb, _⟩ := H3.out (by omega)
      obtain ⟨c0', c1'⟩ := H4.out b off rfl k hk0
      have hts := hid (take_succ_getD hk0)
      generalize hx : m.getD k (0, 0) = x at c0' c1'
      have HX := hid hx
      clear hx
      have c0 : wr.cell? ⟨b, off + k * 2, none⟩ = some (.int .u32 x.1) := (L.out.cell hb).trans c0'
      have c1 : wr.cell? ⟨b, off + k * 2 + 1, none⟩ = some (.int .u64 x.2) := (L.out.cell hb).trans c1'
      clear c0' c1'
      have hbl := Nat.lt_of_lt_of_le hb L.out.size
      by_cases hid' : x.1 = id
      · go_wp2
        go_roundg (m.length - (k + 1))
        case measure => omega
        case rel =>
          have e : without (m.take (k + 1)) id = without (m.take k) id := by
            rw [hts.out, HX.out, without_append]; simp [without, hid']
          exact ⟨k + 1, by go_num, rfl, by omega, hid (by rw [e]; exact O.out), L⟩
      · have e : without (m.take (k + 1)) id = without (m.take k) id ++ [x] := by
          rw [hts.out, HX.out, without_append]; simp [without, hid']
        have HE := hid e
        clear e
        go_wp2_with (at_builtin; refine wpList_append_own_at _ rfl (.tmp 22) (.tmp 27) 42 rfl w.heap.size 53 i0 (.agg #[.int .u32 0, .int .u64 0]) 2 16 rfl hi hz0 hz1 hz2 rfl (by decide) _ (without (m.take k) id).length (prs (without (m.take k) id)) rfl (O.out.alloc _) ⟨wr.heap.size, 0, none⟩ 1 1 [.int .u32 x.1, .int .u64 x.2] rfl rfl (news_alloc wr #[.int .u32 x.1, .int .u64 x.2] _) (by simp [Value.oneCell']) (by unfold maxLen; omega) (by omega) (by have := L.out.size; simp; omega) ?_; intro v5 w5 hown hg5 _ _)
        have M5 := hid (((Mod.refl (fun k => w.heap.size ≤ k) wr).alloc (.cells #[.int .u32 x.1, .int .u64 x.2] 53)).trans (Mod.of_grown hg5 (fun kk hk => by
          rcases O.out.2 with ⟨e, _⟩ | ⟨g', cap', cur, e, hge, _⟩
          · rw [e] at hk; cases hk
          · rw [e] at hk; cases hk; exact hge)))
        have O5 := hid hown
        clear hown hg5
        go_wp2
        go_roundg (m.length - (k + 1))
        case measure => omega
        case rel =>
          refine ⟨k + 1, by go_num, rfl, by omega, hid ?_, hid (L.out.trans (M5.out.below L.out.size (fun c hc h => by omega)))⟩
          rw [HE.out, prs_append, List.length_append]
          exact O5.out
    · have hke : k = m.length := by omega
      subst hke
      have ht : m.take m.length = m := List.take_length
      rw [ht] at O
      obtain ⟨q, c, e⟩ : ∃ q c, u6 = .slice q (without m id).length c := by
        rcases O.out.2 with ⟨e, e'⟩ | ⟨g', cap', cur, e, _⟩
        · exact ⟨none, 0, by rw [e, e']⟩
        · exact ⟨_, _, e⟩
      subst e
      go_wp2
      go_ret2
      refine ⟨_, ?_, own_lst rfl O.out, L.out⟩
      have hd : decide ((without m id).length < m.length) = hasL m id := by
        have := without_lt m id
        cases hh : hasL m id
        · rw [hh] at this; simp at this ⊢; omega
        · rw [hh] at this; simp at this ⊢; omega
      show Ending.returned (.tuple #[.slice q (without m id).length c, .bool (decide ((without m id).length < m.length))]) = _
      rw [hd]
end Go.Proofs.Ytfolgjgkeheaoaa
