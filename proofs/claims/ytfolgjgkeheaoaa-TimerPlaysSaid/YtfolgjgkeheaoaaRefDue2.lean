/- The document's Due. -/
import Derived.Test.YtfolgjgkeheaoaaRefDue
namespace Go.Proofs.Ytfolgjgkeheaoaa
open Go.RowKit Go.ChangeMaps

theorem getD_drop (m : List Ent) (k i : Nat) : (m.drop k).getD i (0, 0) = m.getD (k + i) (0, 0) := by simp only [List.getD_eq_getElem?_getD, List.getElem?_drop]
theorem drop_eq {m : List Ent} {k : Nat} (hk : k < m.length) : m.drop k = m.getD k (0, 0) :: m.drop (k + 1) := by
  rw [List.drop_eq_getElem_cons hk, List.getD_eq_getElem?_getD, List.getElem?_eq_getElem hk]; rfl

set_option maxRecDepth 100000 in
set_option maxHeartbeats 4000000 in
theorem refDue_c {w : World} {v : Value} {m : List Ent} (h : Lst w v m) (hm : m.length ≤ 2000) (now many : Int) :
    Calls Try.prog 17 #[v, .int .u64 now, .int .i64 many] w fun e w' => ∃ v' o', e = .returned (.tuple #[v', o']) ∧ Lst w' v' (dueL now many.toNat m).2 ∧ Nums w' o' ((dueL now many.toNat m).1.map (·.1)) ∧ Below w.heap.size w w' := by
  obtain ⟨i0, hi, hz0, hz1, hz2⟩ := info_parts info22
  have HL := hid h
  obtain ⟨p, cap, rfl, h1, h2, h3, h4⟩ := h
  have H3 := hid h3; have H4 := hid h4
  have hcm : cap ≤ 9223372036854775807 := by have : maxLen = 9223372036854775807 := rfl; omega
  clear h3 h4
  have O0 := hid (show (w.alloc (.cells #[] 22)).ownsRow w.heap.size 22 1 (.slice (some ⟨w.heap.size, 0, none⟩) 0 0) 0 (([] : List Int).map (Value.int .u32)) from row_empty (Blk.new w #[] 22) (Nat.le_refl _))
  have L0 := hid ((Below.refl w.heap.size w).alloc (Nat.le_refl _) (.cells #[] 22))
  go_enter Try.func17, Try.ntmps17
  go_wp2
  go_loopg [8, 9] m.length (fun g v8 v9 wr => ∃ k : Nat, v9 = .int .i64 k ∧ g = m.length - k ∧ k ≤ m.length ∧ (k = 0 ∨ (k : Int) ≤ many) ∧ Hid (wr.ownsRow w.heap.size 22 1 v8 k (((m.take k).map (·.1)).map (Value.int .u32))) ∧ Hid (Below w.heap.size w wr) ∧
    Hid (dueL now many.toNat m = (m.take k ++ (dueL now (many.toNat - k) (m.drop k)).1, (dueL now (many.toNat - k) (m.drop k)).2)))
  case atStart => exact ⟨0, rfl, rfl, by omega, Or.inl rfl, O0, L0, hid (by simp)⟩
  case round =>
    obtain ⟨k, rfl, hg, hk, hkm, O, L, D⟩ := hrel
    obtain ⟨q, c, e⟩ : ∃ q c, u8 = .slice q k c := by
      rcases O.out.2 with ⟨e, e'⟩ | ⟨g', cap', cur, e, _⟩
      · exact ⟨none, 0, by rw [e, e']⟩
      · exact ⟨_, _, e⟩
    subst e
    -- what is left when the loop ends here
    have fin : ∀ (hD : dueL now (many.toNat - k) (m.drop k) = ([], m.drop k)) (w' : World), w' = wr → ∀ q' c', (k < m.length → q' = (p.map (fun a => (⟨a.block, a.off + k * 2, none⟩ : Addr))) ∧ c' = cap - k) → (m.length - k ≤ c' ∧ c' ≤ maxLen) → ∀ n' : Nat, n' = m.length - k → Lst w' (.slice q' n' c') (dueL now many.toNat m).2 ∧ Nums w' (.slice q k c) ((dueL now many.toNat m).1.map (·.1)) ∧ Below w.heap.size w w' := by
      intro hD w' hw q' c' hq hc n' hn'
      subst hw
      subst hn'
      have hd := D.out
      rw [hD] at hd
      rw [hd]
      refine ⟨?_, ?_, L.out⟩
      · refine ⟨q', c', by simp, by simpa using hc.1, hc.2, fun hp => ?_, fun b off e i hi => ?_⟩
        · simp at hp
          obtain ⟨b, off, rfl, hb, cs, fz, hcs⟩ := H3.out (by omega)
          exact ⟨b, off + k * 2, (hq (by omega)).1, Nat.lt_of_lt_of_le hb L.out.size, cs, fz, (L.out.block b hb).trans hcs⟩
        · simp at hi
          obtain ⟨b', off', rfl, hb, _⟩ := H3.out (by omega)
          rw [(hq (by omega)).1] at e
          cases e
          have := H4.out b' off' rfl (k + i) (by omega)
          rw [getD_drop, show off' + k * 2 + i * 2 = off' + (k + i) * 2 by omega]
          exact ⟨(L.out.cell hb).trans this.1, (L.out.cell hb).trans this.2⟩
      · have hl : ((m.take k ++ ([] : List Ent)).map (fun e : Ent => e.1)).length = k := by simp; omega
        refine own_nums (base := w.heap.size) hl ?_
        have := O.out
        simpa using this
    have FIN := hid fin
    clear fin
    by_cases hk0 : k < m.length
    · obtain ⟨b, off, rfl, hb, _⟩ := H3.out (by omega)
      obtain ⟨c0', c1'⟩ := H4.out b off rfl k hk0
      have hde := hid (drop_eq hk0)
      have hts := hid (take_succ_getD hk0)
      generalize hx : m.getD k (0, 0) = x at c0' c1'
      have HX := hid hx
      clear hx
      have c0 : wr.cell? ⟨b, off + k * 2, none⟩ = some (.int .u32 x.1) := (L.out.cell hb).trans c0'
      have c1 : wr.cell? ⟨b, off + k * 2 + 1, none⟩ = some (.int .u64 x.2) := (L.out.cell hb).trans c1'
      clear c0' c1'
      have hbl := Nat.lt_of_lt_of_le hb L.out.size
      have hkc : ¬ cap = k := by omega
      by_cases ha : x.2 ≤ now
      · by_cases hmany : (k : Int) < many
        · have D2 := hid (show dueL now many.toNat m = (m.take (k + 1) ++ (dueL now (many.toNat - (k + 1)) (m.drop (k + 1))).1, (dueL now (many.toNat - (k + 1)) (m.drop (k + 1))).2) by
            have := D.out
            rw [hde.out, HX.out, show many.toNat - k = (many.toNat - (k + 1)) + 1 by omega] at this
            simp only [dueL, if_pos ha] at this
            rw [this, hts.out, HX.out]; simp)
          go_wp2_with (at_builtin; refine wpList_append_own_at _ rfl (.tmp 29) (.tmp 35) 35 rfl w.heap.size 22 i0 (.int .u32 0) 1 4 rfl hi hz0 hz1 hz2 rfl (by decide) _ k (((m.take k).map (·.1)).map (Value.int .u32)) rfl (O.out.alloc _) ⟨wr.heap.size, 0, none⟩ 1 1 [.int .u32 x.1] rfl rfl (cell_one_new _ _ _) (by simp [Value.oneCell']) (by unfold maxLen; omega) (by omega) (by have := L.out.size; simp; omega) ?_; intro v5 w5 hown hg5 _ _)
          have M5 := hid (own_grown O.out hg5)
          have O5 := hid hown
          clear hown hg5
          go_wp2
          go_roundg (m.length - (k + 1))
          case measure => omega
          case rel =>
            refine ⟨k + 1, by go_num, rfl, by omega, Or.inr (by omega), hid ?_, hid (L.out.trans (M5.out.below L.out.size (fun c hc h => by omega))), D2⟩
            rw [hts.out, HX.out]
            simpa using O5.out
        · have hD : dueL now (many.toNat - k) (m.drop k) = ([], m.drop k) := by
            rw [show many.toNat - k = 0 by omega]; rfl
          go_wp2
          go_ret2
          exact ⟨_, _, rfl, FIN.out hD _ rfl _ _ (fun _ => ⟨rfl, rfl⟩) ⟨by omega, by omega⟩ _ (by omega)⟩
      · have hD : dueL now (many.toNat - k) (m.drop k) = ([], m.drop k) := by
          rw [hde.out, HX.out]
          cases many.toNat - k with
          | zero => rfl
          | succ j => simp only [dueL, if_neg ha]
        go_wp2
        go_ret2
        exact ⟨_, _, rfl, FIN.out hD _ rfl _ _ (fun _ => ⟨rfl, rfl⟩) ⟨by omega, by omega⟩ _ (by omega)⟩
    · have hke : k = m.length := by omega
      have hD : dueL now (many.toNat - k) (m.drop k) = ([], m.drop k) := by
        rw [List.drop_of_length_le (by omega)]
        cases many.toNat - k <;> rfl
      subst hke
      go_wp2
      all_goals
        go_ret2
        exact ⟨_, _, rfl, FIN.out hD _ rfl _ _ (fun h => by omega) ⟨by omega, by omega⟩ _ (by omega)⟩
end Go.Proofs.Ytfolgjgkeheaoaa
