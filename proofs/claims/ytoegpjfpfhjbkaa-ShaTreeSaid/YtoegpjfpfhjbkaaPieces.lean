/- The walk of ShaPieces. -/
import Derived.Test.YtoegpjfpfhjbkaaShaAlive
import Derived.Maps.AppendAt
import Derived.Stop.BytesEq
namespace Go.Proofs.Ytoegpjfpfhjbkaa
open Go.RowKit Go.ChangeMaps

theorem own_bytes {w : World} {base : Nat} {v : Value} {xs : List W8} {n : Nat} (hn : xs.length = n) (h : w.ownsRow base 5 1 v n (byv xs)) : Bytes w v xs := by
  rcases h.2 with ⟨rfl, rfl⟩ | ⟨g, cap, cur, rfl, h1, h2, h3, h4, h5, h6⟩
  · exact ⟨none, 0, by rw [hn], fun hp => by omega⟩
  · refine ⟨_, cap, by rw [hn], fun hp => ⟨g, 0, rfl, (Array.getElem?_eq_some_iff.1 h2).1, by omega, h4, fun i hi => ?_⟩⟩
    have hb : Blk w g cur 5 := h2
    rw [Nat.zero_add]
    refine hb.cellv ?_
    rw [← Array.getElem?_toList, ← List.getElem?_take_of_lt (show i < n * 1 by omega), h6]
    unfold byv
    rw [List.getElem?_map, List.getElem?_eq_getElem hi, List.getD_eq_getElem?_getD, List.getElem?_eq_getElem hi]; rfl
theorem own_lt {w : World} {base n : Nat} {v : Value} {xs : List Value} {T : TypeId} (h : w.ownsRow base T 1 v n xs) : ∀ k, v.ownBlock = some k → base ≤ k ∧ k < w.heap.size := by
  intro k hk
  rcases h.2 with ⟨rfl, _⟩ | ⟨g, cap, cur, rfl, h1, h2, _⟩
  · cases hk
  · cases hk; exact ⟨h1, (Array.getElem?_eq_some_iff.1 h2).1⟩
theorem row_empty {w : World} {base b : Nat} {T : TypeId} (h : Blk w b #[] T) (hb : base ≤ b) : w.ownsRow base T 1 (.slice (some ⟨b, 0, none⟩) 0 0) 0 [] :=
  ⟨rfl, Or.inr ⟨b, 0, #[], rfl, hb, h, Nat.le_refl _, Nat.zero_le _, rfl, rfl⟩⟩
theorem append_nil (w : World) (ty : TypeId) (p : Option Addr) (n c c' : Nat) (h : n ≤ c) : (Builtin.append_ #[22, 22] ty #[.slice p n c, .slice none 0 c']).run Try.prog w = .ok (.slice p n c) w := by
  obtain ⟨i0, hi, hz0, hz1, hz2⟩ := info_parts info5
  refine run_append_nothing w 22 22 ty 5 i0 Try.underlying22 hi p n c h (.slice none 0 c') ⟨Or.inl ⟨_, Try.underlying22⟩, fun _ => rfl, ?_, ?_, by simp, by simp⟩
  · rw [hz1]; rfl
  · rw [hz1]; rfl
theorem wpList_append_nil {w : World} {ops : Array Oper} {rest : List Oper} {o : Oper} {a : Act} {Q : Exit → Act → World → Prop} (hgd : o.guard = none) (s x : Operand)
    (ho : o.op = .call { callee := .builtin .append, args := #[s, x], argTypes := #[22, 22] }) (p : Option Addr) (n c c' : Nat) (hs : a.eval s = .slice p n c) (hx : a.eval x = .slice none 0 c') (hle : n ≤ c)
    (h : wpList Try.prog ops Q rest (a.put o.dst (.slice p n c)) w) : wpList Try.prog ops Q (o :: rest) a w := by
  refine wpList_plain hgd fun K hK => ?_
  unfold Oper.wp execOp
  simp only [ho, resolve, invoke, builtin, Sem.run_bind, Sem.run_pure, Result.andThen_ok, List.map_toArray, List.map_cons, List.map_nil, hs, hx, append_nil w _ p n c c' hle]
  exact hK _ _ h
theorem flat_le {X : Nat → List W8} {n : Nat} (h : ∀ i, i < n → (X i).length ≤ 400) : ∀ k, k ≤ n → (flat X k).length ≤ 400 * k := by
  intro k
  induction k with
  | zero => intro _; simp [flat]
  | succ k ih => intro hk; have := ih (by omega); have := h k (by omega); simp only [flat, List.length_append]; omega

theorem arr_cells (a : Nat → W8) : arr 32 (fun i => .int .u8 (ub (a i))) = ((((List.range 32).map (fun i => UInt8.ofBitVec (a i))).map Extern.Stop.cell).toArray : Array Value) := by
  unfold arr
  rw [List.map_map]; rfl
theorem eq32_same (a : Nat → W8) (w : World) : (Op.equalIn 10000 23 (.agg (arr 32 (fun i => .int .u8 (ub (a i))))) (.agg (arr 32 (fun i => .int .u8 (ub (a i)))))).run Try.prog w = .ok true w := by
  rw [arr_cells]
  have := run_equalIn_bytes (P := Try.prog) w 9998 23 5 32 Try.underlying23 Try.underlying5 (fun _ => rfl) ((List.range 32).map (fun i => UInt8.ofBitVec (a i))) ((List.range 32).map (fun i => UInt8.ofBitVec (a i))) (by simp) (by simp)
  rw [this]; simp

set_option maxRecDepth 100000 in
set_option maxHeartbeats 4000000 in
theorem pieces_walk (p : Option Addr) (n cap : Nat) (X : Nat → List W8) (w : World) (hn : n ≤ maxLen) (hP : Parts w p n X) :
    Calls Try.prog 4 #[.slice p n cap] w fun e w' => e = .returned (.bool true) ∧ Below w.heap.size w w' := by
  have hn' : n ≤ 9223372036854775807 := by simpa [maxLen] using hn
  obtain ⟨i0, hi, hz0, hz1, hz2⟩ := info_parts info5
  have HP := hid hP
  clear hP
  go_enter Try.func4, Try.ntmps4
  go_wp2_with (go_at_call 14; refine (new_h _).mono ?_; rintro e w1 ⟨rfl, H1, L1⟩; have H1' := hid H1; have L1' := hid L1; clear H1 L1)
  have H2 := hid (show Hs (w1.alloc (.cells #[] 5)) w.heap.size [] from HsL.of_block H1'.out (Below.heap_alloc _ _ _ H1'.out.lt))
  have L2 := hid (L1'.out.alloc L1'.out.size (.cells #[] 5))
  have O2 := hid (show (w1.alloc (.cells #[] 5)).ownsRow (w.heap.size + 1) 5 1 (.slice (some ⟨w1.heap.size, 0, none⟩) 0 0) 0 [] from row_empty (Blk.new w1 #[] 5) H1'.out.lt)
  go_loopg [4, 5] n (fun g v4 v5 wr => ∃ k : Nat, v5 = .int .i64 k ∧ g = n - k ∧ k ≤ n ∧ k ≤ 12 ∧ Hid (∀ i, i < k → (X i).length ≤ 400) ∧ Hid (Hs wr w.heap.size (flat X k)) ∧ Hid (wr.ownsRow (w.heap.size + 1) 5 1 v4 (flat X k).length (byv (flat X k))) ∧ Hid (Below w.heap.size w wr))
  case atStart => exact ⟨0, rfl, rfl, by omega, by omega, hid (fun i h => by omega), H2, O2, L2⟩
  case round =>
    obtain ⟨k, rfl, hg, hk, hk12, HL, S, O, L⟩ := hrel
    have hlen := flat_le HL.out k (Nat.le_refl _)
    by_cases hkn : k < n ∧ k < 12
    · obtain ⟨hk1, hk2⟩ := hkn
      obtain ⟨b, off, V, rfl, h2, h3, h4, h5⟩ := HP.out k hk1
      have hbl := Nat.lt_of_lt_of_le h2 L.out.size
      have HV := hid (h4.below L.out)
      obtain ⟨q, c, rfl, hq⟩ := h4
      have HQ := hid hq; have H5 := hid h5
      have c0 : wr.cell? ⟨b, off + k, none⟩ = some (.slice q (X k).length c) := (L.out.cell h2).trans h3
      clear h3 h5 hq
      by_cases h400 : 400 < (X k).length
      · go_wp2_with (go_at_call 9; refine (alive_c _).mono ?_; rintro e w2 ⟨rfl, hb⟩; have hb' := hid hb; clear hb)
        go_ret
        exact ⟨rfl, L.out.trans (hb'.out.mono L.out.size)⟩
      · have hb1 : (flat X k).length + (X k).length < 1152921504606846976 := by omega
        obtain ⟨p4, c4, e4⟩ : ∃ p c, u4 = .slice p (flat X k).length c := by
          rcases O.out.2 with ⟨h, h'⟩ | ⟨g, cap, cur, h, _⟩
          · exact ⟨none, 0, by rw [h, h']⟩
          · exact ⟨_, _, h⟩
        subst e4
        have hbw : b ≠ w.heap.size := by omega
        have e1 : flat X (k + 1) = flat X k ++ X k := rfl
        have E1 := hid e1
        clear e1
        have hXk : (X k).length ≤ 400 := by omega
        cases q with
        | none =>
          have hx0 : (X k).length = 0 := by
            by_cases h0 : 0 < (X k).length
            · obtain ⟨_, _, h, _⟩ := HQ.out h0; cases h
            · omega
          have hc4 : (flat X k).length ≤ c4 := by
            rcases O.out.2 with ⟨h, h'⟩ | ⟨g, cap, cur, h, _, _, h', _⟩
            · omega
            · simp at h; omega
          have hX0' : X k = [] := List.eq_nil_of_length_eq_zero hx0
          have hb6 : (flat X (k + 1)).length < 100000000 := by rw [E1.out, List.length_append]; omega
          rw [hx0] at c0 HV
          have heq : ∀ W : World, (Op.equalIn 10000 23 (.agg (arr 32 (fun i => .int .u8 (ub (shaB (flat X (k + 1)) i))))) (.agg (arr 32 (fun i => .int .u8 (ub (shaB (flat X (k + 1)) i)))))).run Try.prog W = .ok true W := eq32_same _
          have hfl : (flat X (k + 1)).length = (flat X k).length := by rw [E1.out, hX0', List.append_nil]
          go_wp2_with first
            | (go_at_call 10; refine (shaSum_c (own_bytes hfl O6.out) (fun kk hk => (own_lt O6.out kk hk).2) hb6).mono ?_; rintro e w7 ⟨rfl, Lx⟩; have L7 := hid (L6.out.trans (Lx.mono L6.out.size)); have S7 := hid (HsL.of_block S6.out (Lx.block _ S6.out.lt)); have O7 := hid ((Mod.of_below Lx (fun _ => False)).row O6.out (fun _ _ => id)); clear Lx)
            | (go_at_call 16; refine (sum_c S5.out hb6).mono ?_; rintro e w6 ⟨rfl, Lx⟩; have L6 := hid (L5.out.trans (Lx.mono L5.out.size)); have S6 := hid (HsL.of_block S5.out (Lx.block _ S5.out.lt)); have O6 := hid ((Mod.of_below Lx (fun _ => False)).row O5.out (fun _ _ => id)); clear Lx)
            | (at_builtin; refine wpList_append_nil rfl (.tmp 33) (.tmp 37) rfl p4 (flat X k).length c4 c rfl rfl hc4 ?_)
            | (go_at_call 15; refine (write_b S.out HV.out (fun hp kk hk => by have := H5.out hp kk hk; omega) hb1).mono ?_; rintro e w4 ⟨rfl, Sx, Mx⟩; have S5 := hid (show Hs w4 w.heap.size (flat X (k + 1)) from Sx); have L5 := hid (L.out.trans (Mx.below L.out.size (fun c hc e => by omega))); have O5 := hid (show w4.ownsRow (w.heap.size + 1) 5 1 (.slice p4 (flat X k).length c4) (flat X k).length (byv (flat X (k + 1))) from by rw [E1.out, hX0', List.append_nil]; exact Mx.row O.out (fun kk hk e => by have := own_lt O.out kk hk; omega)); have c4' : w4.cell? ⟨b, off + k, none⟩ = some (.slice none 0 c) := (World.cell?_of_block (w := wr) (Mx.block b hbl hbw)).trans c0; have hbl4 := Nat.lt_of_lt_of_le hbl Mx.size; clear Sx Mx)
          go_roundg (n - (k + 1))
          case measure => omega
          case rel => exact ⟨k + 1, by go_num, rfl, by omega, by omega, hid (fun i hi => by
            by_cases e : i = k
            · subst e; exact hXk
            · exact HL.out i (by omega)), S7, by rw [hfl]; exact O7, L7⟩
        | some ad =>
          have NW := hid (show ∀ W : World, Bytes W (.slice (some ad) (X k).length c) (X k) → ∀ j v, (byv (X k))[j]? = some v → W.cell? (ad.add j) = some v from fun W hB j v hv => by
            obtain ⟨q', c', e, hq'⟩ := hB
            cases e
            have hj : j < (X k).length := by
              have := (List.getElem?_eq_some_iff.1 hv).1
              unfold byv at this; simpa using this
            obtain ⟨b', o', e', _, _, _, hS⟩ := hq' (by omega)
            cases e'
            have := hS j hj
            unfold byv at hv
            rw [List.getElem?_map, List.getElem?_eq_getElem hj] at hv
            rw [Addr.add_mid, this, ← hv, List.getD_eq_getElem?_getD, List.getElem?_eq_getElem hj]; rfl)
          have hby := hid (show (byv (X k)).length = (X k).length * 1 by unfold byv; simp)
          have hb1' := hid (show ∀ u ∈ byv (X k), u.oneCell' = true by intro u hu; unfold byv at hu; obtain ⟨x, _, rfl⟩ := List.mem_map.1 hu; rfl)
          have heq : ∀ W : World, (Op.equalIn 10000 23 (.agg (arr 32 (fun i => .int .u8 (ub (shaB (flat X (k + 1)) i))))) (.agg (arr 32 (fun i => .int .u8 (ub (shaB (flat X (k + 1)) i)))))).run Try.prog W = .ok true W := eq32_same _
          go_wp2_with first
            | (go_at_call 10; refine (shaSum_c (own_bytes rfl O6.out) (fun kk hk => (own_lt O6.out kk hk).2) hb6).mono ?_; rintro e w7 ⟨rfl, Lx⟩; have L7 := hid (L6.out.trans (Lx.mono L6.out.size)); have S7 := hid (HsL.of_block S6.out (Lx.block _ S6.out.lt)); have O7 := hid ((Mod.of_below Lx (fun _ => False)).row O6.out (fun _ _ => id)); clear Lx)
            | (go_at_call 16; refine (sum_c S5.out hb6).mono ?_; rintro e w6 ⟨rfl, Lx⟩; have L6 := hid (L5.out.trans (Lx.mono L5.out.size)); have S6 := hid (HsL.of_block S5.out (Lx.block _ S5.out.lt)); have O6 := hid ((Mod.of_below Lx (fun _ => False)).row O5.out (fun _ _ => id)); clear Lx)
            | (at_builtin; refine wpList_append_own_at _ rfl (.tmp 33) (.tmp 37) 22 rfl (w.heap.size + 1) 5 i0 (.int .u8 0) 1 1 rfl hi hz0 hz1 hz2 rfl (by decide) _ (flat X k).length (byv (flat X k)) rfl O4.out ad (X k).length c (byv (X k)) rfl hby.out (NW.out _ V4.out) hb1'.out (by unfold maxLen; omega) (by omega) (by have := L4.out.size; have := S4.out.lt; omega) ?_; intro v5 w5 hown5 hg5 _ _; have M5 := hid (Mod.of_grown (S := fun kk => kk ≠ w.heap.size ∧ w.heap.size ≤ kk) hg5 (fun kk hk => by have := own_lt O4.out kk hk; omega)); have S5 := hid (show Hs w5 w.heap.size (flat X (k + 1)) from HsL.of_block S4.out (M5.out.block _ S4.out.lt (fun h => h.1 rfl))); have O5 := hid (show w5.ownsRow (w.heap.size + 1) 5 1 v5 (flat X (k + 1)).length (byv (flat X (k + 1))) from by rw [E1.out]; unfold byv at hown5 ⊢; rw [List.map_append, List.length_append]; exact hown5); have L5 := hid (L4.out.trans (M5.out.below L4.out.size (fun c hc h => by omega))); have hb6 : (flat X (k + 1)).length < 100000000 := (by rw [E1.out, List.length_append]; omega); clear hown5 hg5)
            | (go_at_call 15; refine (write_b S.out HV.out (fun hp kk hk => by have := H5.out hp kk hk; omega) hb1).mono ?_; rintro e w4 ⟨rfl, Sx, Mx⟩; have S4 := hid (show Hs w4 w.heap.size (flat X (k + 1)) from Sx); have L4 := hid (L.out.trans (Mx.below L.out.size (fun c hc e => by omega))); have O4 := hid (Mx.row O.out (fun kk hk e => by have := own_lt O.out kk hk; omega)); have V4 := hid (show Bytes w4 (.slice (some ad) (X k).length c) (X k) from by obtain ⟨q', c', e, hq'⟩ := HV.out; refine ⟨q', c', e, fun hp => ?_⟩; obtain ⟨b', o', e', h1, h2', h3', h4'⟩ := hq' hp; subst e'; have hbb := H5.out hp b' (by cases e; rfl); exact ⟨b', o', rfl, Nat.lt_of_lt_of_le h1 Mx.size, h2', h3', h4'.of_block (Mx.block b' h1 (by omega))⟩); have c4' : w4.cell? ⟨b, off + k, none⟩ = some (.slice (some ad) (X k).length c) := (World.cell?_of_block (w := wr) (Mx.block b hbl hbw)).trans c0; have hbl4 := Nat.lt_of_lt_of_le hbl Mx.size; clear Sx Mx)
          go_roundg (n - (k + 1))
          case measure => omega
          case rel => exact ⟨k + 1, by go_num, rfl, by omega, by omega, hid (fun i hi => by
            by_cases e : i = k
            · subst e; exact hXk
            · exact HL.out i (by omega)), S7, O7, L7⟩
    · have hb6 : (flat X k).length < 100000000 := by omega
      have heq : ∀ W : World, (Op.equalIn 10000 23 (.agg (arr 32 (fun i => .int .u8 (ub (shaB (flat X k) i))))) (.agg (arr 32 (fun i => .int .u8 (ub (shaB (flat X k) i)))))).run Try.prog W = .ok true W := eq32_same _
      obtain ⟨p4, c4, e4⟩ : ∃ p c, u4 = .slice p (flat X k).length c := by
        rcases O.out.2 with ⟨h, h'⟩ | ⟨g, cap, cur, h, _⟩
        · exact ⟨none, 0, by rw [h, h']⟩
        · exact ⟨_, _, h⟩
      subst e4
      by_cases hn12 : 12 < n
      · have hk2 : k = 12 := by omega
        subst hk2
        go_wp2_with (go_at_call 9; refine (alive_c _).mono ?_; rintro e w2 ⟨rfl, hb⟩; have hb' := hid hb; clear hb)
        all_goals
          go_ret
          exact ⟨rfl, L.out.trans (hb'.out.mono L.out.size)⟩
      · have hkn' : k = n := by omega
        subst hkn'
        have HF := hid (show ∀ j, j ≤ k → (flat X j).length < 100000000 from fun j hj => by have := flat_le HL.out j hj; omega)
        go_wp2_with first
          | (go_at_call 17; refine (all_c (HP.out.below L4.out) hn HF.out).mono ?_; rintro e w5 ⟨rfl, Lx⟩; have L5 := hid (L4.out.trans (Lx.mono L4.out.size)); have O5 := hid ((Mod.of_below Lx (fun _ => False)).row O4.out (fun _ _ => id)); clear Lx)
          | (go_at_call 10; refine (shaSum_c (own_bytes rfl O5.out) (fun kk hk => (own_lt O5.out kk hk).2) hb6).mono ?_; rintro e w6 ⟨rfl, Lx⟩; have L6 := hid (L5.out.trans (Lx.mono L5.out.size)); clear Lx)
          | (go_at_call 10; refine (shaSum_c (own_bytes rfl O3.out) (fun kk hk => (own_lt O3.out kk hk).2) hb6).mono ?_; rintro e w4 ⟨rfl, Lx⟩; have L4 := hid (L3.out.trans (Lx.mono L3.out.size)); have O4 := hid ((Mod.of_below Lx (fun _ => False)).row O3.out (fun _ _ => id)); clear Lx)
          | (go_at_call 16; refine (sum_c S2.out hb6).mono ?_; rintro e w3 ⟨rfl, Lx⟩; have L3 := hid (L2'.out.trans (Lx.mono L2'.out.size)); have O3 := hid ((Mod.of_below Lx (fun _ => False)).row O2'.out (fun _ _ => id)); clear Lx)
          | (go_at_call 9; refine (alive_c _).mono ?_; rintro e w2 ⟨rfl, Lx⟩; have L2' := hid (L.out.trans (Lx.mono L.out.size)); have S2 := hid (HsL.of_block S.out (Lx.block _ S.out.lt)); have O2' := hid ((Mod.of_below Lx (fun _ => False)).row O.out (fun _ _ => id)); clear Lx)
        all_goals
          go_ret
          exact ⟨rfl, L6.out⟩
end Go.Proofs.Ytoegpjfpfhjbkaa
