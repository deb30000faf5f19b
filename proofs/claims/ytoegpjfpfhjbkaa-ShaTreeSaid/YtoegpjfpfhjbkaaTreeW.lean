/- The walk of ShaTree. -/
import Derived.Test.YtoegpjfpfhjbkaaRTree
import Derived.Test.YtoegpjfpfhjbkaaSum1
namespace Go.Proofs.Ytoegpjfpfhjbkaa
open Go.RowKit Go.ChangeMaps

theorem info23 : (Try.prog.info? 23).map (fun i => (i.zero, i.size, i.bytes)) = some (some (.agg (hv (fun _ => 0))), 32, 32) := by kernel_rfl
def flatH (X : Nat → Nat → W8) : Nat → List Value
  | 0 => []
  | n + 1 => flatH X n ++ (hv (X n)).toList
theorem flatH_length (X : Nat → Nat → W8) : ∀ n, (flatH X n).length = n * 32
  | 0 => rfl
  | n + 1 => by simp only [flatH, List.length_append, flatH_length X n, Array.length_toList, hv, arr_size]; omega
theorem hv_at (B : Nat → W8) {j : Nat} (h : j < 32) : (hv B).toList[j]? = some (.int .u8 (ub (B j))) := by
  rw [Array.getElem?_toList]; exact arr_get 32 _ h
theorem flatH_at (X : Nat → Nat → W8) : ∀ n i j, i < n → j < 32 → (flatH X n)[32 * i + j]? = some (.int .u8 (ub (X i j)))
  | 0, i, j, h, _ => absurd h (by omega)
  | n + 1, i, j, h, hj => by
    simp only [flatH]
    by_cases e : i < n
    · rw [List.getElem?_append_left (by rw [flatH_length]; omega)]
      exact flatH_at X n i j e hj
    · have : i = n := by omega
      subst this
      rw [List.getElem?_append_right (by rw [flatH_length]; omega), flatH_length, show 32 * i + j - i * 32 = j by omega]
      exact hv_at (X i) hj
theorem flatH_one (X : Nat → Nat → W8) (n : Nat) : ∀ u ∈ flatH X n, u.oneCell' = true := by
  intro u hu
  obtain ⟨k, hk⟩ := List.mem_iff_getElem?.1 hu
  have hk' := (List.getElem?_eq_some_iff.1 hk).1
  rw [flatH_length] at hk'
  have := flatH_at X n (k / 32) (k % 32) (by omega) (by omega)
  rw [show 32 * (k / 32) + k % 32 = k by omega, hk] at this
  cases this
  rfl
theorem flatH_news {w : World} {ad : Addr} {n cap : Nat} {X : Nat → Nat → W8} (h : Lv w (some ad) n cap X) : ∀ j u, (flatH X n)[j]? = some u → w.cell? (ad.add j) = some u := by
  intro j u hu
  have hj := (List.getElem?_eq_some_iff.1 hu).1
  rw [flatH_length] at hj
  obtain ⟨b, off, e, _, hc⟩ := h.2.2 (by omega)
  cases e
  have h1 := hc (j / 32) (by omega) (j % 32) (by omega)
  have h2 := flatH_at X n (j / 32) (j % 32) (by omega) (by omega)
  rw [show 32 * (j / 32) + j % 32 = j by omega, hu] at h2
  rw [show off + 32 * (j / 32) + j % 32 = off + j by omega] at h1
  rw [Addr.add_mid, h1, h2]
theorem own_lv {w : World} {base n : Nat} {v : Value} {X : Nat → Nat → W8} (h : w.ownsRow base 23 32 v n (flatH X n)) : ∃ p c, v = .slice p n c ∧ Lv w p n c X := by
  rcases h.2 with ⟨rfl, rfl⟩ | ⟨g, cap, cur, rfl, h1, h2, h3, h4, h5, h6⟩
  · exact ⟨none, 0, rfl, Nat.le_refl _, by simp, fun h => absurd h (by omega)⟩
  · refine ⟨_, cap, rfl, h3, h4, fun hn => ⟨g, 0, rfl, (Array.getElem?_eq_some_iff.1 h2).1, fun i hi j hj => ?_⟩⟩
    have hb : Blk w g cur 23 := h2
    refine hb.cellv ?_
    rw [← Array.getElem?_toList, ← List.getElem?_take_of_lt (show 0 + 32 * i + j < n * 32 by omega), h6, Nat.zero_add]
    exact flatH_at X n i j hi hj
theorem append_nil36 (w : World) (ty : TypeId) (p : Option Addr) (n c c' : Nat) (h : n ≤ c) : (Builtin.append_ #[36, 36] ty #[.slice p n c, .slice none 0 c']).run Try.prog w = .ok (.slice p n c) w := by
  obtain ⟨i0, hi, hz0, hz1, hz2⟩ := info_parts info23
  refine run_append_nothing w 36 36 ty 23 i0 Try.underlying36 hi p n c h (.slice none 0 c') ⟨Or.inl ⟨_, Try.underlying36⟩, fun _ => rfl, ?_, ?_, by simp, by simp⟩
  · rw [hz1]; rfl
  · rw [hz1]; rfl
theorem wpList_append_nil36 {w : World} {ops : Array Oper} {rest : List Oper} {o : Oper} {a : Act} {Q : Exit → Act → World → Prop} (hgd : o.guard = none) (s x : Operand)
    (ho : o.op = .call { callee := .builtin .append, args := #[s, x], argTypes := #[36, 36] }) (p : Option Addr) (n c c' : Nat) (hs : a.eval s = .slice p n c) (hx : a.eval x = .slice none 0 c') (hle : n ≤ c)
    (h : wpList Try.prog ops Q rest (a.put o.dst (.slice p n c)) w) : wpList Try.prog ops Q (o :: rest) a w := by
  refine wpList_plain hgd fun K hK => ?_
  unfold Oper.wp execOp
  simp only [ho, resolve, invoke, builtin, Sem.run_bind, Sem.run_pure, Result.andThen_ok, List.map_toArray, List.map_cons, List.map_nil, hs, hx, append_nil36 w _ p n c c' hle]
  exact hK _ _ h
theorem lv_range {w : World} {b off : Nat} {n cap : Nat} {X : Nat → Nat → W8} (h : Lv w (some ⟨b, off, none⟩) n cap X) {k : Nat} (hk : k < n) : w.rangeAt b (off + k * 32) (hv (X k)).toList := by
  by_cases h0 : k = 0
  · subst h0; simpa using h.range hk
  · have := (h.right (m := k) hk).range (by omega)
    simpa using this
theorem tree_set {wc w2 : World} {zs : Array Value} {T : Nat → W8} (hb : Below wc.heap.size wc w2) (hz : zs = hv (fun _ => 0)) :
    wc.heap.size ≤ w2.heap.size ∧ Below wc.heap.size wc ((w2.alloc (.cells zs 23)).setCells w2.heap.size 0 (hv T).toList) ∧
    Fn ((w2.alloc (.cells zs 23)).setCells w2.heap.size 0 (hv T).toList) w2.heap.size 23 32 (fun i => .int .u8 (ub (T i))) := by
  subst hz
  have F0 : Fn (w2.alloc (.cells (hv (fun _ => 0)) 23)) w2.heap.size 23 32 (fun _ => .int .u8 0) := Fn.arr w2 _ 32 _
  have M0 : Mod (fun k => wc.heap.size ≤ k) wc w2 := ⟨hb.os, hb.tape, hb.output, hb.size, fun k hk _ => hb.block k hk⟩
  have hs := hb.size
  exact ⟨hb.size, (Mod.setCells (S := fun k => wc.heap.size ≤ k) _ 0 _ (M0.alloc _) (fun hh => by omega)).below (Nat.le_refl _) (fun k hk hh => by omega), by simpa [hv] using F0.storeAll (fun i => .int .u8 (ub (T i)))⟩
set_option maxRecDepth 100000 in
set_option maxHeartbeats 4000000 in
theorem tree_walk {w : World} {p : Option Addr} {n cap : Nat} {X : Nat → Nat → W8} (hL : Lv w p n cap X) :
    Calls Try.prog 7 #[.slice p n cap] w fun e w' => e = .returned (.bool true) ∧ Below w.heap.size w w' := by
  obtain ⟨i0, hi, hz0, hz1, hz2⟩ := info_parts info23
  have HL := hid hL
  clear hL
  by_cases h40 : 40 < n
  · go_enter Try.func7, Try.ntmps7
    go_wp2_with (go_at_call 9; refine (alive_c _).mono ?_; rintro e w2 ⟨rfl, hb⟩; have hb' := hid hb; clear hb)
    go_ret
    exact ⟨rfl, hb'.out⟩
  · obtain ⟨zs, hzs⟩ : ∃ zs, zs = hv (fun _ => 0) := ⟨_, rfl⟩
    have hz : ∀ W : World, (zeroValue 23).run Try.prog W = .ok (.agg zs) W := by rw [hzs]; exact fun _ => rfl
    have hzc : (Value.agg zs).cells.size = 32 := by rw [hzs]; exact arr_size 32 _
    have hzz : zs.size = 32 := by rw [hzs]; exact arr_size 32 _
    rw [← hzs] at hz0
    have HZ := hid hzs
    clear hzs
    have O0 := hid (show (w.alloc (.cells #[] 23)).ownsRow w.heap.size 23 32 (.slice (some ⟨w.heap.size, 0, none⟩) 0 0) 0 [] from ⟨rfl, Or.inr ⟨w.heap.size, 0, #[], rfl, Nat.le_refl _, Blk.new w #[] 23, Nat.le_refl _, Nat.zero_le _, rfl, rfl⟩⟩)
    have L0 := hid ((Below.refl w.heap.size w).alloc (Nat.le_refl _) (.cells #[] 23))
    have V0 := hid (show Lv (w.alloc (.cells #[] 23)) p n cap X from HL.out.below L0.out)
    go_enter Try.func7, Try.ntmps7
    go_upto_region 3 with fail
    go_cut [3] from 10 to 12 (fun v3 wr => Hid (wr.ownsRow w.heap.size 23 32 v3 n (flatH X n)) ∧ Hid (Below w.heap.size w wr))
    case first =>
      cases p with
      | none =>
        have hx0 : n = 0 := by
          by_cases h0 : 0 < n
          · obtain ⟨_, _, h, _⟩ := HL.out.2.2 h0; cases h
          · omega
        subst hx0
        go_wp2_with (at_builtin; refine wpList_append_nil36 rfl (.tmp 10) (.tmp 11) rfl (some ⟨w.heap.size, 0, none⟩) 0 0 cap rfl rfl (Nat.le_refl _) ?_)
        go_meet
        case rel => exact ⟨O0, L0⟩
      | some ad =>
        have hfl := hid (flatH_length X n)
        have hn40 : n ≤ 40 := by omega
        go_wp2_with (at_builtin; refine wpList_append_own_at _ rfl (.tmp 10) (.tmp 11) 36 rfl w.heap.size 23 i0 (.agg zs) 32 32 rfl hi hz0 hz1 hz2 hzc (by decide) _ 0 [] rfl O0.out ad n cap (flatH X n) rfl hfl.out (flatH_news V0.out) (flatH_one X n) (by unfold maxLen; omega) (by omega) (by simp) ?_; intro v5 w5 hown5 hg5 _ _; have M5 := hid (Mod.of_grown (S := fun kk => w.heap.size ≤ kk) hg5 (fun kk hk => by cases hk; exact Nat.le_refl _)); have O5 := hid hown5; clear hown5 hg5)
        go_meet
        case rel => exact ⟨hid (by have := O5.out; rwa [Nat.zero_add, List.nil_append] at this), hid (L0.out.trans (M5.out.below (by simp) (fun c hc h => by omega)))⟩
    case rest =>
      obtain ⟨O1, L2⟩ := hcut
      obtain ⟨p5, c5, e5, LV⟩ := own_lv O1.out
      subst e5
      have HV := hid LV
      clear LV O1 O0 L0 V0
      have hn40 : n ≤ 40 := by omega
      obtain ⟨T, hT⟩ : ∃ T, T = treeB n n X := ⟨_, rfl⟩
      have HT := hid hT
      clear hT
      have hc2 := L2.out.size
      have HL2 := hid (HL.out.below L2.out)
      go_upto_region 6 with (first
        | (refine wpList_store_mid rfl 23 (.tmp 4) (.tmp 14) rfl w2.heap.size 0 (hv T) rfl rfl (there_set (Fn.new w2 zs 23 hzz (f := fun _ => .int .u8 0) (fun j hj => by rw [HZ.out]; exact arr_get 32 _ hj)) (arr_size _ _)) (by unfold hv; rw [arr_size]; kernel_rfl) one_arr ?_
           have F3 := hid (tree_set (T := T) hb'.out HZ.out)
           obtain ⟨w3, hw3⟩ : ∃ w3, w3 = (w2.alloc (.cells zs 23)).setCells w2.heap.size 0 (hv T).toList := ⟨_, rfl⟩
           rw [← hw3] at F3 ⊢
           clear hw3)
        | (go_at_call 19; refine (tree_c n n _ _ _ X (Nat.le_refl _) hn40 HV.out).mono ?_; rintro e w2 ⟨rfl, hb⟩; have hb' := hid hb; clear hb; rw [← HT.out]))
      obtain ⟨hg, L4, FT⟩ := F3.out
      have HFT := hid FT
      have HV4 := hid (HV.out.below L4)
      have HL4 := hid (HL2.out.below L4)
      have L5 := hid (L2.out.trans (L4.mono hc2))
      have hg3 := FT.lt
      clear F3 FT L4 HL2 HV
      obtain ⟨g, hgg⟩ : ∃ g, g = w2.heap.size := ⟨_, rfl⟩
      rw [← hgg] at HFT hg3 ⊢
      clear hgg
      have hu23 := Try.underlying23
      go_loopg [5] n (fun q v5 wr => ∃ k : Nat, v5 = .int .i64 k ∧ q = n - k ∧ k ≤ n ∧ Hid (Below w3.heap.size w3 wr))
      case atStart => exact ⟨0, rfl, rfl, by omega, hid (Below.refl _ _)⟩
      case round =>
        obtain ⟨k, rfl, hq, hk, LR⟩ := hrel
        have HVr := hid (HV4.out.below LR.out)
        have HLr := hid (HL4.out.below LR.out)
        have HFr := hid (HFT.out.below LR.out hg3)
        by_cases hkn : k < n
        · obtain ⟨b5, o5, hp5, hb5, _⟩ := HVr.out.2.2 (by omega)
          obtain ⟨b0, o0, hp0, hb0, _⟩ := HLr.out.2.2 (by omega)
          subst hp5
          subst hp0
          have heq : ∀ W : World, (Op.equalIn 10000 23 (.agg (hv (X k))) (.agg (hv (X k)))).run Try.prog W = .ok true W := eq32_same _
          have hsi : (Try.prog.info? 23).map (·.size) = some (hv (X k)).toList.length := by unfold hv; rw [Array.length_toList, arr_size]; kernel_rfl
          go_upto_region 8 with fail
          have R5 := hid (show ∀ W : World, (∃ n : Wd wr, W = n.w) → W.rangeAt b5 (o5 + k * 32) (hv (X k)).toList from by rintro _ ⟨n, rfl⟩; exact lv_range (HVr.out.below n.h) hkn)
          have R0 := hid (show ∀ W : World, (∃ n : Wd wr, W = n.w) → W.rangeAt b0 (o0 + k * 32) (hv (X k)).toList from by rintro _ ⟨n, rfl⟩; exact lv_range (HLr.out.below n.h) hkn)
          refine region_wd (by kernel_rfl) (by kernel_rfl) ?_
          repeat (first
            | go_big_quiet_skip
            | (go_big_quiet_want
               first
               | (refine quiet_load_mid 23 (.tmp 23) rfl b5 (o5 + k * 32) rfl (hv (X k)).toList _ R5.out hu23 rfl hsi ?_
                  simp only [Act.put, List.setIfInBounds_toArray, List.set_cons_zero, List.set_cons_succ, Array.toArray_toList]
                  go_big_quiet_on)
               | (refine quiet_load_mid 23 (.tmp 27) rfl b0 (o0 + k * 32) rfl (hv (X k)).toList _ R0.out hu23 rfl hsi ?_
                  simp only [Act.put, List.setIfInBounds_toArray, List.set_cons_zero, List.set_cons_succ, Array.toArray_toList]
                  go_big_quiet_on)
               | (go_big_quiet_op
                  go_big_quiet_on)))
          refine wpQuiet_nil ?_
          rintro _ ⟨nq, rfl⟩
          go_wp2
          go_roundg (n - (k + 1))
          case measure => omega
          case rel => exact ⟨k + 1, by go_num, rfl, by omega, hid (LR.out.trans (nq.h.mono LR.out.size))⟩
        · have hkn' : k = n := by omega
          subst hkn'
          have heq : ∀ W : World, (Op.equalIn 10000 23 (.agg (hv T)) (.agg (hv T))).run Try.prog W = .ok true W := eq32_same _
          have hsi : (Try.prog.info? 23).map (·.size) = some (hv T).toList.length := by unfold hv; rw [Array.length_toList, arr_size]; kernel_rfl
          go_upto_region 10 with fail
          have R4 := hid (show ∀ W : World, (∃ n : Wd wr, W = n.w) → W.rangeAt g 0 (hv T).toList from by rintro _ ⟨n, rfl⟩; exact (HFr.out.below n.h HFr.out.lt).range' (hv T) (arr_size _ _) (fun i hi => arr_get 32 _ hi))
          have CT := hid (fun n : Wd wr => (HT.out ▸ rtree_c k k n.w p cap X (Nat.le_refl _) hn40 (HLr.out.below n.h) : Calls Try.prog 20 #[.slice p k cap] n.w fun e w' => e = .returned (.agg (hv T)) ∧ Below n.w.heap.size n.w w'))
          refine region_wd (by kernel_rfl) (by kernel_rfl) ?_
          repeat (first
            | go_big_quiet_skip
            | (go_big_quiet_want
               first
               | (refine quiet_load_mid 23 (.tmp 4) rfl g 0 rfl (hv T).toList _ R4.out hu23 rfl hsi ?_
                  simp only [Act.put, List.setIfInBounds_toArray, List.set_cons_zero, List.set_cons_succ, Array.toArray_toList]
                  go_big_quiet_on)
               | (go_big_quiet_op
                  first
                  | go_big_quiet_on
                  | go_big_quiet_call (first
                    | (go_at_call 9; exact Wd.call _ (alive_c _))
                    | (go_at_call 20; exact Wd.call _ (CT.out _))))))
          refine wpQuiet_nil ?_
          rintro _ ⟨nq, rfl⟩
          go_wp2
          go_ret
          exact ⟨rfl, (L5.out.trans (LR.out.mono L5.out.size)).trans (nq.h.mono (by have := L5.out.size; have := LR.out.size; omega))⟩
end Go.Proofs.Ytoegpjfpfhjbkaa
