/- The document's padded bytes. -/
import Derived.Test.YtkehejkjifgieaaPieces
namespace Go.Proofs.Ytkehejkjifgieaa
open Go.RowKit Go.ChangeMaps

theorem byv_append (a b : List W8) : byv (a ++ b) = byv a ++ byv b := by unfold byv; rw [List.map_append]
theorem byv_length (a : List W8) : (byv a).length = a.length := by unfold byv; rw [List.length_map]
theorem byv_one (a : List W8) : ∀ u ∈ byv a, u.oneCell' = true := by intro u hu; unfold byv at hu; obtain ⟨x, _, rfl⟩ := List.mem_map.1 hu; rfl
theorem news_one (W : World) (x : Value) (T : TypeId) : ∀ j v, [x][j]? = some v → (W.alloc (.cells #[x] T)).cell? ((⟨W.heap.size, 0, none⟩ : Addr).add j) = some v := by
  intro j v h
  have := (Blk.new W #[x] T).cell j
  have e : (⟨W.heap.size, 0, none⟩ : Addr).add j = ⟨W.heap.size, j, none⟩ := by unfold Addr.add; split <;> simp_all
  rw [e]
  exact this.trans (by rw [← Array.getElem?_toList]; exact h)
theorem bytes_at {W : World} {ad : Addr} {c : Nat} {xs : List W8} (hB : Bytes W (.slice (some ad) xs.length c) xs) : ∀ j v, (byv xs)[j]? = some v → W.cell? (ad.add j) = some v := fun j v hv => by
  obtain ⟨q', c', e, hq'⟩ := hB
  cases e
  have hj : j < xs.length := by
    have := (List.getElem?_eq_some_iff.1 hv).1
    rwa [byv_length] at this
  obtain ⟨b', o', e', _, _, _, hS⟩ := hq' (by omega)
  cases e'
  have := hS j hj
  unfold byv at hv
  rw [List.getElem?_map, List.getElem?_eq_getElem hj] at hv
  rw [Addr.add_mid, this, ← hv, List.getD_eq_getElem?_getD, List.getElem?_eq_getElem hj]; rfl
theorem own_slice {w : World} {base n : Nat} {v : Value} {xs : List Value} {T : TypeId} (h : w.ownsRow base T 1 v n xs) : ∃ p c, v = .slice p n c := by
  rcases h.2 with ⟨h, h'⟩ | ⟨g, cap, cur, h, _⟩
  · exact ⟨none, 0, by rw [h, h']⟩
  · exact ⟨_, _, h⟩

theorem pad_step (q0 : List W8) (N j : Nat) (X : Int) (h : X = ub (be8 N j)) : byv (q0 ++ (List.range (j + 1)).map (be8 N)) = byv (q0 ++ (List.range j).map (be8 N)) ++ [.int .u8 X] := by
  rw [List.range_succ, List.map_append, ← List.append_assoc, byv_append, h]; rfl
set_option maxRecDepth 100000 in
set_option maxHeartbeats 4000000 in
theorem padded_c {w : World} {v : Value} {xs : List W8} (hv : Bytes w v xs) (hlen : xs.length < 100000) :
    Calls Try.prog 75 #[v] w fun e w' => ∃ v', e = .returned v' ∧ w'.ownsRow w.heap.size 5 1 v' (pad xs).length (byv (pad xs)) ∧ Below w.heap.size w w' := by
  obtain ⟨i0, hi, hz0, hz1, hz2⟩ := info_parts info5
  have HV := hid hv
  obtain ⟨p, cap, rfl, hq⟩ := hv
  have HQ := hid hq
  clear hq
  have O0 := hid (show (w.alloc (.cells #[] 5)).ownsRow w.heap.size 5 1 (.slice (some ⟨w.heap.size, 0, none⟩) 0 0) 0 [] from row_empty (Blk.new w #[] 5) (Nat.le_refl _))
  have L0 := hid ((Below.refl w.heap.size w).alloc (Nat.le_refl _) (.cells #[] 5))
  have V0 := hid (show Bytes (w.alloc (.cells #[] 5)) (.slice p xs.length cap) xs from HV.out.below L0.out)
  go_enter Try.func75, Try.ntmps75
  go_upto_region 1 with fail
  go_cut [3] from 6 to 8 (fun v3 wr => Hid (wr.ownsRow w.heap.size 5 1 v3 xs.length (byv xs)) ∧ Hid (Below w.heap.size w wr))
  case first =>
    cases p with
    | none =>
      have hx0 : xs.length = 0 := by
        by_cases h0 : 0 < xs.length
        · obtain ⟨_, _, h, _⟩ := HQ.out h0; cases h
        · omega
      have hX0' : xs = [] := List.eq_nil_of_length_eq_zero hx0
      subst hX0'
      go_wp2_with (at_builtin; refine wpList_append_nil rfl (.tmp 6) (.tmp 7) rfl (some ⟨w.heap.size, 0, none⟩) 0 0 cap rfl rfl (Nat.le_refl _) ?_)
      go_meet
      case rel => exact ⟨O0, L0⟩
    | some ad =>
      have hby := hid (show (byv xs).length = xs.length * 1 by rw [byv_length]; omega)
      go_wp2_with (at_builtin; refine wpList_append_own_at _ rfl (.tmp 6) (.tmp 7) 29 rfl w.heap.size 5 i0 (.int .u8 0) 1 1 rfl hi hz0 hz1 hz2 rfl (by decide) _ 0 [] rfl O0.out ad xs.length cap (byv xs) rfl hby.out (bytes_at V0.out) (byv_one xs) (by unfold maxLen; omega) (by omega) (by simp) ?_; intro v5 w5 hown5 hg5 _ _; have M5 := hid (Mod.of_grown (S := fun kk => w.heap.size ≤ kk) hg5 (fun kk hk => (own_lt O0.out kk hk).1)); have O5 := hid hown5; clear hown5 hg5)
      go_meet
      case rel => exact ⟨hid (by have := O5.out; rwa [Nat.zero_add, List.nil_append] at this), hid (L0.out.trans (M5.out.below (by simp) (fun c hc h => by omega)))⟩
  case rest =>
    obtain ⟨O1, L1⟩ := hcut
    go_wp2_with (at_builtin; refine wpList_append_own_at _ rfl (.tmp 9) (.tmp 10) 29 rfl w.heap.size 5 i0 (.int .u8 0) 1 1 rfl hi hz0 hz1 hz2 rfl (by decide) _ xs.length (byv xs) rfl (O1.out.alloc _) ⟨wc.heap.size, 0, none⟩ 1 1 [.int .u8 128] rfl rfl (news_one wc _ _) (by intro u hu; cases hu with | head => rfl | tail _ h => cases h) (by unfold maxLen; omega) (by omega) (by have := L1.out.size; simp; omega) ?_; intro v5 w5 hown5 hg5 _ _; have M5 := hid (Mod.of_grown (S := fun kk => w.heap.size ≤ kk) hg5 (fun kk hk => (own_lt (O1.out.alloc (.cells #[.int .u8 128] 5)) kk hk).1)); have O5 := hid hown5; clear hown5 hg5)
    have O6 := hid (show w5.ownsRow w.heap.size 5 1 v5 (pad0 xs 0).length (byv (pad0 xs 0)) from by
      have := O5.out
      rw [show pad0 xs 0 = xs ++ [0x80] by simp [pad0], byv_append, List.length_append]; exact this)
    have L6 := hid (L1.out.trans ((((Mod.refl (fun kk => w.heap.size ≤ kk) wc).alloc _).trans M5.out).below L1.out.size (fun c hc h => by omega)))
    go_loopg [3] (padN xs) (fun g v3 wr => ∃ z : Nat, g = padN xs - z ∧ z ≤ padN xs ∧ Hid (wr.ownsRow w.heap.size 5 1 v3 (pad0 xs z).length (byv (pad0 xs z))) ∧ Hid (Below w.heap.size w wr))
    case atStart => exact ⟨0, rfl, by omega, O6, L6⟩
    case round =>
      obtain ⟨z, hg, hz, O2, L2⟩ := hrel
      obtain ⟨q3, c3, e3⟩ := own_slice O2.out
      subst e3
      have hpn : padN xs < 64 := by unfold padN; omega
      obtain ⟨n, hn⟩ : ∃ n, n = (pad0 xs z).length := ⟨_, rfl⟩
      have hnl : n = xs.length + 1 + z := by rw [hn]; unfold pad0; simp; omega
      have hpz := pad_z xs z hz
      rw [← hnl] at hpz
      have hnn := hid hn
      rw [← hn] at O2 ⊢
      have hnb : n < 100100 := by omega
      have HNL := hid hnl
      clear hn hnl
      by_cases h56 : n % 64 = 56
      · have hzz := hpz.1 h56
        subst hzz
        have h56i : (n : Int) % 64 = 56 := by omega
        obtain ⟨q0, hq0⟩ : ∃ q0, q0 = pad0 xs (padN xs) := ⟨_, rfl⟩
        have HQ0 := hid hq0
        rw [← hq0] at O2 hnn
        clear hpz hz hg h56 hq0
        go_wp2
        have OA := hid (show wr.ownsRow w.heap.size 5 1 (.slice q3 n c3) (n + 0) (byv (q0 ++ (List.range 0).map (be8 (8 * xs.length)))) from by rw [show (List.range 0).map (be8 (8 * xs.length)) = [] from rfl, List.append_nil]; exact O2.out)
        have LA := L2
        clear h56i
        go_loopg [3, 5] 8 (fun g v3 v5 wr => ∃ j : Nat, v5 = .int .i64 (7 - j) ∧ g = 8 - j ∧ j ≤ 8 ∧ Hid (wr.ownsRow w.heap.size 5 1 v3 (n + j) (byv (q0 ++ (List.range j).map (be8 (8 * xs.length))))) ∧ Hid (Below w.heap.size w wr))
        case atStart => exact ⟨0, rfl, rfl, by omega, OA, LA⟩
        case round =>
          obtain ⟨j, rfl, hg, hj, O3, L3⟩ := hrel
          clear OA LA O2 L2
          have hj' : j = 8 ∨ j = 0 ∨ j = 1 ∨ j = 2 ∨ j = 3 ∨ j = 4 ∨ j = 5 ∨ j = 6 ∨ j = 7 := by omega
          obtain ⟨N, hN⟩ : ∃ N, N = 8 * xs.length := ⟨_, rfl⟩
          rw [← hN] at O3
          rcases hj' with rfl | rfl | rfl | rfl | rfl | rfl | rfl | rfl | rfl
          · go_wp2
            go_ret
            refine ⟨_, rfl, ?_, L3.out⟩
            have := O3.out
            unfold pad
            rw [← HQ0.out, ← hN, List.length_append, ← hnn.out]
            exact this
          · go_wp2_with (at_builtin; refine wpList_append_own_at _ rfl (.tmp 27) (.tmp 34) 29 rfl w.heap.size 5 i0 (.int .u8 0) 1 1 rfl hi hz0 hz1 hz2 rfl (by decide) _ (n + 0) (byv (q0 ++ (List.range 0).map (be8 N))) rfl (O3.out.alloc _) ⟨wr.heap.size, 0, none⟩ 1 1 [.int .u8 ((xs.length : Int) * 8 / 72057594037927936)] rfl rfl (news_one wr _ _) (by intro u hu; cases hu with | head => rfl | tail _ h => cases h) (by unfold maxLen; omega) (by omega) (by have := L3.out.size; simp; omega) ?_; intro v5 w5 hown5 hg5 _ _; have M5 := hid (Mod.of_grown (S := fun kk => w.heap.size ≤ kk) hg5 (fun kk hk => (own_lt (O3.out.alloc (.cells #[.int .u8 ((xs.length : Int) * 8 / 72057594037927936)] 5)) kk hk).1)); have O5 := hid hown5; clear hown5 hg5)
            go_roundg (8 - 1)
            case measure => omega
            case rel =>
              refine ⟨1, by first | rfl | (congr 1) | (congr 1; omega), rfl, by omega, hid ?_, hid (L3.out.trans ((((Mod.refl (fun kk => w.heap.size ≤ kk) wr).alloc _).trans M5.out).below L3.out.size (fun c hc h => by omega)))⟩
              rw [← hN, pad_step q0 N 0 ((xs.length : Int) * 8 / 72057594037927936) (by unfold ub be8; rw [BitVec.toNat_ofNat, hN]; simp only [Nat.reduceMul, Nat.reduceSub, Nat.reducePow]; omega)]
              exact O5.out
          · go_wp2_with (at_builtin; refine wpList_append_own_at _ rfl (.tmp 27) (.tmp 34) 29 rfl w.heap.size 5 i0 (.int .u8 0) 1 1 rfl hi hz0 hz1 hz2 rfl (by decide) _ (n + 1) (byv (q0 ++ (List.range 1).map (be8 N))) rfl (O3.out.alloc _) ⟨wr.heap.size, 0, none⟩ 1 1 [.int .u8 ((xs.length : Int) * 8 / 281474976710656)] rfl rfl (news_one wr _ _) (by intro u hu; cases hu with | head => rfl | tail _ h => cases h) (by unfold maxLen; omega) (by omega) (by have := L3.out.size; simp; omega) ?_; intro v5 w5 hown5 hg5 _ _; have M5 := hid (Mod.of_grown (S := fun kk => w.heap.size ≤ kk) hg5 (fun kk hk => (own_lt (O3.out.alloc (.cells #[.int .u8 ((xs.length : Int) * 8 / 281474976710656)] 5)) kk hk).1)); have O5 := hid hown5; clear hown5 hg5)
            go_roundg (8 - 2)
            case measure => omega
            case rel =>
              refine ⟨2, by first | rfl | (congr 1) | (congr 1; omega), rfl, by omega, hid ?_, hid (L3.out.trans ((((Mod.refl (fun kk => w.heap.size ≤ kk) wr).alloc _).trans M5.out).below L3.out.size (fun c hc h => by omega)))⟩
              rw [← hN, pad_step q0 N 1 ((xs.length : Int) * 8 / 281474976710656) (by unfold ub be8; rw [BitVec.toNat_ofNat, hN]; simp only [Nat.reduceMul, Nat.reduceSub, Nat.reducePow]; omega)]
              exact O5.out
          · go_wp2_with (at_builtin; refine wpList_append_own_at _ rfl (.tmp 27) (.tmp 34) 29 rfl w.heap.size 5 i0 (.int .u8 0) 1 1 rfl hi hz0 hz1 hz2 rfl (by decide) _ (n + 2) (byv (q0 ++ (List.range 2).map (be8 N))) rfl (O3.out.alloc _) ⟨wr.heap.size, 0, none⟩ 1 1 [.int .u8 ((xs.length : Int) * 8 / 1099511627776)] rfl rfl (news_one wr _ _) (by intro u hu; cases hu with | head => rfl | tail _ h => cases h) (by unfold maxLen; omega) (by omega) (by have := L3.out.size; simp; omega) ?_; intro v5 w5 hown5 hg5 _ _; have M5 := hid (Mod.of_grown (S := fun kk => w.heap.size ≤ kk) hg5 (fun kk hk => (own_lt (O3.out.alloc (.cells #[.int .u8 ((xs.length : Int) * 8 / 1099511627776)] 5)) kk hk).1)); have O5 := hid hown5; clear hown5 hg5)
            go_roundg (8 - 3)
            case measure => omega
            case rel =>
              refine ⟨3, by first | rfl | (congr 1) | (congr 1; omega), rfl, by omega, hid ?_, hid (L3.out.trans ((((Mod.refl (fun kk => w.heap.size ≤ kk) wr).alloc _).trans M5.out).below L3.out.size (fun c hc h => by omega)))⟩
              rw [← hN, pad_step q0 N 2 ((xs.length : Int) * 8 / 1099511627776) (by unfold ub be8; rw [BitVec.toNat_ofNat, hN]; simp only [Nat.reduceMul, Nat.reduceSub, Nat.reducePow]; omega)]
              exact O5.out
          · go_wp2_with (at_builtin; refine wpList_append_own_at _ rfl (.tmp 27) (.tmp 34) 29 rfl w.heap.size 5 i0 (.int .u8 0) 1 1 rfl hi hz0 hz1 hz2 rfl (by decide) _ (n + 3) (byv (q0 ++ (List.range 3).map (be8 N))) rfl (O3.out.alloc _) ⟨wr.heap.size, 0, none⟩ 1 1 [.int .u8 ((xs.length : Int) * 8 / 4294967296)] rfl rfl (news_one wr _ _) (by intro u hu; cases hu with | head => rfl | tail _ h => cases h) (by unfold maxLen; omega) (by omega) (by have := L3.out.size; simp; omega) ?_; intro v5 w5 hown5 hg5 _ _; have M5 := hid (Mod.of_grown (S := fun kk => w.heap.size ≤ kk) hg5 (fun kk hk => (own_lt (O3.out.alloc (.cells #[.int .u8 ((xs.length : Int) * 8 / 4294967296)] 5)) kk hk).1)); have O5 := hid hown5; clear hown5 hg5)
            go_roundg (8 - 4)
            case measure => omega
            case rel =>
              refine ⟨4, by first | rfl | (congr 1) | (congr 1; omega), rfl, by omega, hid ?_, hid (L3.out.trans ((((Mod.refl (fun kk => w.heap.size ≤ kk) wr).alloc _).trans M5.out).below L3.out.size (fun c hc h => by omega)))⟩
              rw [← hN, pad_step q0 N 3 ((xs.length : Int) * 8 / 4294967296) (by unfold ub be8; rw [BitVec.toNat_ofNat, hN]; simp only [Nat.reduceMul, Nat.reduceSub, Nat.reducePow]; omega)]
              exact O5.out
          · go_wp2_with (at_builtin; refine wpList_append_own_at _ rfl (.tmp 27) (.tmp 34) 29 rfl w.heap.size 5 i0 (.int .u8 0) 1 1 rfl hi hz0 hz1 hz2 rfl (by decide) _ (n + 4) (byv (q0 ++ (List.range 4).map (be8 N))) rfl (O3.out.alloc _) ⟨wr.heap.size, 0, none⟩ 1 1 [.int .u8 ((xs.length : Int) * 8 / 16777216)] rfl rfl (news_one wr _ _) (by intro u hu; cases hu with | head => rfl | tail _ h => cases h) (by unfold maxLen; omega) (by omega) (by have := L3.out.size; simp; omega) ?_; intro v5 w5 hown5 hg5 _ _; have M5 := hid (Mod.of_grown (S := fun kk => w.heap.size ≤ kk) hg5 (fun kk hk => (own_lt (O3.out.alloc (.cells #[.int .u8 ((xs.length : Int) * 8 / 16777216)] 5)) kk hk).1)); have O5 := hid hown5; clear hown5 hg5)
            go_roundg (8 - 5)
            case measure => omega
            case rel =>
              refine ⟨5, by first | rfl | (congr 1) | (congr 1; omega), rfl, by omega, hid ?_, hid (L3.out.trans ((((Mod.refl (fun kk => w.heap.size ≤ kk) wr).alloc _).trans M5.out).below L3.out.size (fun c hc h => by omega)))⟩
              rw [← hN, pad_step q0 N 4 ((xs.length : Int) * 8 / 16777216) (by unfold ub be8; rw [BitVec.toNat_ofNat, hN]; simp only [Nat.reduceMul, Nat.reduceSub, Nat.reducePow]; omega)]
              exact O5.out
          · go_wp2_with (at_builtin; refine wpList_append_own_at _ rfl (.tmp 27) (.tmp 34) 29 rfl w.heap.size 5 i0 (.int .u8 0) 1 1 rfl hi hz0 hz1 hz2 rfl (by decide) _ (n + 5) (byv (q0 ++ (List.range 5).map (be8 N))) rfl (O3.out.alloc _) ⟨wr.heap.size, 0, none⟩ 1 1 [.int .u8 ((xs.length : Int) * 8 / 65536)] rfl rfl (news_one wr _ _) (by intro u hu; cases hu with | head => rfl | tail _ h => cases h) (by unfold maxLen; omega) (by omega) (by have := L3.out.size; simp; omega) ?_; intro v5 w5 hown5 hg5 _ _; have M5 := hid (Mod.of_grown (S := fun kk => w.heap.size ≤ kk) hg5 (fun kk hk => (own_lt (O3.out.alloc (.cells #[.int .u8 ((xs.length : Int) * 8 / 65536)] 5)) kk hk).1)); have O5 := hid hown5; clear hown5 hg5)
            go_roundg (8 - 6)
            case measure => omega
            case rel =>
              refine ⟨6, by first | rfl | (congr 1) | (congr 1; omega), rfl, by omega, hid ?_, hid (L3.out.trans ((((Mod.refl (fun kk => w.heap.size ≤ kk) wr).alloc _).trans M5.out).below L3.out.size (fun c hc h => by omega)))⟩
              rw [← hN, pad_step q0 N 5 ((xs.length : Int) * 8 / 65536) (by unfold ub be8; rw [BitVec.toNat_ofNat, hN]; simp only [Nat.reduceMul, Nat.reduceSub, Nat.reducePow]; omega)]
              exact O5.out
          · go_wp2_with (at_builtin; refine wpList_append_own_at _ rfl (.tmp 27) (.tmp 34) 29 rfl w.heap.size 5 i0 (.int .u8 0) 1 1 rfl hi hz0 hz1 hz2 rfl (by decide) _ (n + 6) (byv (q0 ++ (List.range 6).map (be8 N))) rfl (O3.out.alloc _) ⟨wr.heap.size, 0, none⟩ 1 1 [.int .u8 ((xs.length : Int) * 8 / 256 % 256)] rfl rfl (news_one wr _ _) (by intro u hu; cases hu with | head => rfl | tail _ h => cases h) (by unfold maxLen; omega) (by omega) (by have := L3.out.size; simp; omega) ?_; intro v5 w5 hown5 hg5 _ _; have M5 := hid (Mod.of_grown (S := fun kk => w.heap.size ≤ kk) hg5 (fun kk hk => (own_lt (O3.out.alloc (.cells #[.int .u8 ((xs.length : Int) * 8 / 256 % 256)] 5)) kk hk).1)); have O5 := hid hown5; clear hown5 hg5)
            go_roundg (8 - 7)
            case measure => omega
            case rel =>
              refine ⟨7, by first | rfl | (congr 1) | (congr 1; omega), rfl, by omega, hid ?_, hid (L3.out.trans ((((Mod.refl (fun kk => w.heap.size ≤ kk) wr).alloc _).trans M5.out).below L3.out.size (fun c hc h => by omega)))⟩
              rw [← hN, pad_step q0 N 6 ((xs.length : Int) * 8 / 256 % 256) (by unfold ub be8; rw [BitVec.toNat_ofNat, hN]; simp only [Nat.reduceMul, Nat.reduceSub, Nat.reducePow]; omega)]
              exact O5.out
          · go_wp2_with (at_builtin; refine wpList_append_own_at _ rfl (.tmp 27) (.tmp 34) 29 rfl w.heap.size 5 i0 (.int .u8 0) 1 1 rfl hi hz0 hz1 hz2 rfl (by decide) _ (n + 7) (byv (q0 ++ (List.range 7).map (be8 N))) rfl (O3.out.alloc _) ⟨wr.heap.size, 0, none⟩ 1 1 [.int .u8 ((xs.length : Int) * 8 % 256)] rfl rfl (news_one wr _ _) (by intro u hu; cases hu with | head => rfl | tail _ h => cases h) (by unfold maxLen; omega) (by omega) (by have := L3.out.size; simp; omega) ?_; intro v5 w5 hown5 hg5 _ _; have M5 := hid (Mod.of_grown (S := fun kk => w.heap.size ≤ kk) hg5 (fun kk hk => (own_lt (O3.out.alloc (.cells #[.int .u8 ((xs.length : Int) * 8 % 256)] 5)) kk hk).1)); have O5 := hid hown5; clear hown5 hg5)
            go_roundg (8 - 8)
            case measure => omega
            case rel =>
              refine ⟨8, by first | rfl | (congr 1) | (congr 1; omega), rfl, by omega, hid ?_, hid (L3.out.trans ((((Mod.refl (fun kk => w.heap.size ≤ kk) wr).alloc _).trans M5.out).below L3.out.size (fun c hc h => by omega)))⟩
              rw [← hN, pad_step q0 N 7 ((xs.length : Int) * 8 % 256) (by unfold ub be8; rw [BitVec.toNat_ofNat, hN]; simp only [Nat.reduceMul, Nat.reduceSub, Nat.reducePow]; omega)]
              exact O5.out
      · have h56i : ¬ (n : Int) % 64 = 56 := by omega
        have hzl : z < padN xs := by
          by_cases e : z = padN xs
          · exact absurd (hpz.2 e) h56
          · omega
        clear hpz
        go_wp2_with (at_builtin; refine wpList_append_own_at _ rfl (.tmp 16) (.tmp 17) 29 rfl w.heap.size 5 i0 (.int .u8 0) 1 1 rfl hi hz0 hz1 hz2 rfl (by decide) _ n (byv (pad0 xs z)) rfl (O2.out.alloc _) ⟨wr.heap.size, 0, none⟩ 1 1 [.int .u8 0] rfl rfl (news_one wr _ _) (by intro u hu; cases hu with | head => rfl | tail _ h => cases h) (by unfold maxLen; omega) (by omega) (by have := L2.out.size; simp; omega) ?_; intro v5 w5 hown5 hg5 _ _; have M5 := hid (Mod.of_grown (S := fun kk => w.heap.size ≤ kk) hg5 (fun kk hk => (own_lt (O2.out.alloc (.cells #[.int .u8 0] 5)) kk hk).1)); have O5 := hid hown5; clear hown5 hg5)
        go_roundg (padN xs - (z + 1))
        case measure => omega
        case rel =>
          refine ⟨z + 1, rfl, by omega, hid ?_, hid (L2.out.trans ((((Mod.refl (fun kk => w.heap.size ≤ kk) wr).alloc _).trans M5.out).below L2.out.size (fun c hc h => by omega)))⟩
          have e : pad0 xs (z + 1) = pad0 xs z ++ [0] := by unfold pad0; rw [List.replicate_succ', List.append_assoc, List.append_assoc, List.append_assoc]
          have := O5.out
          rw [e, byv_append, List.length_append, ← hnn.out]; exact this
end Go.Proofs.Ytkehejkjifgieaa
