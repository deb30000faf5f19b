/- A map of bytes. -/
import Derived.Test.YtdmlldhlfofegaaDoorBytes
namespace Go.Proofs.YtdmlldhlfofegaaDoor
open Go.RowKit

/-- The words of the first i bytes. -/
def acc (B : Nat → W8) : Nat → Nat → W64
  | 0 => fun _ => 0#64
  | i + 1 => put1 (acc B i) (i / 8) (acc B i (i / 8) ||| (B i).setWidth 64 <<< (8 * (i % 8)))
theorem acc_bit (B : Nat → W8) : ∀ i k r, r < 64 → (acc B i k).getLsbD r = (decide (8 * k + r / 8 < i) && (B (8 * k + r / 8)).getLsbD (r % 8))
  | 0, k, r, _ => by simp [acc]
  | i + 1, k, r, hr => by
    unfold acc put1
    by_cases e : k = i / 8
    · subst e
      rw [if_pos rfl, BitVec.getLsbD_or, acc_bit B i _ r hr, BitVec.getLsbD_shiftLeft, BitVec.getLsbD_setWidth, decide_eq_true hr, Bool.true_and]
      by_cases e2 : r / 8 = i % 8
      · rw [decide_eq_false (show ¬ 8 * (i / 8) + r / 8 < i by omega), decide_eq_true (show 8 * (i / 8) + r / 8 < i + 1 by omega), decide_eq_false (show ¬ r < 8 * (i % 8) by omega), decide_eq_true (show r - 8 * (i % 8) < 64 by omega)]
        rw [show r - 8 * (i % 8) = r % 8 by omega, show 8 * (i / 8) + r / 8 = i by omega]
        simp
      · by_cases e3 : r / 8 < i % 8
        · rw [decide_eq_true (show 8 * (i / 8) + r / 8 < i by omega), decide_eq_true (show 8 * (i / 8) + r / 8 < i + 1 by omega), decide_eq_true (show r < 8 * (i % 8) by omega)]
          simp
        · rw [decide_eq_false (show ¬ 8 * (i / 8) + r / 8 < i by omega), decide_eq_false (show ¬ 8 * (i / 8) + r / 8 < i + 1 by omega)]
          have : (B i).getLsbD (r - 8 * (i % 8)) = false := BitVec.getLsbD_of_ge _ _ (by omega)
          rw [this]; simp
    · rw [if_neg e, acc_bit B i k r hr]
      congr 1
      apply decide_eq_decide.2
      omega
/-- The words of 64 bytes. -/
def wordsOf (B : Nat → W8) : Nat → W64 := acc B 64
theorem used_words (B : Nat → W8) (j : Nat) (hj : j < 512) : used (wordsOf B) j = (B (j / 8)).getLsbD (j % 8) := by
  unfold used wordsOf
  rw [acc_bit B 64 _ _ (by omega), decide_eq_true (by omega), Bool.true_and, show 8 * (j / 64) + j % 64 / 8 = j / 8 by omega, show j % 64 % 8 = j % 8 by omega]
theorem v_byte (b : W8) (r : Nat) : IntKind.u64.wrap (IntKind.u64.wrap (ub b) * (2 : Int) ^ r) = v (b.setWidth 64 <<< r) := by
  have h0 : IntKind.u64.wrap (ub b) = ub b := by
    have := b.isLt
    unfold ub
    simp [IntKind.wrap, IntKind.bits, IntKind.signed]; omega
  rw [h0]
  unfold ub v
  rw [BitVec.toNat_shiftLeft, BitVec.toNat_setWidth, Nat.shiftLeft_eq]
  have : (b.toNat % 2 ^ 64) = b.toNat := Nat.mod_eq_of_lt (by have := b.isLt; omega)
  rw [this]
  simp [IntKind.wrap, IntKind.bits, IntKind.signed]
/-- Bytes at a place. -/
def Bts (w : World) (p off n : Nat) (B : Nat → W8) : Prop := ∀ i, i < n → w.cell? ⟨p, off + i, none⟩ = some (.int .u8 (ub (B i)))
theorem Bts.below {w w' : World} {p off n : Nat} {B : Nat → W8} (h : Bts w p off n B) {K : Nat} (hK : p < K) (hb : Below K w w') : Bts w' p off n B := fun i hi => (hb.cell hK).trans (h i hi)
/-- May these be a map of n sectors? -/
def OkAt (n : Nat) (Y : Nat → W64) (i : Nat) : Prop := (i < 4 → used Y i = true) ∧ (n ≤ i → used Y i = false)
theorem load_arg (w : World) (s : Value) (n : Int) (h : n < 16 ∨ 512 < n) : Calls Tryd.prog 26 #[s, .int .i64 n] w fun e w' => e = .returned (.tuple #[.pointer none, .int .i64 1]) ∧ w = w' := by
  go_enter Tryd.func26, Tryd.ntmps26
  go_wp2_with (go_at_call 8; refine (new_no _ n h).mono ?_; rintro e w' ⟨rfl, rfl⟩)
  go_ret2
  exact ⟨rfl, rfl⟩
theorem load_len (w : World) (p : Option Addr) (len cap n : Nat) (h1 : 16 ≤ n) (h2 : n ≤ 512) (hl : len ≠ 64) : Calls Tryd.prog 26 #[.slice p len cap, .int .i64 n] w fun e w' => e = .returned (.tuple #[.pointer none, .int .i64 3]) ∧ Below w.heap.size w w' := by
  have hl' : ¬ (len : Int) = 64 := by omega
  go_enter Tryd.func26, Tryd.ntmps26
  go_wp2_with (go_at_call 8; refine (new_yes _ n h1 h2).mono ?_; rintro e w1 ⟨b, hb, rfl, M1, L1⟩; have HL1 := hid L1; clear M1 L1)
  go_ret2
  exact ⟨rfl, HL1.out⟩
theorem arr_one (n : Nat) (f : Nat → Value) (h : ∀ i, i < n → (f i).oneCell' = true) : (arr n f).all (·.oneCell') = true := by
  unfold arr
  simp only [List.all_toArray, List.all_map, List.all_eq_true, List.mem_range, Function.comp]
  exact h
set_option maxRecDepth 100000 in
set_option maxHeartbeats 4000000 in
theorem load_walk {w : World} {p off cap n : Nat} {B : Nat → W8} (hB : Bts w p off 64 B) (hp : p < w.heap.size) (h1 : 16 ≤ n) (h2 : n ≤ 512) :
    Calls Tryd.prog 26 #[.slice (some ⟨p, off, none⟩) 64 cap, .int .i64 n] w fun e w' => Below w.heap.size w w' ∧
      ((∀ i, i < 512 → OkAt n (wordsOf B) i) → ∃ b, w.heap.size ≤ b ∧ e = .returned (.tuple #[.pointer (some ⟨b, 0, none⟩), .int .i64 0]) ∧ MapAt w' b n (wordsOf B)) ∧
      (¬ (∀ i, i < 512 → OkAt n (wordsOf B) i) → e = .returned (.tuple #[.pointer none, .int .i64 3])) := by
  have HB := hid hB
  clear hB
  go_enter Tryd.func26, Tryd.ntmps26
  go_wp2_with (go_at_call 8; refine (new_yes _ n h1 h2).mono ?_; rintro e w1 ⟨b, hb, rfl, M1, L1⟩; have HM1 := hid M1; have HL1 := hid L1; clear M1 L1)
  have hw1 := HL1.out.size
  obtain ⟨w2, hw2⟩ : ∃ w2, w2 = w1.alloc (.cells #[.int .u64 0, .int .u64 0, .int .u64 0, .int .u64 0, .int .u64 0, .int .u64 0, .int .u64 0, .int .u64 0] 62) := ⟨_, rfl⟩
  have FU := hid (show Fn w2 w1.heap.size 62 8 (fun k => .int .u64 (v (acc B 0 k))) by
    rw [hw2]
    exact Fn.new w1 _ _ rfl (fun j hj => by
      have hc : j = 0 ∨ j = 1 ∨ j = 2 ∨ j = 3 ∨ j = 4 ∨ j = 5 ∨ j = 6 ∨ j = 7 := by omega
      rcases hc with rfl | rfl | rfl | rfl | rfl | rfl | rfl | rfl <;> rfl))
  have L2 := hid (show Below w1.heap.size w1 w2 by rw [hw2]; exact (Below.refl _ _).alloc (Nat.le_refl _) _)
  rw [← hw2]
  clear hw2
  have hbw := Fn.lt HM1.out
  go_loopg [9, 10, 28] 64 (fun g _ _ v28 wr => ∃ i : Nat, v28 = .int .i64 i ∧ g = 64 - i ∧ i ≤ 64 ∧ Hid (Fn wr w1.heap.size 62 8 (fun k => .int .u64 (v (acc B i k)))) ∧ Hid (Below w1.heap.size w1 wr))
  case atStart => exact ⟨0, rfl, rfl, by omega, FU, L2⟩
  case round =>
    obtain ⟨i, rfl, hg, hi, FI, LI⟩ := hrel
    have hul := FI.out.lt
    have LW := hid (HL1.out.trans (LI.out.mono hw1))
    by_cases hi64 : i < 64
    · have c0 : wr.cell? ⟨p, off + i, none⟩ = some (.int .u8 (ub (B i))) := (HB.out.below hp LW.out) i hi64
      have c1 : wr.cell? ⟨w1.heap.size, i / 8, none⟩ = some (.int .u64 (v (acc B i (i / 8)))) := FI.out.cell (by omega)
      have f1 : wr.frozen? ⟨w1.heap.size, i / 8, none⟩ = false := FI.out.frozen _
      have m0 : (0 : Int) ≤ (i : Int) := Int.natCast_nonneg _
      have m1 : (i : Int) < 64 := by omega
      go_upto_region 10 with fail
      go_region
      rw [v_byte, v_or]
      go_wp2
      go_roundg (64 - (i + 1))
      case measure => omega
      case rel =>
        refine ⟨i + 1, by go_num, rfl, by omega, hid ?_, hid (LI.out.trans (((Mod.refl (fun c => c = w1.heap.size) wr).setCell (p := ⟨w1.heap.size, i / 8, none⟩) (fun _ => rfl) _).drew.below (B := w1.heap.size) LI.out.size (fun c hc e => by omega)))⟩
        refine ((FI.out.set (i / 8) (.int .u64 (v (acc B i (i / 8) ||| (B i).setWidth 64 <<< (8 * (i % 8)))))).congr (fun j hj => ?_)).of_block rfl
        unfold set1
        show Value.int .u64 (v (put1 (acc B i) (i / 8) (acc B i (i / 8) ||| (B i).setWidth 64 <<< (8 * (i % 8))) j)) = _
        unfold put1
        by_cases e : j = i / 8
        · rw [if_pos e, if_pos e]
        · rw [if_neg e, if_neg e]
    · have hi2 : i = 64 := by omega
      subst hi2
      have FY := hid (show Fn wr w1.heap.size 62 8 (fun k => .int .u64 (v (wordsOf B k))) from FI.out)
      clear hg hi FI hi64
      go_wp2
      obtain ⟨Y, hY⟩ : ∃ Y, Y = wordsOf B := ⟨_, rfl⟩
      have HYB := hid hY
      rw [← hY] at FY
      clear hY
      have LI' := LI
      have LW' := LW
      clear LI LW hul
      obtain ⟨wq, rfl⟩ : ∃ wq, wq = wr := ⟨wr, rfl⟩
      go_loopg [11, 12, 46] 512 (fun g _ _ v46 wr => ∃ i : Nat, v46 = .int .i64 i ∧ g = 512 - i ∧ i ≤ 512 ∧ wr = wq ∧ Hid (∀ j, j < i → OkAt n Y j))
      case atStart => exact ⟨0, rfl, rfl, by omega, rfl, hid (fun j hj => by omega)⟩
      case round =>
        obtain ⟨i, rfl, hg, hi, rfl, HO⟩ := hrel
        by_cases hi512 : i < 512
        · have c1 : wr.cell? ⟨w1.heap.size, i / 64, none⟩ = some (.int .u64 (v (Y (i / 64)))) := FY.out.cell (by omega)
          have m0 : (0 : Int) ≤ (i : Int) := Int.natCast_nonneg _
          have m1 : (i : Int) < 512 := by omega
          have hbt := bit_test (Y (i / 64)) (i % 64)
          go_upto_region 16 with fail
          obtain ⟨on, hon⟩ : ∃ on, on = BitVec.getLsbD (Y (i / 64)) (i % 64) := ⟨_, rfl⟩
          have HON := hid (show used Y i = on from hon.symm)
          rw [← hon]
          clear hon hbt c1
          cases on with
          | false =>
            by_cases h4 : i < 4
            · have h4' : (i : Int) < 4 := by omega
              have hok : ¬ OkAt n Y i := fun h => by have := h.1 h4; rw [HON.out] at this; cases this
              clear h4
              go_wp2
              go_ret2
              rw [← HYB.out]
              exact ⟨LW'.out, fun h => absurd (h i hi512) hok, by intros; rfl⟩
            · have h4' : ¬ (i : Int) < 4 := by omega
              have hok : OkAt n Y i := ⟨fun h => absurd h h4, fun _ => HON.out⟩
              by_cases hn : n ≤ i
              · have hn' : (n : Int) ≤ (i : Int) := by omega
                clear h4
                go_wp2
                go_roundg (512 - (i + 1))
                case measure => omega
                case rel => exact ⟨i + 1, by go_num, rfl, by omega, rfl, hid (fun j hj => by
                  by_cases e : j = i
                  · subst e; exact hok
                  · exact HO.out j (by omega))⟩
              · have hn' : ¬ (n : Int) ≤ (i : Int) := by omega
                clear h4
                go_wp2
                go_roundg (512 - (i + 1))
                case measure => omega
                case rel => exact ⟨i + 1, by go_num, rfl, by omega, rfl, hid (fun j hj => by
                  by_cases e : j = i
                  · subst e; exact hok
                  · exact HO.out j (by omega))⟩
          | true =>
            by_cases h4 : i < 4
            · have h4' : (i : Int) < 4 := by omega
              have hn' : ¬ (n : Int) ≤ (i : Int) := by omega
              have hn : ¬ n ≤ i := by omega
              have hok : OkAt n Y i := ⟨fun _ => HON.out, fun h => absurd h hn⟩
              clear h4
              go_wp2
              go_roundg (512 - (i + 1))
              case measure => omega
              case rel => exact ⟨i + 1, by go_num, rfl, by omega, rfl, hid (fun j hj => by
                by_cases e : j = i
                · subst e; exact hok
                · exact HO.out j (by omega))⟩
            · have h4' : ¬ (i : Int) < 4 := by omega
              by_cases hn : n ≤ i
              · have hn' : (n : Int) ≤ (i : Int) := by omega
                have hok : ¬ OkAt n Y i := fun h => by have := h.2 hn; rw [HON.out] at this; cases this
                clear h4
                go_wp2
                go_ret2
                rw [← HYB.out]
                exact ⟨LW'.out, fun h => absurd (h i hi512) hok, by intros; rfl⟩
              · have hn' : ¬ (n : Int) ≤ (i : Int) := by omega
                have hok : OkAt n Y i := ⟨fun h => absurd h h4, fun h => absurd h hn⟩
                clear h4
                go_wp2
                go_roundg (512 - (i + 1))
                case measure => omega
                case rel => exact ⟨i + 1, by go_num, rfl, by omega, rfl, hid (fun j hj => by
                  by_cases e : j = i
                  · subst e; exact hok
                  · exact HO.out j (by omega))⟩
        · have hi5 : i = 512 := by omega
          subst hi5
          clear hg hi hi512
          obtain ⟨ys, hys⟩ : ∃ ys, ys = arr 8 (fun k => Value.int .u64 (v (Y k))) := ⟨_, rfl⟩
          have hyz : ys.size = 8 := by rw [hys]; exact arr_size _ _
          have HYS := hid (show ∀ j, j < 8 → ys[j]? = some (.int .u64 (v (Y j))) by rw [hys]; exact fun j hj => arr_get _ _ hj)
          have hyo := hid (show ys.all (·.oneCell') = true by rw [hys]; exact arr_one _ _ (fun _ _ => rfl))
          have RY := hid (show wr.rangeAt w1.heap.size 0 ys.toList from fun j vv hv => by
            have hj : j < 8 := by rw [← hyz]; simpa using (List.getElem?_eq_some_iff.1 hv).1
            rw [Array.getElem?_toList, HYS.out j hj] at hv
            rw [Nat.zero_add, FY.out.cell hj]; exact hv)
          have HMr := hid (show MapAt wr b n (labX 4) from HM1.out.below LI'.out hbw)
          have TH := hid (show wr.there b 1 ys.size from by rw [hyz]; exact Fn.there HMr.out 1 8 (by omega))
          have MS := hid (show MapAt (wr.setCells b 1 ys.toList) b n Y from by
            refine Fn.setCells ys.toList 1 _ _ HMr.out _ (fun j hj => ?_) (fun j hn hj => ?_)
            · have hj8 : j < 8 := by simpa [hyz] using hj
              rw [Array.getElem?_toList, HYS.out j hj8, if_neg (by omega), show 1 + j - 1 = j by omega]
            · have : j = 0 := by simp [hyz] at hj; omega
              subst this
              rw [if_pos rfl, if_pos rfl])
          have LS := hid (show Below w.heap.size w (wr.setCells b 1 ys.toList) from LW'.out.trans ((Mod.setCells (S := fun c => c = b) _ 1 _ (Mod.refl _ wr) (fun _ => rfl)).below LW'.out.size (fun c hc e => by omega)))
          clear hys
          go_wp2_with first
            | (refine wpList_store_mid rfl 62 (.tmp 76) (.tmp 74) rfl b 1 ys rfl rfl TH.out (by rw [hyz]; kernel_rfl) hyo.out ?_)
            | (refine wpList_load_mid rfl 62 (.tmp 8) rfl w1.heap.size 0 rfl ys.toList _ RY.out Tryd.underlying62 rfl (by rw [Array.length_toList, hyz]; kernel_rfl) ?_)
          go_ret2
          rw [← HYB.out]
          exact ⟨LS.out, fun _ => ⟨b, hb, rfl, MS.out⟩, fun h => absurd (fun i hi => HO.out i hi) h⟩
end Go.Proofs.YtdmlldhlfofegaaDoor
