/- The document's map: Bytes, Free. -/
import Derived.Test.YtdmlldhlfofegaaDoorRefNew
namespace Go.Proofs.YtdmlldhlfofegaaDoor
open Go.RowKit

/-- The bytes of the first k truths. -/
def rbt (U : Nat → Bool) : Nat → Nat → W8
  | 0 => fun _ => 0#8
  | k + 1 => fun j => if U k = true ∧ j = k / 8 then rbt U k j ||| (1#8 <<< (k % 8)) else rbt U k j
theorem rbt_bit (U : Nat → Bool) : ∀ k j r, r < 8 → (rbt U k j).getLsbD r = (decide (8 * j + r < k) && U (8 * j + r))
  | 0, j, r, _ => by simp [rbt]
  | k + 1, j, r, hr => by
    unfold rbt
    by_cases e : U k = true ∧ j = k / 8
    · obtain ⟨hu, rfl⟩ := e
      rw [if_pos ⟨hu, rfl⟩, BitVec.getLsbD_or, rbt_bit U k _ r hr, one_bit8 _ _ hr]
      by_cases e2 : r = k % 8
      · have : 8 * (k / 8) + r = k := by omega
        rw [this, hu, decide_eq_true e2, decide_eq_true (show k < k + 1 by omega)]; simp
      · rw [decide_eq_false e2, Bool.or_false]
        congr 1
        exact decide_eq_decide.2 (by omega)
    · rw [if_neg e, rbt_bit U k _ r hr]
      by_cases e2 : 8 * j + r = k
      · have hj : j = k / 8 := by omega
        have hu : U k = false := by
          cases hu : U k with
          | false => rfl
          | true => exact absurd ⟨hu, hj⟩ e
        rw [e2, hu]; simp
      · congr 1
        exact decide_eq_decide.2 (by omega)
theorem add_byte (x : W8) (r : Nat) (hr : r < 8) (h : x.getLsbD r = false) : (ub x + (2 : Int) ^ r) % 256 = ub (x ||| (1#8 <<< r)) := by
  have key : x + (1#8 <<< r) = x ||| (1#8 <<< r) := BitVec.add_eq_or_of_and_eq_zero x _ (by
    apply BitVec.eq_of_getLsbD_eq
    intro i hi
    rw [BitVec.getLsbD_and, one_bit8 _ _ hi, BitVec.getLsbD_zero]
    by_cases e : i = r
    · subst e; rw [h]; rfl
    · rw [decide_eq_false e, Bool.and_false])
  rw [← key]
  have h8 : r = 0 ∨ r = 1 ∨ r = 2 ∨ r = 3 ∨ r = 4 ∨ r = 5 ∨ r = 6 ∨ r = 7 := by omega
  have hx := x.isLt
  have wr : ∀ c : Nat, (ub x + (c : Int)) % 256 = (((x.toNat + c) % 256 : Nat) : Int) := fun c => by
    unfold ub; omega
  rcases h8 with rfl | rfl | rfl | rfl | rfl | rfl | rfl | rfl
  · exact (wr 1).trans (by unfold ub; rw [BitVec.toNat_add]; rfl)
  · exact (wr 2).trans (by unfold ub; rw [BitVec.toNat_add]; rfl)
  · exact (wr 4).trans (by unfold ub; rw [BitVec.toNat_add]; rfl)
  · exact (wr 8).trans (by unfold ub; rw [BitVec.toNat_add]; rfl)
  · exact (wr 16).trans (by unfold ub; rw [BitVec.toNat_add]; rfl)
  · exact (wr 32).trans (by unfold ub; rw [BitVec.toNat_add]; rfl)
  · exact (wr 64).trans (by unfold ub; rw [BitVec.toNat_add]; rfl)
  · exact (wr 128).trans (by unfold ub; rw [BitVec.toNat_add]; rfl)
/-- The document's bytes are the map's. -/
theorem rbt_bt {n : Nat} {U : Nat → Bool} {X : Nat → W64} (ht : Tight n X) (h : ∀ i, i < n → U i = used X i) (j : Nat) (hj : j < 64) : rbt U n j = bt X j := by
  apply BitVec.eq_of_getLsbD_eq
  intro r hr
  rw [rbt_bit _ _ _ _ hr, bt_bit _ _ _ hr]
  by_cases e : 8 * j + r < n
  · rw [decide_eq_true e, h _ e]; rfl
  · rw [decide_eq_false e, ht _ (by omega) (by omega)]; rfl
set_option maxRecDepth 100000 in
set_option maxHeartbeats 2000000 in
theorem rbytes_c {w : World} {v : Value} {n : Nat} {U : Nat → Bool} (h : RM w v n U) (hn : n ≤ 512) : Calls Tryd.prog 24 #[v] w fun e w' => ∃ g, e = .returned (.slice (some ⟨g, 0, none⟩) 64 64) ∧ Fn w' g 5 64 (fun j => .int .u8 (ub (rbt U n j))) ∧ Below w.heap.size w w' := by
  obtain ⟨C, hC1, hC2, hmk⟩ := made64
  obtain ⟨b, c, rfl, hnc, hcm, hb, hcell⟩ := h
  have HC := hid hcell
  obtain ⟨w1, hw1⟩ : ∃ w1, w1 = w.alloc (.cells #[.slice (some ⟨b, 0, none⟩) n c] 41) := ⟨_, rfl⟩
  have HB := hid (show Blk w1 w.heap.size #[.slice (some ⟨b, 0, none⟩) n c] 41 by rw [hw1]; exact Blk.new w _ _)
  have HL := hid (show Below w.heap.size w w1 by rw [hw1]; exact (Below.refl w.heap.size w).alloc (Nat.le_refl _) _)
  have hs1 := hid (show w1.heap.size = w.heap.size + 1 by rw [hw1]; simp)
  have F0 := hid (Fn.new w1 C 5 (n := 64) (f := fun _ => .int .u8 0) hC1 hC2)
  have L0 := hid ((Below.refl w1.heap.size w1).alloc (Nat.le_refl _) (.cells C 5))
  have n0 : (0 : Int) ≤ (n : Int) := Int.natCast_nonneg _
  clear hC1 hC2 hcell
  go_enter Tryd.func24, Tryd.ntmps24
  go_upto_region 1 with fail
  rw [← hw1]
  clear hw1
  go_wp2
  go_loopg [4] n (fun g v4 wr => ∃ i : Nat, v4 = .int .i64 i ∧ g = n - i ∧ i ≤ n ∧ Hid (Fn wr w1.heap.size 5 64 (fun j => .int .u8 (ub (rbt U i j)))) ∧ Hid (Mod (fun c => c = w1.heap.size) w1 wr))
  case atStart => exact ⟨0, rfl, rfl, by omega, F0, hid (Mod.of_below L0.out _)⟩
  case round =>
    obtain ⟨i, rfl, hg, hi, FI, MI⟩ := hrel
    have cm : wr.cell? ⟨w.heap.size, 0, none⟩ = some (.slice (some ⟨b, 0, none⟩) n c) := (HB.out.of_block (MI.out.block _ HB.out.lt (by have := hs1.out; omega))).cellv rfl
    by_cases hin : i < n
    · have cu : wr.cell? ⟨b, i, none⟩ = some (.bool (U i)) := (World.cell?_of_block (w := w1) (MI.out.block b (by have := hs1.out; omega) (by have := hs1.out; omega))).trans ((HL.out.cell hb).trans (HC.out i hin))
      have cb : wr.cell? ⟨w1.heap.size, i / 8, none⟩ = some (.int .u8 (ub (rbt U i (i / 8)))) := FI.out.cell (by omega)
      have fb : wr.frozen? ⟨w1.heap.size, i / 8, none⟩ = false := FI.out.frozen _
      have m0 : (0 : Int) ≤ (i : Int) := Int.natCast_nonneg _
      have m1 : (i : Int) < (n : Int) := by omega
      have m2 : (i : Int) < 512 := by omega
      have HU := hid (show rbt U (i + 1) = fun j => if U i = true ∧ j = i / 8 then rbt U i j ||| (1#8 <<< (i % 8)) else rbt U i j from rfl)
      have hbit := hid (show (rbt U i (i / 8)).getLsbD (i % 8) = false by rw [rbt_bit _ _ _ _ (by omega), decide_eq_false (by omega)]; rfl)
      cases hu : U i with
      | false =>
        rw [hu] at cu
        have HUF := hid hu
        clear hu
        go_wp2
        go_roundg (n - (i + 1))
        case measure => omega
        case rel => exact ⟨i + 1, by go_num, rfl, by omega, hid (FI.out.congr (fun j hj => by rw [HU.out, HUF.out]; simp)), MI⟩
      | true =>
        rw [hu] at cu
        have HUT := hid hu
        clear hu
        go_wp2
        rw [add_byte _ _ (by omega) hbit.out]
        go_roundg (n - (i + 1))
        case measure => omega
        case rel =>
          refine ⟨i + 1, by go_num, rfl, by omega, hid ((FI.out.set (i / 8) _).congr (fun j hj => ?_)), hid (MI.out.setCell (p := ⟨w1.heap.size, i / 8, none⟩) (fun _ => rfl) _)⟩
          rw [HU.out]
          unfold set1
          by_cases e : j = i / 8
          · subst e; rw [if_pos rfl]; dsimp only; rw [if_pos ⟨HUT.out, rfl⟩]
          · rw [if_neg e]; dsimp only; rw [if_neg (fun h => e h.2)]
    · have hi2 : i = n := by omega
      subst hi2
      clear hg hi hin
      go_wp2
      go_ret
      exact ⟨w1.heap.size, rfl, FI.out, HL.out.trans (MI.out.below HL.out.size (fun c hc h => by have := hs1.out; omega))⟩
end Go.Proofs.YtdmlldhlfofegaaDoor
