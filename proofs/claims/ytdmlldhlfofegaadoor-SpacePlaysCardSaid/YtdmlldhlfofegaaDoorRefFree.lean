/- The document's map: Free; what Load says, in bits. -/
import Derived.Test.YtdmlldhlfofegaaDoorRefBytes
namespace Go.Proofs.YtdmlldhlfofegaaDoor
open Go.RowKit

set_option maxRecDepth 100000 in
set_option maxHeartbeats 2000000 in
theorem rfree_c {w : World} {v : Value} {n : Nat} {U : Nat → Bool} (h : RM w v n U) (hn : n ≤ 512) : Calls Tryd.prog 23 #[v] w fun e w' => e = .returned (.int .i64 ((n : Int) - (cnt U n : Nat))) ∧ Below w.heap.size w w' := by
  obtain ⟨b, c, rfl, hnc, hcm, hb, hcell⟩ := h
  have HC := hid hcell
  obtain ⟨w1, hw1⟩ : ∃ w1, w1 = w.alloc (.cells #[.slice (some ⟨b, 0, none⟩) n c] 41) := ⟨_, rfl⟩
  have HB := hid (show Blk w1 w.heap.size #[.slice (some ⟨b, 0, none⟩) n c] 41 by rw [hw1]; exact Blk.new w _ _)
  have HL := hid (show Below w.heap.size w w1 by rw [hw1]; exact (Below.refl w.heap.size w).alloc (Nat.le_refl _) _)
  have n0 : (0 : Int) ≤ (n : Int) := Int.natCast_nonneg _
  have cm : w1.cell? ⟨w.heap.size, 0, none⟩ = some (.slice (some ⟨b, 0, none⟩) n c) := HB.out.cellv rfl
  clear hcell
  go_enter Tryd.func23, Tryd.ntmps23
  go_upto_region 1 with fail
  rw [← hw1]
  clear hw1
  go_wp2
  go_loopg [3, 4] n (fun g v3 v4 wr => ∃ i : Nat, v3 = .int .i64 ((i : Int) - (cnt U i : Nat)) ∧ v4 = .int .i64 i ∧ g = n - i ∧ i ≤ n ∧ wr = w1)
  case atStart => exact ⟨0, rfl, rfl, rfl, by omega, rfl⟩
  case round =>
    obtain ⟨i, rfl, rfl, hg, hi, rfl⟩ := hrel
    by_cases hin : i < n
    · have cu : wr.cell? ⟨b, i, none⟩ = some (.bool (U i)) := (HL.out.cell hb).trans (HC.out i hin)
      have m0 : (0 : Int) ≤ (i : Int) := Int.natCast_nonneg _
      have m1 : (i : Int) < (n : Int) := by omega
      have hcl := cnt_le U i
      have HCT := hid (show cnt U (i + 1) = cnt U i + (U i).toNat from rfl)
      obtain ⟨k, hk⟩ : ∃ k, k = cnt U i := ⟨_, rfl⟩
      rw [← hk] at HCT hcl ⊢
      clear hk
      cases hu : U i with
      | false =>
        rw [hu] at cu HCT
        clear hu
        have hwr : IntKind.i64.wrap ((i : Int) - (k : Int) + 1) = (i : Int) - (k : Int) + 1 := by simp [IntKind.wrap, IntKind.bits, IntKind.signed]; omega
        go_wp2
        go_roundg (n - (i + 1))
        case measure => omega
        case rel => exact ⟨i + 1, by rw [HCT.out]; congr 1; simp; omega, by go_num, rfl, by omega, rfl⟩
      | true =>
        rw [hu] at cu HCT
        clear hu
        go_wp2
        go_roundg (n - (i + 1))
        case measure => omega
        case rel => exact ⟨i + 1, by rw [HCT.out]; congr 1; simp; omega, by go_num, rfl, by omega, rfl⟩
    · have hi2 : i = n := by omega
      subst hi2
      clear hg hi hin
      go_wp2
      go_ret
      exact ⟨rfl, HL.out⟩
/-- What the document's Load reads. -/
def rdB (B : Nat → W8) : Nat → Bool := fun i => decide (i < 4) || (B (i / 8)).getLsbD (i % 8)
theorem strOf_inj {B C : Nat → W8} {n : Nat} (h : strOf B n = strOf C n) (j : Nat) (hj : j < n) : B j = C j := by
  unfold strOf at h
  have h1 : ((List.range n).map (fun j => (⟨B j⟩ : UInt8))) = ((List.range n).map (fun j => (⟨C j⟩ : UInt8))) := by
    have := congrArg (fun x : ByteArray => x.data.toList) h
    simpa using this
  have := congrArg (fun l => l[j]?) h1
  simp [hj] at this
  exact this
/-- The document lets in what the program lets in. -/
theorem rd_ok {n : Nat} (h1 : 16 ≤ n) (h2 : n ≤ 512) (B : Nat → W8) : (strOf (rbt (rdB B) n) 64 = strOf B 64) ↔ ∀ i, i < 512 → OkAt n (wordsOf B) i := by
  have hb : ∀ i, i < 512 → (rbt (rdB B) n (i / 8)).getLsbD (i % 8) = (decide (i < n) && rdB B i) := fun i _ => by
    rw [rbt_bit _ _ _ _ (by omega), show 8 * (i / 8) + i % 8 = i by omega]
  constructor
  · intro h i hi
    have e := strOf_inj h (i / 8) (by omega)
    have hbi := hb i hi
    rw [e] at hbi
    refine ⟨fun h4 => ?_, fun hn => ?_⟩
    · rw [used_words _ _ hi, hbi, decide_eq_true (by omega)]
      unfold rdB; rw [decide_eq_true h4]; rfl
    · rw [used_words _ _ hi, hbi, decide_eq_false (by omega)]; rfl
  · intro h
    apply strOf_congr
    intro j hj
    apply BitVec.eq_of_getLsbD_eq
    intro r hr
    have hi : 8 * j + r < 512 := by omega
    obtain ⟨k1, k2⟩ := h _ hi
    rw [used_words _ _ hi, show (8 * j + r) / 8 = j by omega, show (8 * j + r) % 8 = r by omega] at k1 k2
    rw [rbt_bit _ _ _ _ hr]
    by_cases hn : 8 * j + r < n
    · rw [decide_eq_true hn, Bool.true_and]
      unfold rdB
      by_cases h4 : 8 * j + r < 4
      · rw [decide_eq_true h4, k1 h4]; rfl
      · rw [decide_eq_false h4, show (8 * j + r) / 8 = j by omega, show (8 * j + r) % 8 = r by omega]; rfl
    · rw [decide_eq_false hn, k2 (by omega)]; rfl
theorem rd_used {n : Nat} {B : Nat → W8} (h2 : n ≤ 512) (h : ∀ i, i < 512 → OkAt n (wordsOf B) i) : ∀ i, i < n → rdB B i = used (wordsOf B) i := fun i hi => by
  rw [used_words _ _ (by omega)]
  unfold rdB
  by_cases h4 : i < 4
  · have := (h i (by omega)).1 h4
    rw [used_words _ _ (by omega)] at this
    rw [this]; simp
  · rw [decide_eq_false h4]; rfl
theorem words_tight {n : Nat} {B : Nat → W8} (h : ∀ i, i < 512 → OkAt n (wordsOf B) i) : Tight n (wordsOf B) ∧ Lab (wordsOf B) := ⟨fun i hi h5 => (h i h5).2 hi, fun j hj => (h j (by omega)).1 hj⟩
theorem bit8_test (b : W8) (r : Nat) : (bits .and .u8 (ub b / (2 : Int) ^ r) 1 == 1) = b.getLsbD r := by
  have e : bits .and .u8 (ub b / (2 : Int) ^ r) 1 = ub ((b >>> r) &&& 1#8) := by
    have h1 : ub b / (2 : Int) ^ r = ub (b >>> r) := by
      unfold ub
      rw [BitVec.toNat_ushiftRight, Nat.shiftRight_eq_div_pow]
      simp
    rw [h1]
    have e : ∀ x : W8, BitVec.ofInt IntKind.u8.bits (ub x) = x := fun x => by
      show BitVec.ofInt 8 (ub x) = x
      unfold ub
      apply BitVec.eq_of_toNat_eq
      have := x.isLt
      rw [BitVec.toNat_ofInt]; omega
    show IntKind.u8.wrap _ = _
    rw [e, show (BitVec.ofInt IntKind.u8.bits 1 : BitVec 8) = 1#8 from rfl]
    have := (b >>> r &&& 1#8).isLt
    show IntKind.u8.wrap (((b >>> r &&& 1#8).toNat : Nat) : Int) = (((b >>> r &&& 1#8).toNat : Nat) : Int)
    generalize (b >>> r &&& 1#8).toNat = x at *
    simp [IntKind.wrap, IntKind.bits, IntKind.signed]
    omega
  rw [e]
  have hb : b >>> r &&& 1#8 = if b.getLsbD r then 1#8 else 0#8 := by
    apply BitVec.eq_of_getLsbD_eq
    intro i hi
    have h1 := one_bit8 0 i hi
    rw [show (1#8 <<< 0 : W8) = 1#8 from rfl] at h1
    rw [BitVec.getLsbD_and, h1, BitVec.getLsbD_ushiftRight]
    by_cases e0 : i = 0
    · subst e0
      rw [decide_eq_true rfl, Bool.and_true, Nat.add_zero]
      cases b.getLsbD r <;> rfl
    · rw [decide_eq_false e0, Bool.and_false]
      cases b.getLsbD r
      · simp
      · simp only [if_true]; rw [h1, decide_eq_false e0]
  rw [hb]
  cases b.getLsbD r <;> rfl
end Go.Proofs.YtdmlldhlfofegaaDoor
