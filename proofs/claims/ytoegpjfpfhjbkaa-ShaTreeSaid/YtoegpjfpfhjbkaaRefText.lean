/- The document's text of a hash. -/
import Derived.Test.YtoegpjfpfhjbkaaRefSum
namespace Go.Proofs.Ytoegpjfpfhjbkaa
open Go.RowKit Go.ChangeMaps

theorem hex_slice (n : Nat) (hn : n < 16) (W : World) : (Instr.sliceAt 9 (.string hexD) (some (.int .u8 (n : Int))) (some (.int .u8 ((n : Int) + 1))) none).run Try.prog W = .ok (.string ⟨#[hexD.data[n]?.getD 0]⟩) W := by
  have : n = 0 ∨ n = 1 ∨ n = 2 ∨ n = 3 ∨ n = 4 ∨ n = 5 ∨ n = 6 ∨ n = 7 ∨ n = 8 ∨ n = 9 ∨ n = 10 ∨ n = 11 ∨ n = 12 ∨ n = 13 ∨ n = 14 ∨ n = 15 := by omega
  rcases this with rfl | rfl | rfl | rfl | rfl | rfl | rfl | rfl | rfl | rfl | rfl | rfl | rfl | rfl | rfl | rfl <;> rfl
set_option maxRecDepth 100000 in
set_option maxHeartbeats 2000000 in
theorem rtext_c (w : World) (xs : Array Value) (hs : xs.size = 32) (B : Nat → W8) (hx : ∀ i, i < 32 → xs[i]? = some (.int .u8 (ub (B i)))) :
    Calls Try.prog 13 #[.agg xs] w fun e w' => e = .returned (.string ⟨(digU B 4).toArray⟩) ∧ Below w.heap.size w w' := by
  have F := hid (Fn.new w xs 23 hs hx)
  have L := hid ((Below.refl w.heap.size w).alloc (Nat.le_refl _) (.cells xs 23))
  clear hx hs
  go_enter Try.func13, Try.ntmps13
  go_wp2
  go_loopg [4, 5] 4 (fun g v4 v5 wr => ∃ k : Nat, v5 = .int .i64 k ∧ g = 4 - k ∧ k ≤ 4 ∧ v4 = .string ⟨(digU B k).toArray⟩ ∧ Hid (Fn wr w.heap.size 23 32 (fun i => .int .u8 (ub (B i)))) ∧ Hid (Below w.heap.size w wr))
  case atStart => exact ⟨0, rfl, rfl, by omega, rfl, F, L⟩
  case round =>
    obtain ⟨k, rfl, hg, hk, rfl, F1, L1⟩ := hrel
    by_cases hk4 : k < 4
    · have c0 : wr.cell? ⟨w.heap.size, k, none⟩ = some (.int .u8 (ub (B k))) := F1.out.cell (by omega)
      have hl := F1.out.lt
      have hbk := (B k).isLt
      obtain ⟨p, hp⟩ : ∃ p, p = (B k).toNat / 16 := ⟨_, rfl⟩
      obtain ⟨q, hq⟩ : ∃ q, q = (B k).toNat % 16 := ⟨_, rfl⟩
      have hp16 : p < 16 := by omega
      have hq16 : q < 16 := by omega
      have e1 : ub (B k) / 16 = (p : Int) := by unfold ub; omega
      have e2 : ub (B k) % 16 = (q : Int) := by unfold ub; omega
      have e3 : (ub (B k)).tmod 16 = (q : Int) := by
        rw [← e2]; unfold ub; rfl
      have e4 : (ub (B k)).tdiv 16 = (p : Int) := by
        rw [← e1]; unfold ub; rfl
      have e5 : IntKind.u8.wrap ((p : Int) + 1) = (p : Int) + 1 := by simp [IntKind.wrap, IntKind.bits, IntKind.signed]; omega
      have e6 : IntKind.u8.wrap ((q : Int) + 1) = (q : Int) + 1 := by simp [IntKind.wrap, IntKind.bits, IntKind.signed]; omega
      have s1 : ∀ W : World, (Instr.sliceAt 9 (.string ⟨#[48, 49, 50, 51, 52, 53, 54, 55, 56, 57, 97, 98, 99, 100, 101, 102]⟩) (some (.int .u8 (p : Int))) (some (.int .u8 ((p : Int) + 1))) none).run Try.prog W = .ok (.string ⟨#[hexD.data[p]?.getD 0]⟩) W := hex_slice p hp16
      have s2 : ∀ W : World, (Instr.sliceAt 9 (.string ⟨#[48, 49, 50, 51, 52, 53, 54, 55, 56, 57, 97, 98, 99, 100, 101, 102]⟩) (some (.int .u8 (q : Int))) (some (.int .u8 ((q : Int) + 1))) none).run Try.prog W = .ok (.string ⟨#[hexD.data[q]?.getD 0]⟩) W := hex_slice q hq16
      have hdl := digU_length B k
      have hd := hid (show digU B (k + 1) = digU B k ++ [hexD.data[p]?.getD 0, hexD.data[q]?.getD 0] by rw [hp, hq]; rfl)
      have g0 : (0 : Int) ≤ (k : Int) := Int.natCast_nonneg _
      have g1 : (k : Int) < 32 := by omega
      clear hp hq hbk
      go_upto_region 6 with fail
      go_region
      all_goals
        go_wp2
        go_roundg (4 - (k + 1))
        case measure => omega
        case rel =>
          refine ⟨k + 1, by go_num, rfl, by omega, ?_, hid (F1.out.of_block rfl), hid L1.out.drew⟩
          rw [hd.out]
          congr 1
          apply ByteArray.ext
          simp
    · have hk5 : k = 4 := by omega
      subst hk5
      go_wp2
      go_ret
      exact ⟨rfl, L1.out⟩
end Go.Proofs.Ytoegpjfpfhjbkaa
