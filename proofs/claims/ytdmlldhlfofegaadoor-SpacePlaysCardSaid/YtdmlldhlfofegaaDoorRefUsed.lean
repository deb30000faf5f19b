/- The document's map: Used, Give; whether numbers are alike. -/
import Derived.Test.YtdmlldhlfofegaaDoorOwn
namespace Go.Proofs.YtdmlldhlfofegaaDoor
open Go.RowKit

set_option maxRecDepth 100000 in
set_option maxHeartbeats 2000000 in
theorem rused_yes {w : World} {v : Value} {n : Nat} {U : Nat → Bool} (h : RM w v n U) (i : Int) (hi : i < 0 ∨ (n : Int) ≤ i) : Calls Tryd.prog 22 #[v, .int .i64 i] w fun e w' => e = .returned (.bool true) ∧ Below w.heap.size w w' := by
  obtain ⟨b, c, rfl, hnc, hcm, hb, hcell⟩ := h
  obtain ⟨w1, hw1⟩ : ∃ w1, w1 = w.alloc (.cells #[.slice (some ⟨b, 0, none⟩) n c] 41) := ⟨_, rfl⟩
  have HB := hid (show Blk w1 w.heap.size #[.slice (some ⟨b, 0, none⟩) n c] 41 by rw [hw1]; exact Blk.new w _ _)
  have HL := hid (show Below w.heap.size w w1 by rw [hw1]; exact (Below.refl w.heap.size w).alloc (Nat.le_refl _) _)
  have cm : w1.cell? ⟨w.heap.size, 0, none⟩ = some (.slice (some ⟨b, 0, none⟩) n c) := HB.out.cellv rfl
  clear hcell
  by_cases h0 : i < 0
  · go_enter Tryd.func22, Tryd.ntmps22
    go_upto_region 1 with fail
    rw [← hw1]
    clear hw1
    go_wp2
    go_ret
    exact ⟨rfl, HL.out⟩
  · have h1 : (n : Int) ≤ i := by omega
    go_enter Tryd.func22, Tryd.ntmps22
    go_upto_region 1 with fail
    rw [← hw1]
    clear hw1 hi
    go_wp2
    go_ret
    exact ⟨rfl, HL.out⟩
set_option maxRecDepth 100000 in
set_option maxHeartbeats 2000000 in
theorem rused_in {w : World} {v : Value} {n : Nat} {U : Nat → Bool} (h : RM w v n U) (i : Nat) (hi : i < n) : Calls Tryd.prog 22 #[v, .int .i64 i] w fun e w' => e = .returned (.bool (U i)) ∧ Below w.heap.size w w' := by
  obtain ⟨b, c, rfl, hnc, hcm, hb, hcell⟩ := h
  obtain ⟨w1, hw1⟩ : ∃ w1, w1 = w.alloc (.cells #[.slice (some ⟨b, 0, none⟩) n c] 41) := ⟨_, rfl⟩
  have HB := hid (show Blk w1 w.heap.size #[.slice (some ⟨b, 0, none⟩) n c] 41 by rw [hw1]; exact Blk.new w _ _)
  have HL := hid (show Below w.heap.size w w1 by rw [hw1]; exact (Below.refl w.heap.size w).alloc (Nat.le_refl _) _)
  have cm : w1.cell? ⟨w.heap.size, 0, none⟩ = some (.slice (some ⟨b, 0, none⟩) n c) := HB.out.cellv rfl
  have cu : w1.cell? ⟨b, i, none⟩ = some (.bool (U i)) := (HL.out.cell hb).trans (hcell i hi)
  have m0 : (0 : Int) ≤ (i : Int) := Int.natCast_nonneg _
  have m1 : ¬ (n : Int) ≤ (i : Int) := by omega
  have m2 : (i : Int) < (n : Int) := by omega
  clear hcell
  generalize U i = q at *
  go_enter Tryd.func22, Tryd.ntmps22
  go_upto_region 1 with fail
  rw [← hw1]
  clear hw1 hi
  go_wp2
  go_ret
  exact ⟨rfl, HL.out⟩
set_option maxRecDepth 100000 in
set_option maxHeartbeats 4000000 in
theorem rgive_no {w : World} {v : Value} {n : Nat} {U : Nat → Bool} (h : RM w v n U) (hn : n ≤ 512) (i : Nat) (hi32 : i < 4294967296) (hno : i < 4 ∨ n ≤ i ∨ U i = false) : Calls Tryd.prog 18 #[v, .int .u32 i] w fun e w' => e = .returned (.tuple #[v, .int .i64 1]) ∧ Below w.heap.size w w' := by
  obtain ⟨b, c, rfl, hnc, hcm, hb, hcell⟩ := h
  have HC := hid hcell
  obtain ⟨w1, hw1⟩ : ∃ w1, w1 = (w.alloc (.cells #[.slice (some ⟨b, 0, none⟩) n c] 41)).alloc (.cells #[.slice none 0 0] 41) := ⟨_, rfl⟩
  have HB := hid (show Blk w1 w.heap.size #[.slice (some ⟨b, 0, none⟩) n c] 41 by rw [hw1]; exact (Blk.new w _ _).alloc _)
  have HR := hid (show Blk w1 (w.heap.size + 1) #[.slice none 0 0] 41 by rw [hw1]; have := Blk.new (w.alloc (.cells #[.slice (some ⟨b, 0, none⟩) n c] 41)) #[.slice none 0 0] 41; simpa using this)
  have HL := hid (show Below w.heap.size w w1 by rw [hw1]; exact ((Below.refl w.heap.size w).alloc (Nat.le_refl _) _).alloc (by simp) _)
  have cm : w1.cell? ⟨w.heap.size, 0, none⟩ = some (.slice (some ⟨b, 0, none⟩) n c) := HB.out.cellv rfl
  have cr : w1.cell? ⟨w.heap.size + 1, 0, none⟩ = some (.slice none 0 0) := HR.out.cellv rfl
  have fr := HR.out.frozen 0
  have n0 : IntKind.u64.wrap (n : Int) = (n : Int) := by simp [IntKind.wrap, IntKind.bits, IntKind.signed]; omega
  have n1 : IntKind.u64.wrap (i : Int) = (i : Int) := by simp [IntKind.wrap, IntKind.bits, IntKind.signed]; omega
  clear hcell
  go_enter Tryd.func18, Tryd.ntmps18
  go_upto_region 1 with fail
  rw [← hw1]
  clear hw1
  by_cases h4 : i < 4
  · have h4' : (i : Int) < 4 := by omega
    clear hno h4
    go_wp2
    refine ret_map rfl rfl rfl rfl (HR.out.set 0 (.slice (some ⟨b, 0, none⟩) n c)) rfl ⟨rfl, ?_⟩
    exact (((Mod.of_below HL.out (fun c => w.heap.size ≤ c)).setCell (p := ⟨w.heap.size + 1, 0, none⟩) (fun _ => Nat.le_succ _) _).below (Nat.le_refl _) (fun c hc h => by omega))
  · have h4' : ¬ (i : Int) < 4 := by omega
    by_cases hni : n ≤ i
    · have hni' : (n : Int) ≤ (i : Int) := by omega
      clear hno h4
      go_wp2
      refine ret_map rfl rfl rfl rfl (HR.out.set 0 (.slice (some ⟨b, 0, none⟩) n c)) rfl ⟨rfl, ?_⟩
      exact (((Mod.of_below HL.out (fun c => w.heap.size ≤ c)).setCell (p := ⟨w.heap.size + 1, 0, none⟩) (fun _ => Nat.le_succ _) _).below (Nat.le_refl _) (fun c hc h => by omega))
    · have hni' : ¬ (n : Int) ≤ (i : Int) := by omega
      have hu : U i = false := by
        rcases hno with h | h | h
        · exact absurd h h4
        · exact absurd h hni
        · exact h
      have cu : w1.cell? ⟨b, i, none⟩ = some (.bool false) := by rw [← hu]; exact (HL.out.cell hb).trans (HC.out i (by omega))
      have m0 : (0 : Int) ≤ (i : Int) := Int.natCast_nonneg _
      have m2 : (i : Int) < (n : Int) := by omega
      clear hno h4 hu
      go_wp2
      refine ret_map rfl rfl rfl rfl (HR.out.set 0 (.slice (some ⟨b, 0, none⟩) n c)) rfl ⟨rfl, ?_⟩
      exact (((Mod.of_below HL.out (fun c => w.heap.size ≤ c)).setCell (p := ⟨w.heap.size + 1, 0, none⟩) (fun _ => Nat.le_succ _) _).below (Nat.le_refl _) (fun c hc h => by omega))
end Go.Proofs.YtdmlldhlfofegaaDoor
