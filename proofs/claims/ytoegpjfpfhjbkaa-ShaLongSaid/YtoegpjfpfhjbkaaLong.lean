/- The walk of ShaLong. -/
import Derived.Test.YtoegpjfpfhjbkaaRefSum
import Derived.Test.YtoegpjfpfhjbkaaLaw
namespace Go.Proofs.Ytoegpjfpfhjbkaa
open Go.RowKit Go.ChangeMaps

theorem and2047 (n : Int) : ∃ N : Nat, N ≤ 2047 ∧ bits .and .i64 n 2047 = (N : Int) := by
  refine ⟨(BitVec.ofInt 64 n &&& BitVec.ofInt 64 2047).toNat, ?_, ?_⟩
  · rw [BitVec.toNat_and]; exact Nat.le_trans Nat.and_le_right (by decide)
  · show IntKind.i64.wrap _ = _
    have h : (BitVec.ofInt 64 n &&& BitVec.ofInt 64 2047).toNat ≤ 2047 := by rw [BitVec.toNat_and]; exact Nat.le_trans Nat.and_le_right (by decide)
    rw [show IntKind.i64.bits = 64 from rfl]
    simp [IntKind.wrap, IntKind.bits, IntKind.signed] at *
    omega
theorem made8 (N : Nat) (hN : N ≤ 2047) : ∃ C : Array Value, C.size = N ∧ (∀ j, j < N → C[j]? = some (.int .u8 0)) ∧ ∀ W : World, (Instr.makeSlice 22 (.int .i64 N) (.int .i64 N)).run Try.prog W = .ok (.slice (some ⟨W.heap.size, 0, none⟩) N N) (W.alloc (.cells C 5)) := by
  obtain ⟨i0, hi, hz0, hz1, hz2⟩ := info_parts info5
  refine ⟨madeCells (Value.int .u8 0).cells (N * 1), by simp [size_madeCells], fun j hj => ?_, fun W => ?_⟩
  · simp [madeCells, Value.cells, hj, Nat.mod_one]
  · have := run_makeSlice (P := Try.prog) W 22 5 i0 (.int .u8 0) Try.underlying22 hi hz0 .i64 .i64 N N (by omega) (by omega) (by rw [hz1]; omega) (by rw [hz2]; omega) (by omega)
    rw [this, hz1]; simp
theorem bytes_fn {W : World} {b N : Nat} {c : W8} (F : Fn W b 5 N (fun _ => .int .u8 (ub c))) (hN : N ≤ 2047) : Bytes W (.slice (some ⟨b, 0, none⟩) N N) (List.replicate N c) :=
  ⟨_, N, by rw [List.length_replicate], fun _ => ⟨b, 0, rfl, F.lt, by rw [List.length_replicate]; exact Nat.le_refl _, by unfold maxLen; omega, fun i hi => by
    rw [List.length_replicate] at hi
    rw [Nat.zero_add, F.cell hi, List.getD_eq_getElem?_getD, List.getElem?_replicate, if_pos hi]; rfl⟩⟩

set_option maxRecDepth 100000 in
set_option maxHeartbeats 4000000 in
theorem long_walk (C : W8) (n : Int) (w : World) :
    Calls Try.prog 5 #[.int .u8 (ub C), .int .i64 n] w fun e w' => e = .returned (.bool true) ∧ Below w.heap.size w w' := by
  obtain ⟨N, hN, hand⟩ := and2047 n
  obtain ⟨Z, hZ1, hZ2, hmk⟩ := made8 N hN
  have F0 := hid (Fn.new w Z 5 (n := N) (f := fun _ => .int .u8 0) hZ1 hZ2)
  have L0 := hid ((Below.refl w.heap.size w).alloc (Nat.le_refl _) (.cells Z 5))
  clear hZ1 hZ2
  go_enter Try.func5, Try.ntmps5
  go_wp2
  go_loopg [6] N (fun g v6 wr => ∃ i : Nat, v6 = .int .i64 i ∧ g = N - i ∧ i ≤ N ∧ Hid (Fn wr w.heap.size 5 N (fun j => if j < i then .int .u8 (ub C) else .int .u8 0)) ∧ Hid (Below w.heap.size w wr))
  case atStart => exact ⟨0, rfl, rfl, by omega, hid (F0.out.congr (fun j hj => by rw [if_neg (by omega)])), L0⟩
  case round =>
    obtain ⟨i, rfl, hg, hi, FI, LI⟩ := hrel
    have hlt := FI.out.lt
    by_cases hiN : i < N
    · have c0 : wr.cell? ⟨w.heap.size, i, none⟩ = some (.int .u8 0) := by have := FI.out.cell hiN; rwa [if_neg (Nat.lt_irrefl _)] at this
      have f0 : wr.frozen? ⟨w.heap.size, i, none⟩ = false := FI.out.frozen _
      go_wp2
      go_roundg (N - (i + 1))
      case measure => omega
      case rel =>
        refine ⟨i + 1, by go_num, rfl, by omega, hid ?_, hid (LI.out.trans (((Mod.refl (fun c => c = w.heap.size) wr).setCell (p := ⟨w.heap.size, i, none⟩) (fun _ => rfl) _).below (B := w.heap.size) (by omega) (fun c hc e => by omega)))⟩
        refine (FI.out.set i (.int .u8 (ub C))).congr (fun j hj => ?_)
        unfold set1
        by_cases e : j = i
        · subst e; rw [if_pos rfl, if_pos (by omega)]
        · rw [if_neg e]
          dsimp only
          by_cases e2 : j < i
          · rw [if_pos e2, if_pos (by omega)]
          · rw [if_neg e2, if_neg (by omega)]
    · have hi2 : i = N := by omega
      subst hi2
      have B0 := hid (bytes_fn (FI.out.congr (g := fun _ => .int .u8 (ub C)) (fun j hj => by rw [if_pos hj])) hN)
      have hxl : (List.replicate i C).length < 100000 := by rw [List.length_replicate]; omega
      have heq : ∀ W : World, (Op.equalIn 10000 23 (.agg (arr 32 (fun j => .int .u8 (ub (shaB (List.replicate i C) j))))) (.agg (arr 32 (fun j => .int .u8 (ub (shaB (List.replicate i C) j)))))).run Try.prog W = .ok true W := eq32_same _
      clear hg
      go_wp2_with first
        | (go_at_call 11; refine (refSum_c B3.out hxl).mono ?_; rintro e w4 ⟨rfl, Lx⟩; have L4 := hid (L3.out.trans (Lx.mono L3.out.size)); clear Lx)
        | (go_at_call 10; refine (shaSum_c B2.out (fun q hq => by cases hq; exact Nat.lt_of_lt_of_le hlt hw2) (by omega)).mono ?_; rintro e w3 ⟨rfl, Lx⟩; have L3 := hid (L2.out.trans (Lx.mono L2.out.size)); have B3 := hid (B2.out.below Lx); clear Lx)
        | (go_at_call 9; refine (alive_c _).mono ?_; rintro e w2 ⟨rfl, Lx⟩; have L2 := hid (LI.out.trans (Lx.mono LI.out.size)); have B2 := hid (B0.out.below Lx); have hw2 := Lx.size; clear Lx)
      go_ret
      exact ⟨rfl, L4.out⟩
theorem shaLong_w {w : World} (a0 : Int) (w0 : (Lit.int .u8 a0).wf = true) (a1 : Int) (_ : (Lit.int .i64 a1).wf = true) :
    Calls Try.prog 5 #[.int .u8 a0, .int .i64 a1] w fun e w' => e = .returned (.bool true) ∧ Below w.heap.size w w' := by
  have e : a0 = ub (BitVec.ofInt 8 a0) := by
    simp [Lit.wf, IntKind.min, IntKind.max, IntKind.signed, IntKind.bits] at w0
    unfold ub
    rw [BitVec.toNat_ofInt]
    have : (a0 % ((2 ^ 8 : Nat) : Int)) = a0 := by omega
    rw [this]; omega
  rw [e]
  exact long_walk _ a1 w
end Go.Proofs.Ytoegpjfpfhjbkaa
