/- A map as it is written. -/
import Derived.Test.YtdmlldhlfofegaaDoorActs
namespace Go.Proofs.YtdmlldhlfofegaaDoor
open Go.RowKit

abbrev W8 := BitVec 8
def ub (b : W8) : Int := (b.toNat : Int)
/-- Byte i of the words. -/
def bt (X : Nat → W64) (i : Nat) : W8 := (X (i / 8) >>> (8 * (i % 8))).setWidth 8
theorem bt_bit (X : Nat → W64) (i j : Nat) (hj : j < 8) : (bt X i).getLsbD j = used X (8 * i + j) := by
  unfold bt used
  rw [BitVec.getLsbD_setWidth, decide_eq_true hj, Bool.true_and, BitVec.getLsbD_ushiftRight]
  congr 2 <;> omega
theorem bt_eq (X : Nat → W64) (i : Nat) : v (X (i / 8)) / (2 : Int) ^ (8 * (i % 8)) % 256 = ub (bt X i) := by
  unfold ub bt
  rw [BitVec.toNat_setWidth, v_d (X (i / 8)) (8 * (i % 8)) rfl]
  unfold v
  omega
theorem info5 : (Tryd.prog.info? 5).map (fun i => (i.zero, i.size, i.bytes)) = some (some (.int .u8 0), 1, 1) := by kernel_rfl
theorem made64 : ∃ C : Array Value, C.size = 64 ∧ (∀ j, j < 64 → C[j]? = some (.int .u8 0)) ∧ ∀ W : World, (Instr.makeSlice 44 (.int .i64 64) (.int .i64 64)).run Tryd.prog W = .ok (.slice (some ⟨W.heap.size, 0, none⟩) 64 64) (W.alloc (.cells C 5)) := by
  obtain ⟨i0, hi, hz0, hz1, hz2⟩ := info_parts info5
  refine ⟨madeCells (Value.int .u8 0).cells (64 * 1), by simp [size_madeCells], fun j hj => ?_, fun W => ?_⟩
  · simp [madeCells, Value.cells, hj, Nat.mod_one]
  · have := run_makeSlice (P := Tryd.prog) W 44 5 i0 (.int .u8 0) Tryd.underlying44 hi hz0 .i64 .i64 64 64 (by omega) (by omega) (by rw [hz1]; omega) (by rw [hz2]; omega) (by omega)
    rw [this, hz1]; simp
theorem fn_grow {wr : World} {b i n : Nat} {T : TypeId} {f : Nat → Value} {z : Value} (F : Fn wr b T n (fun j => if j < i then f j else z)) : Fn (wr.setCell ⟨b, i, none⟩ (f i)) b T n (fun j => if j < i + 1 then f j else z) := by
  refine (F.set i (f i)).congr (fun j hj => ?_)
  unfold set1
  by_cases e : j = i
  · subst e; rw [if_pos rfl, if_pos (by omega)]
  · rw [if_neg e]
    dsimp only
    by_cases e2 : j < i
    · rw [if_pos e2, if_pos (by omega)]
    · rw [if_neg e2, if_neg (by omega)]
set_option maxRecDepth 100000 in
set_option maxHeartbeats 2000000 in
theorem bytes_c {w : World} {b n : Nat} {X : Nat → W64} (M : MapAt w b n X) : Calls Tryd.prog 16 #[.pointer (some ⟨b, 0, none⟩)] w fun e w' => e = .returned (.slice (some ⟨w.heap.size, 0, none⟩) 64 64) ∧ Fn w' w.heap.size 5 64 (fun j => .int .u8 (ub (bt X j))) ∧ Below w.heap.size w w' := by
  obtain ⟨C, hC1, hC2, hmk⟩ := made64
  have hb := Fn.lt M
  have F0 := hid (Fn.new w C 5 (n := 64) (f := fun _ => .int .u8 0) hC1 hC2)
  have L0 := hid ((Below.refl w.heap.size w).alloc (Nat.le_refl _) (.cells C 5))
  have HM := hid M
  clear M hC1 hC2
  go_enter Tryd.func16, Tryd.ntmps16
  go_wp2
  go_loopg [4, 10] 64 (fun g _ v10 wr => ∃ i : Nat, v10 = .int .i64 i ∧ g = 64 - i ∧ i ≤ 64 ∧ Hid (Fn wr w.heap.size 5 64 (fun j => if j < i then .int .u8 (ub (bt X j)) else .int .u8 0)) ∧ Hid (Below w.heap.size w wr))
  case atStart => exact ⟨0, rfl, rfl, by omega, hid (F0.out.congr (fun j hj => by rw [if_neg (by omega)])), L0⟩
  case round =>
    obtain ⟨i, rfl, hg, hi, FI, LI⟩ := hrel
    by_cases hi64 : i < 64
    · have c0 : wr.cell? ⟨w.heap.size, i, none⟩ = some (.int .u8 0) := by have := FI.out.cell hi64; rwa [if_neg (Nat.lt_irrefl _)] at this
      have f0 : wr.frozen? ⟨w.heap.size, i, none⟩ = false := FI.out.frozen _
      have c1 : wr.cell? ⟨b, 1 + i / 8, none⟩ = some (.int .u64 (v (X (i / 8)))) := (LI.out.cell hb).trans (HM.out.word (by omega))
      have m0 : (0 : Int) ≤ (i : Int) := Int.natCast_nonneg _
      have m1 : (i : Int) < 64 := by omega
      go_wp2
      rw [bt_eq]
      go_roundg (64 - (i + 1))
      case measure => omega
      case rel => exact ⟨i + 1, by go_num, rfl, by omega, hid (fn_grow (f := fun j => .int .u8 (ub (bt X j))) FI.out), hid (LI.out.trans (((Mod.refl (fun c => c = w.heap.size) wr).setCell (p := ⟨w.heap.size, i, none⟩) (fun _ => rfl) _).below (B := w.heap.size) LI.out.size (fun c hc e => by omega)))⟩
    · have hi2 : i = 64 := by omega
      subst hi2
      clear hg hi
      go_wp2
      go_ret
      exact ⟨rfl, FI.out.congr (fun j hj => by rw [if_pos hj]), LI.out⟩
end Go.Proofs.YtdmlldhlfofegaaDoor
