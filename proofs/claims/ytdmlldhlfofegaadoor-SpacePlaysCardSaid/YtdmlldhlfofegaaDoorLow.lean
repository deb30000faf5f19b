/- The lowest sector that is free. -/
import Derived.Test.YtdmlldhlfofegaaDoorFree
namespace Go.Proofs.YtdmlldhlfofegaaDoor
open Go.RowKit

theorem v_not (a : W64) : bits .xor .u64 IntKind.u64.max (v a) = v (~~~ a) := by
  have e : IntKind.u64.max = v (BitVec.allOnes 64) := by decide
  rw [e]
  show IntKind.u64.wrap _ = _
  rw [show IntKind.u64.bits = 64 from rfl, v_ofInt, v_ofInt]
  rw [show BitVec.allOnes 64 ^^^ a = ~~~ a from BitVec.allOnes_xor]
  exact wrap_v _
theorem v_not' (a : W64) : bits .xor .u64 (if IntKind.u64.signed = true then -1 else IntKind.u64.max) (v a) = v (~~~ a) := v_not a
set_option maxRecDepth 100000 in
set_option maxHeartbeats 2000000 in
theorem low_c {w : World} {b : Nat} {n : Int} {X : Nat → W64} (M : MapAt w b n X) (T : Tab w) (i : Nat) (hi : i < 512) (hu : used X i = false) (hl : ∀ j, j < i → used X j = true) : Calls Tryd.prog 29 #[.pointer (some ⟨b, 0, none⟩)] w fun e w' => e = .returned (.int .i64 i) ∧ w = w' := by
  have c1 : w.cell? ⟨b, 1, none⟩ = some (.int .u64 (v (X 0))) := M.word (k := 0) (by omega)
  have c2 : w.cell? ⟨b, 2, none⟩ = some (.int .u64 (v (X 1))) := M.word (k := 1) (by omega)
  have c3 : w.cell? ⟨b, 3, none⟩ = some (.int .u64 (v (X 2))) := M.word (k := 2) (by omega)
  have c4 : w.cell? ⟨b, 4, none⟩ = some (.int .u64 (v (X 3))) := M.word (k := 3) (by omega)
  have c5 : w.cell? ⟨b, 5, none⟩ = some (.int .u64 (v (X 4))) := M.word (k := 4) (by omega)
  have c6 : w.cell? ⟨b, 6, none⟩ = some (.int .u64 (v (X 5))) := M.word (k := 5) (by omega)
  have c7 : w.cell? ⟨b, 7, none⟩ = some (.int .u64 (v (X 6))) := M.word (k := 6) (by omega)
  have c8 : w.cell? ⟨b, 8, none⟩ = some (.int .u64 (v (X 7))) := M.word (k := 7) (by omega)
  have HU := hid hu
  have HL := hid hl
  have HT := hid T
  clear M hu hl T
  go_enter Tryd.func29, Tryd.ntmps29
  go_wp2_with fail
  clear c1 c2 c3 c4 c5 c6 c7 c8
  go_loop [3, 4, 9] (fun _ _ v9 => ∃ k : Nat, k ≤ i / 64 ∧ v9 = .int .i64 k) (fun _ _ v9 => (8 - intOf v9).toNat)
  case atStart => exact ⟨0, by omega, rfl⟩
  case round =>
    obtain ⟨k, hk, rfl⟩ := hrel
    have hk8 : k < 8 := by omega
    have hx := words_at X k hk8 w
    have n1 := v_not (X k)
    have n2 := v_not' (X k)
    by_cases hlt : k < i / 64
    · have hz : X k = BitVec.allOnes 64 := by
        apply BitVec.eq_of_getLsbD_eq
        intro j hj
        have := HL.out (64 * k + j) (by omega)
        unfold used at this
        rw [show (64 * k + j) / 64 = k by omega, show (64 * k + j) % 64 = j by omega] at this
        rw [this, BitVec.getLsbD_allOnes]; simp [hj]
      have hb : (v (~~~ X k) != 0) = false := by rw [hz]; decide
      clear hz
      generalize v (~~~ X k) = y at *
      go_wp2_with fail
      go_round
      case measure => simp [intOf]; omega
      case rel => exact ⟨k + 1, by omega, by go_num⟩
    · have hk2 : k = i / 64 := by omega
      have hbit : (~~~ X k).getLsbD (i % 64) = true := by
        have := HU.out
        unfold used at this
        rw [hk2, BitVec.getLsbD_not, this]; simp; omega
      have hlow : ∀ j, j < i % 64 → (~~~ X k).getLsbD j = false := fun j hj => by
        have := HL.out (64 * k + j) (by omega)
        unfold used at this
        rw [show (64 * k + j) / 64 = k by omega, show (64 * k + j) % 64 = j by omega] at this
        rw [BitVec.getLsbD_not, this]; simp
      have hb : (v (~~~ X k) != 0) = true := by
        rw [bne_iff_ne]
        intro e
        rw [v_zero.1 e] at hbit
        simp at hbit
      have C := hid (fun w' (T : Tab w') => tz_c T (~~~ X k) (i % 64) (by omega) hbit hlow)
      have HK := hid (show k * 64 + i % 64 = i by omega)
      clear hbit hlow hk2 hlt
      generalize v (~~~ X k) = y at *
      go_wp2_with (go_at_call 31; refine (C.out _ HT.out).mono ?_; rintro e w' ⟨rfl, rfl⟩)
      go_ret
      exact ⟨ret_int (by have := HK.out; omega), rfl⟩
end Go.Proofs.YtdmlldhlfofegaaDoor
