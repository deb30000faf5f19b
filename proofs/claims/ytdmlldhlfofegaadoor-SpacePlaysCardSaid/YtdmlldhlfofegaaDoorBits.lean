/- Words of 64 bits, and a map's bits in them. -/
import Derived.Test.YtdmlldhlfofegaaDoorFn
import Derived.Test.YtdmlldhlfofegaaDoorRows
import Derived.BigQuiet
import Derived.BigRegion
import Derived.Deep.LoopGhost
namespace Go.Proofs.YtdmlldhlfofegaaDoor
open Go.RowKit

abbrev W64 := BitVec 64
def v (a : W64) : Int := (a.toNat : Int)
theorem v_lo (a : W64) : 0 ≤ v a := by unfold v; omega
theorem v_hi (a : W64) : v a < 18446744073709551616 := by have := a.isLt; unfold v; omega
theorem v_ofInt (a : W64) : BitVec.ofInt 64 (v a) = a := by
  apply BitVec.eq_of_toNat_eq
  simp [v]
theorem wrap_v (a : W64) : IntKind.u64.wrap (a.toNat : Int) = v a := by
  have := a.isLt
  simp [IntKind.wrap, IntKind.bits, IntKind.signed, v]; omega
theorem v_and (a b : W64) : bits .and .u64 (v a) (v b) = v (a &&& b) := by
  show IntKind.u64.wrap _ = _
  rw [show IntKind.u64.bits = 64 from rfl, v_ofInt, v_ofInt]; exact wrap_v _
theorem v_or (a b : W64) : bits .or .u64 (v a) (v b) = v (a ||| b) := by
  show IntKind.u64.wrap _ = _
  rw [show IntKind.u64.bits = 64 from rfl, v_ofInt, v_ofInt]; exact wrap_v _
theorem v_andNot (a b : W64) : bits .andNot .u64 (v a) (v b) = v (a &&& ~~~ b) := by
  show IntKind.u64.wrap _ = _
  rw [show IntKind.u64.bits = 64 from rfl, v_ofInt, v_ofInt]; exact wrap_v _
theorem v_one (r : Nat) (h : r < 64) : IntKind.u64.wrap ((2 : Int) ^ r) = v (1#64 <<< r) := by
  have h1 : (2 : Int) ^ r = ((2 ^ r : Nat) : Int) := by simp
  have h2 : 2 ^ r < 2 ^ 64 := Nat.pow_lt_pow_right (by omega) h
  rw [h1]
  unfold v
  rw [BitVec.toNat_shiftLeft, Nat.shiftLeft_eq]
  simp [IntKind.wrap, IntKind.bits, IntKind.signed]
theorem v_shr (a : W64) (n : Nat) : v a / ((2 ^ n : Nat) : Int) = v (a >>> n) := by
  unfold v; rw [BitVec.toNat_ushiftRight, Nat.shiftRight_eq_div_pow]; omega
theorem v_zero {a : W64} : v a = 0 ↔ a = 0#64 := by
  unfold v
  constructor
  · intro h; apply BitVec.eq_of_toNat_eq; simp; omega
  · rintro rfl; rfl
theorem v_bit (a : W64) (r : Nat) : v ((a >>> r) &&& 1#64) = if a.getLsbD r then 1 else 0 := by
  have h : (a >>> r) &&& 1#64 = if a.getLsbD r then 1#64 else 0#64 := by
    apply BitVec.eq_of_getLsbD_eq
    intro i hi
    rw [BitVec.getLsbD_and, BitVec.getLsbD_ushiftRight]
    by_cases e : i = 0
    · subst e
      cases a.getLsbD r <;> simp
    · have h1 : (1#64).getLsbD i = false := by simp [e]
      rw [h1, Bool.and_false]
      cases a.getLsbD r <;> simp [e]
  rw [h]
  split <;> rfl
theorem bit_test (a : W64) (r : Nat) : (bits .and .u64 (v a / (2 : Int) ^ r) 1 != 0) = a.getLsbD r := by
  have h1 : (2 : Int) ^ r = ((2 ^ r : Nat) : Int) := by simp
  rw [h1, v_shr, show (1 : Int) = v 1#64 from rfl, v_and, v_bit]
  cases a.getLsbD r <;> rfl
/-- Is a sector used? -/
def used (X : Nat → W64) (i : Nat) : Bool := (X (i / 64)).getLsbD (i % 64)
def put1 (X : Nat → W64) (k : Nat) (a : W64) : Nat → W64 := fun j => if j = k then a else X j
def setX (X : Nat → W64) (i : Nat) : Nat → W64 := put1 X (i / 64) (X (i / 64) ||| 1#64 <<< (i % 64))
def clrX (X : Nat → W64) (i : Nat) : Nat → W64 := put1 X (i / 64) (X (i / 64) &&& ~~~ (1#64 <<< (i % 64)))
theorem one_bit (r j : Nat) (hj : j < 64) : (1#64 <<< r).getLsbD j = decide (j = r) := by
  rw [BitVec.getLsbD_shiftLeft]
  by_cases e : j = r
  · subst e; simp [hj]
  · rw [decide_eq_false e]
    by_cases e2 : j < r
    · simp [e2]
    · have : (1#64).getLsbD (j - r) = false := by simp; omega
      rw [this, Bool.and_false]
theorem used_set (X : Nat → W64) (i j : Nat) : used (setX X i) j = (used X j || decide (j = i)) := by
  unfold used setX put1
  by_cases e : j / 64 = i / 64
  · rw [if_pos e, BitVec.getLsbD_or, one_bit _ _ (by omega), e]
    congr 1
    apply decide_eq_decide.2
    omega
  · rw [if_neg e, decide_eq_false (by rintro rfl; exact e rfl), Bool.or_false]
theorem used_clr (X : Nat → W64) (i j : Nat) : used (clrX X i) j = (used X j && !decide (j = i)) := by
  unfold used clrX put1
  by_cases e : j / 64 = i / 64
  · rw [if_pos e, BitVec.getLsbD_and, BitVec.getLsbD_not, one_bit _ _ (by omega), e]
    have : decide (j % 64 < 64) = true := by simp; omega
    rw [this, Bool.true_and]
    congr 2
    apply decide_eq_decide.2
    omega
  · rw [if_neg e, decide_eq_false (by rintro rfl; exact e rfl)]; simp
/-- A map lies at block b. -/
def MapAt (w : World) (b : Nat) (n : Int) (X : Nat → W64) : Prop := Fn w b 64 9 (fun j => if j = 0 then .int .i64 n else .int .u64 (v (X (j - 1))))
theorem MapAt.word {w : World} {b : Nat} {n : Int} {X : Nat → W64} (M : MapAt w b n X) {k : Nat} (hk : k < 8) : w.cell? ⟨b, 1 + k, none⟩ = some (.int .u64 (v (X k))) := by
  have := M.cell (j := 1 + k) (by omega)
  rw [if_neg (by omega), show 1 + k - 1 = k by omega] at this; exact this
theorem MapAt.len {w : World} {b : Nat} {n : Int} {X : Nat → W64} (M : MapAt w b n X) : w.cell? ⟨b, 0, none⟩ = some (.int .i64 n) := M.cell (j := 0) (by omega)
theorem MapAt.put {w : World} {b : Nat} {n : Int} {X : Nat → W64} (M : MapAt w b n X) (k : Nat) (a : W64) : MapAt (w.setCell ⟨b, 1 + k, none⟩ (.int .u64 (v a))) b n (put1 X k a) := by
  refine (Fn.set M (1 + k) _).congr (fun j hj => ?_)
  unfold set1 put1
  dsimp only
  by_cases e : j = 1 + k
  · subst e; rw [if_pos rfl, if_neg (by omega), if_pos (by omega)]
  · rw [if_neg e]
    by_cases e0 : j = 0
    · rw [if_pos e0, if_pos e0]
    · rw [if_neg e0, if_neg e0, if_neg (by omega)]

set_option maxRecDepth 100000 in
set_option maxHeartbeats 1000000 in
theorem set_c {w : World} {b : Nat} {n : Int} {X : Nat → W64} (M : MapAt w b n X) (i : Nat) (hi : i < 512) : Calls Tryd.prog 30 #[.pointer (some ⟨b, 0, none⟩), .int .i64 i] w fun e w' => e = .returned (.tuple #[]) ∧ MapAt w' b n (setX X i) ∧ Mod (fun k => k = b) w w' := by
  have c : w.cell? ⟨b, 1 + i / 64, none⟩ = some (.int .u64 (v (X (i / 64)))) := M.word (by omega)
  have f : w.frozen? ⟨b, 1 + i / 64, none⟩ = false := M.frozen _
  have HM := hid M
  clear M
  go_enter Tryd.func30, Tryd.ntmps30
  go_region
  go_end0
  rw [v_one _ (by omega), v_or]
  exact ⟨rfl, (HM.out.put (i / 64) _).of_block rfl, ((Mod.refl (fun k => k = b) w).setCell (p := ⟨b, 1 + i / 64, none⟩) (fun _ => rfl) _).drew⟩
theorem len_c {w : World} {b : Nat} {n : Int} {X : Nat → W64} (M : MapAt w b n X) : Calls Tryd.prog 25 #[.pointer (some ⟨b, 0, none⟩)] w fun e w' => e = .returned (.int .i64 n) ∧ w = w' := by
  have c := M.len
  clear M
  go_enter Tryd.func25, Tryd.ntmps25
  go_wp2
  go_ret
  exact ⟨rfl, rfl⟩
theorem len_nil (w : World) : Calls Tryd.prog 25 #[.pointer none] w fun e w' => e = .returned (.int .i64 0) ∧ w = w' := by
  go_enter Tryd.func25, Tryd.ntmps25
  go_wp2
  go_ret
  exact ⟨rfl, rfl⟩
end Go.Proofs.YtdmlldhlfofegaaDoor
