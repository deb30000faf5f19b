/- Words as numbers, and turning a word. -/
import Derived.Test.YtkehejkjifgieaaBase
import Derived.Test.YtkehejkjifgieaaRows
import Derived.BigRegion
import Derived.BigQuiet
import Derived.Deep.LoopGhost
namespace Go.Proofs.Ytkehejkjifgieaa
open Go.RowKit Go.ChangeMaps

abbrev W32 := BitVec 32
def rotr (x : W32) (n : Nat) : W32 := (x >>> n) ||| (x <<< (32 - n))
/-- A word as the number that a cell holds. -/
def u (a : W32) : Int := (a.toNat : Int)
theorem u_ofInt (a : W32) : BitVec.ofInt 32 (u a) = a := by
  apply BitVec.eq_of_toNat_eq
  simp [u]
theorem u_lo (a : W32) : 0 ≤ u a := by unfold u; omega
theorem u_hi (a : W32) : u a < 4294967296 := by have := a.isLt; unfold u; omega
theorem wrap_u (a : W32) : IntKind.u32.wrap (a.toNat : Int) = u a := by
  have := a.isLt
  simp [IntKind.wrap, IntKind.bits, IntKind.signed, u]; omega
theorem u_and (a b : W32) : bits .and .u32 (u a) (u b) = u (a &&& b) := by
  show IntKind.u32.wrap _ = _
  rw [show IntKind.u32.bits = 32 from rfl, u_ofInt, u_ofInt]; exact wrap_u _
theorem u_or (a b : W32) : bits .or .u32 (u a) (u b) = u (a ||| b) := by
  show IntKind.u32.wrap _ = _
  rw [show IntKind.u32.bits = 32 from rfl, u_ofInt, u_ofInt]; exact wrap_u _
theorem u_xor (a b : W32) : bits .xor .u32 (u a) (u b) = u (a ^^^ b) := by
  show IntKind.u32.wrap _ = _
  rw [show IntKind.u32.bits = 32 from rfl, u_ofInt, u_ofInt]; exact wrap_u _
theorem u_add (a b : W32) : (u a + u b) % (4294967296 : Int) = u (a + b) := by
  unfold u; rw [BitVec.toNat_add]; omega
theorem u_shr (a : W32) (n : Nat) : u a / ((2 ^ n : Nat) : Int) = u (a >>> n) := by
  unfold u; rw [BitVec.toNat_ushiftRight, Nat.shiftRight_eq_div_pow]; omega
theorem u_shl (a : W32) (n : Nat) : u a * ((2 ^ n : Nat) : Int) % (4294967296 : Int) = u (a <<< n) := by
  unfold u; rw [BitVec.toNat_shiftLeft, Nat.shiftLeft_eq]; omega
theorem u_not (a : W32) : bits .xor .u32 (u a) 4294967295 = u (~~~ a) := by
  have : (4294967295 : Int) = u (BitVec.allOnes 32) := by decide
  rw [this, u_xor, BitVec.xor_allOnes]

theorem rot_eq (x : W32) (n : Nat) (_ : n ≤ 32) {p q : Int} (hp : p = ((2 ^ n : Nat) : Int)) (hq : q = ((2 ^ (32 - n) : Nat) : Int)) : bits .or .u32 (u x * q % (4294967296 : Int)) (u x / p) = u (rotr x n) := by
  subst hp; subst hq
  rw [u_shr, u_shl, u_or]; unfold rotr; rw [BitVec.or_comm]
theorem rot_eq' (x : W32) (n : Nat) (_ : n ≤ 32) {p q : Int} (hp : p = ((2 ^ n : Nat) : Int)) (hq : q = ((2 ^ (32 - n) : Nat) : Int)) : bits .or .u32 (u x / p) (u x * q % (4294967296 : Int)) = u (rotr x n) := by
  subst hp; subst hq
  rw [u_shr, u_shl, u_or]; rfl

theorem rotl2 (w : World) (x : W32) : Calls Try.prog 81 #[.int .u32 (u x), .int .i64 (-2)] w fun e w' => e = .returned (.int .u32 (u (rotr x 2))) ∧ w' = w := by
  have hb : bits .and .u64 (IntKind.u64.wrap (-2)) 31 = 30 := by decide
  go_enter Try.func81, Try.ntmps81
  go_wp2
  go_ret
  exact ⟨by rw [← rot_eq x 2 (by decide) rfl rfl]; rfl, rfl⟩
theorem rotl6 (w : World) (x : W32) : Calls Try.prog 81 #[.int .u32 (u x), .int .i64 (-6)] w fun e w' => e = .returned (.int .u32 (u (rotr x 6))) ∧ w' = w := by
  have hb : bits .and .u64 (IntKind.u64.wrap (-6)) 31 = 26 := by decide
  go_enter Try.func81, Try.ntmps81
  go_wp2
  go_ret
  exact ⟨by rw [← rot_eq x 6 (by decide) rfl rfl]; rfl, rfl⟩
theorem rotl7 (w : World) (x : W32) : Calls Try.prog 81 #[.int .u32 (u x), .int .i64 (-7)] w fun e w' => e = .returned (.int .u32 (u (rotr x 7))) ∧ w' = w := by
  have hb : bits .and .u64 (IntKind.u64.wrap (-7)) 31 = 25 := by decide
  go_enter Try.func81, Try.ntmps81
  go_wp2
  go_ret
  exact ⟨by rw [← rot_eq x 7 (by decide) rfl rfl]; rfl, rfl⟩
theorem rotl11 (w : World) (x : W32) : Calls Try.prog 81 #[.int .u32 (u x), .int .i64 (-11)] w fun e w' => e = .returned (.int .u32 (u (rotr x 11))) ∧ w' = w := by
  have hb : bits .and .u64 (IntKind.u64.wrap (-11)) 31 = 21 := by decide
  go_enter Try.func81, Try.ntmps81
  go_wp2
  go_ret
  exact ⟨by rw [← rot_eq x 11 (by decide) rfl rfl]; rfl, rfl⟩
theorem rotl13 (w : World) (x : W32) : Calls Try.prog 81 #[.int .u32 (u x), .int .i64 (-13)] w fun e w' => e = .returned (.int .u32 (u (rotr x 13))) ∧ w' = w := by
  have hb : bits .and .u64 (IntKind.u64.wrap (-13)) 31 = 19 := by decide
  go_enter Try.func81, Try.ntmps81
  go_wp2
  go_ret
  exact ⟨by rw [← rot_eq x 13 (by decide) rfl rfl]; rfl, rfl⟩
theorem rotl17 (w : World) (x : W32) : Calls Try.prog 81 #[.int .u32 (u x), .int .i64 (-17)] w fun e w' => e = .returned (.int .u32 (u (rotr x 17))) ∧ w' = w := by
  have hb : bits .and .u64 (IntKind.u64.wrap (-17)) 31 = 15 := by decide
  go_enter Try.func81, Try.ntmps81
  go_wp2
  go_ret
  exact ⟨by rw [← rot_eq x 17 (by decide) rfl rfl]; rfl, rfl⟩
theorem rotl18 (w : World) (x : W32) : Calls Try.prog 81 #[.int .u32 (u x), .int .i64 (-18)] w fun e w' => e = .returned (.int .u32 (u (rotr x 18))) ∧ w' = w := by
  have hb : bits .and .u64 (IntKind.u64.wrap (-18)) 31 = 14 := by decide
  go_enter Try.func81, Try.ntmps81
  go_wp2
  go_ret
  exact ⟨by rw [← rot_eq x 18 (by decide) rfl rfl]; rfl, rfl⟩
theorem rotl19 (w : World) (x : W32) : Calls Try.prog 81 #[.int .u32 (u x), .int .i64 (-19)] w fun e w' => e = .returned (.int .u32 (u (rotr x 19))) ∧ w' = w := by
  have hb : bits .and .u64 (IntKind.u64.wrap (-19)) 31 = 13 := by decide
  go_enter Try.func81, Try.ntmps81
  go_wp2
  go_ret
  exact ⟨by rw [← rot_eq x 19 (by decide) rfl rfl]; rfl, rfl⟩
theorem rotl22 (w : World) (x : W32) : Calls Try.prog 81 #[.int .u32 (u x), .int .i64 (-22)] w fun e w' => e = .returned (.int .u32 (u (rotr x 22))) ∧ w' = w := by
  have hb : bits .and .u64 (IntKind.u64.wrap (-22)) 31 = 10 := by decide
  go_enter Try.func81, Try.ntmps81
  go_wp2
  go_ret
  exact ⟨by rw [← rot_eq x 22 (by decide) rfl rfl]; rfl, rfl⟩
theorem rotl25 (w : World) (x : W32) : Calls Try.prog 81 #[.int .u32 (u x), .int .i64 (-25)] w fun e w' => e = .returned (.int .u32 (u (rotr x 25))) ∧ w' = w := by
  have hb : bits .and .u64 (IntKind.u64.wrap (-25)) 31 = 7 := by decide
  go_enter Try.func81, Try.ntmps81
  go_wp2
  go_ret
  exact ⟨by rw [← rot_eq x 25 (by decide) rfl rfl]; rfl, rfl⟩
theorem turn2 (w : World) (x : W32) : Calls Try.prog 78 #[.int .u32 (u x), .int .u64 2] w fun e w' => e = .returned (.int .u32 (u (rotr x 2))) ∧ w' = w := by
  go_enter Try.func78, Try.ntmps78
  go_wp2
  go_ret
  exact ⟨by rw [← rot_eq' x 2 (by decide) rfl rfl]; rfl, rfl⟩
theorem turn6 (w : World) (x : W32) : Calls Try.prog 78 #[.int .u32 (u x), .int .u64 6] w fun e w' => e = .returned (.int .u32 (u (rotr x 6))) ∧ w' = w := by
  go_enter Try.func78, Try.ntmps78
  go_wp2
  go_ret
  exact ⟨by rw [← rot_eq' x 6 (by decide) rfl rfl]; rfl, rfl⟩
theorem turn7 (w : World) (x : W32) : Calls Try.prog 78 #[.int .u32 (u x), .int .u64 7] w fun e w' => e = .returned (.int .u32 (u (rotr x 7))) ∧ w' = w := by
  go_enter Try.func78, Try.ntmps78
  go_wp2
  go_ret
  exact ⟨by rw [← rot_eq' x 7 (by decide) rfl rfl]; rfl, rfl⟩
theorem turn11 (w : World) (x : W32) : Calls Try.prog 78 #[.int .u32 (u x), .int .u64 11] w fun e w' => e = .returned (.int .u32 (u (rotr x 11))) ∧ w' = w := by
  go_enter Try.func78, Try.ntmps78
  go_wp2
  go_ret
  exact ⟨by rw [← rot_eq' x 11 (by decide) rfl rfl]; rfl, rfl⟩
theorem turn13 (w : World) (x : W32) : Calls Try.prog 78 #[.int .u32 (u x), .int .u64 13] w fun e w' => e = .returned (.int .u32 (u (rotr x 13))) ∧ w' = w := by
  go_enter Try.func78, Try.ntmps78
  go_wp2
  go_ret
  exact ⟨by rw [← rot_eq' x 13 (by decide) rfl rfl]; rfl, rfl⟩
theorem turn17 (w : World) (x : W32) : Calls Try.prog 78 #[.int .u32 (u x), .int .u64 17] w fun e w' => e = .returned (.int .u32 (u (rotr x 17))) ∧ w' = w := by
  go_enter Try.func78, Try.ntmps78
  go_wp2
  go_ret
  exact ⟨by rw [← rot_eq' x 17 (by decide) rfl rfl]; rfl, rfl⟩
theorem turn18 (w : World) (x : W32) : Calls Try.prog 78 #[.int .u32 (u x), .int .u64 18] w fun e w' => e = .returned (.int .u32 (u (rotr x 18))) ∧ w' = w := by
  go_enter Try.func78, Try.ntmps78
  go_wp2
  go_ret
  exact ⟨by rw [← rot_eq' x 18 (by decide) rfl rfl]; rfl, rfl⟩
theorem turn19 (w : World) (x : W32) : Calls Try.prog 78 #[.int .u32 (u x), .int .u64 19] w fun e w' => e = .returned (.int .u32 (u (rotr x 19))) ∧ w' = w := by
  go_enter Try.func78, Try.ntmps78
  go_wp2
  go_ret
  exact ⟨by rw [← rot_eq' x 19 (by decide) rfl rfl]; rfl, rfl⟩
theorem turn22 (w : World) (x : W32) : Calls Try.prog 78 #[.int .u32 (u x), .int .u64 22] w fun e w' => e = .returned (.int .u32 (u (rotr x 22))) ∧ w' = w := by
  go_enter Try.func78, Try.ntmps78
  go_wp2
  go_ret
  exact ⟨by rw [← rot_eq' x 22 (by decide) rfl rfl]; rfl, rfl⟩
theorem turn25 (w : World) (x : W32) : Calls Try.prog 78 #[.int .u32 (u x), .int .u64 25] w fun e w' => e = .returned (.int .u32 (u (rotr x 25))) ∧ w' = w := by
  go_enter Try.func78, Try.ntmps78
  go_wp2
  go_ret
  exact ⟨by rw [← rot_eq' x 25 (by decide) rfl rfl]; rfl, rfl⟩
theorem rotl_c (w : World) (x : W32) (y : Int) (hy : y = -2 ∨ y = -6 ∨ y = -7 ∨ y = -11 ∨ y = -13 ∨ y = -17 ∨ y = -18 ∨ y = -19 ∨ y = -22 ∨ y = -25) :
    Calls Try.prog 81 #[.int .u32 (u x), .int .i64 y] w fun e w' => e = .returned (.int .u32 (u (rotr x (-y).toNat))) ∧ w' = w := by
  rcases hy with rfl | rfl | rfl | rfl | rfl | rfl | rfl | rfl | rfl | rfl
  · exact rotl2 w x
  · exact rotl6 w x
  · exact rotl7 w x
  · exact rotl11 w x
  · exact rotl13 w x
  · exact rotl17 w x
  · exact rotl18 w x
  · exact rotl19 w x
  · exact rotl22 w x
  · exact rotl25 w x
theorem turn_c (w : World) (x : W32) (y : Int) (hy : y = 2 ∨ y = 6 ∨ y = 7 ∨ y = 11 ∨ y = 13 ∨ y = 17 ∨ y = 18 ∨ y = 19 ∨ y = 22 ∨ y = 25) :
    Calls Try.prog 78 #[.int .u32 (u x), .int .u64 y] w fun e w' => e = .returned (.int .u32 (u (rotr x y.toNat))) ∧ w' = w := by
  rcases hy with rfl | rfl | rfl | rfl | rfl | rfl | rfl | rfl | rfl | rfl
  · exact turn2 w x
  · exact turn6 w x
  · exact turn7 w x
  · exact turn11 w x
  · exact turn13 w x
  · exact turn17 w x
  · exact turn18 w x
  · exact turn19 w x
  · exact turn22 w x
  · exact turn25 w x
theorem u_sh3 (a : W32) : u a / (8 : Int) = u (a >>> 3) := by have := u_shr a 3; simpa using this
theorem u_sh10 (a : W32) : u a / (1024 : Int) = u (a >>> 10) := by have := u_shr a 10; simpa using this
end Go.Proofs.Ytkehejkjifgieaa
