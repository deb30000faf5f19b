/- How many bits of a word are set; the lowest one: the library's functions. -/
import Derived.Test.YtdmlldhlfofegaaDoorNew
import Derived.Test.YtdmlldhlfofegaaDoorPop
import Derived.Deep.CutRange
namespace Go.Proofs.YtdmlldhlfofegaaDoor
open Go.RowKit

theorem v_sh (a : W64) (r : Nat) : v a / (2 : Int) ^ r = v (a >>> r) := by
  have h1 : (2 : Int) ^ r = ((2 ^ r : Nat) : Int) := by simp
  rw [h1, v_shr]
theorem v_add (a b : W64) : (v a + v b) % (18446744073709551616 : Int) = v (a + b) := by
  unfold v; rw [BitVec.toNat_add]; omega
theorem v_wadd (a b : W64) : IntKind.u64.wrap (v a + v b) = v (a + b) := by
  rw [← v_add]; simp [IntKind.wrap, IntKind.bits, IntKind.signed]
theorem v_d (a : W64) (r : Nat) {p : Int} (hp : p = (2 : Int) ^ r) : v a / p = v (a >>> r) := by rw [hp, v_sh]
theorem s1 (a : W64) : IntKind.u64.wrap (bits .and .u64 (v a / 2) 6148914691236517205 + bits .and .u64 (v a) 6148914691236517205) = v ((a >>> 1 &&& 6148914691236517205#64) + (a &&& 6148914691236517205#64)) := by
  rw [v_d a 1 (p := 2) rfl, show (6148914691236517205 : Int) = v 6148914691236517205#64 from rfl, v_and, v_and, v_wadd]
theorem s2 (a : W64) : IntKind.u64.wrap (bits .and .u64 (v a / 4) 3689348814741910323 + bits .and .u64 (v a) 3689348814741910323) = v ((a >>> 2 &&& 3689348814741910323#64) + (a &&& 3689348814741910323#64)) := by
  rw [v_d a 2 (p := 4) rfl, show (3689348814741910323 : Int) = v 3689348814741910323#64 from rfl, v_and, v_and, v_wadd]
theorem s3 (a : W64) : bits .and .u64 (IntKind.u64.wrap (v a / 16 + v a)) 1085102592571150095 = v ((a >>> 4 + a) &&& 1085102592571150095#64) := by
  rw [v_d a 4 (p := 16) rfl, v_wadd, show (1085102592571150095 : Int) = v 1085102592571150095#64 from rfl, v_and]
theorem s4 (a : W64) (r : Nat) {p : Int} (hp : p = (2 : Int) ^ r) : IntKind.u64.wrap (v a + v a / p) = v (a + a >>> r) := by
  rw [v_d a r hp, v_wadd]
theorem s7 (a : W64) : bits .and .i64 (wrap64 (v a)) 127 = ((a.toNat % 128 : Nat) : Int) := by
  show IntKind.i64.wrap _ = _
  rw [show IntKind.i64.bits = 64 from rfl]
  have e1 : BitVec.ofInt 64 (wrap64 (v a)) = a := by
    apply BitVec.eq_of_toNat_eq
    rw [BitVec.toNat_ofInt]
    have := a.isLt
    unfold wrap64 v
    omega
  have e2 : BitVec.ofInt 64 (127 : Int) = 127#64 := rfl
  rw [e1, e2]
  have e3 : ((a &&& 127#64).toNat : Int) = ((a.toNat % 128 : Nat) : Int) := by
    rw [BitVec.toNat_and]
    congr 1
    exact Nat.and_two_pow_sub_one_eq_mod a.toNat 7
  have e4 : IntKind.i64.wrap ((a &&& 127#64).toNat : Int) = ((a.toNat % 128 : Nat) : Int) := by
    rw [e3, IntKind.wrap_i64]
    omega
  exact e4
theorem le_and (x m : Nat) : x &&& m ≤ m := Nat.and_le_right
/-- The steps of the count. -/
theorem ones_pc {a b c d e f g : W64} (hb : (a >>> 1 &&& 6148914691236517205#64) + (a &&& 6148914691236517205#64) = b) (hc : (b >>> 2 &&& 3689348814741910323#64) + (b &&& 3689348814741910323#64) = c) (hd : c >>> 4 + c &&& 1085102592571150095#64 = d)
    (he : d + d >>> 8 = e) (hf : e + e >>> 16 = f) (hg : f + f >>> 32 = g) : g.toNat % 128 = Pop.pc 64 a.toNat := by
  have b1 : b.toNat = (a.toNat / 2 &&& 6148914691236517205) + (a.toNat &&& 6148914691236517205) := by
    rw [← hb, BitVec.toNat_add, BitVec.toNat_and, BitVec.toNat_and, BitVec.toNat_ushiftRight, Nat.shiftRight_eq_div_pow]
    refine Nat.mod_eq_of_lt ?_
    have h1 := le_and (a.toNat / 2 ^ 1) 6148914691236517205
    have h2 := le_and a.toNat 6148914691236517205
    show (a.toNat / 2 ^ 1 &&& 6148914691236517205) + (a.toNat &&& 6148914691236517205) < 2 ^ 64
    omega
  have c1 : c.toNat = (b.toNat / 4 &&& 3689348814741910323) + (b.toNat &&& 3689348814741910323) := by
    rw [← hc, BitVec.toNat_add, BitVec.toNat_and, BitVec.toNat_and, BitVec.toNat_ushiftRight, Nat.shiftRight_eq_div_pow]
    refine Nat.mod_eq_of_lt ?_
    have h1 := le_and (b.toNat / 2 ^ 2) 3689348814741910323
    have h2 := le_and b.toNat 3689348814741910323
    show (b.toNat / 2 ^ 2 &&& 3689348814741910323) + (b.toNat &&& 3689348814741910323) < 2 ^ 64
    omega
  have c2 : c.toNat ≤ 7378697629483820646 := by
    have h1 := le_and (b.toNat / 4) 3689348814741910323
    have h2 := le_and b.toNat 3689348814741910323
    omega
  have d1 : d.toNat = (c.toNat / 16 + c.toNat) &&& 1085102592571150095 := by
    rw [← hd, BitVec.toNat_and, BitVec.toNat_add, BitVec.toNat_ushiftRight, Nat.shiftRight_eq_div_pow, Nat.mod_eq_of_lt (by omega)]
    rfl
  exact Pop.ones (x4 := e.toNat) (x5 := f.toNat) a.isLt b1 c1 d1 (by rw [← he, BitVec.toNat_add, BitVec.toNat_ushiftRight, Nat.shiftRight_eq_div_pow]) (by rw [← hf, BitVec.toNat_add, BitVec.toNat_ushiftRight, Nat.shiftRight_eq_div_pow]) (by rw [← hg, BitVec.toNat_add, BitVec.toNat_ushiftRight, Nat.shiftRight_eq_div_pow])
set_option maxRecDepth 100000 in
set_option maxHeartbeats 1000000 in
theorem ones_c (w : World) (a : W64) : Calls Tryd.prog 28 #[.int .u64 (v a)] w fun e w' => e = .returned (.int .i64 (Pop.pc 64 a.toNat)) ∧ w = w' := by
  have h0 := v_lo a
  have h1 := v_hi a
  go_enter Tryd.func28, Tryd.ntmps28
  go_upto_region 2 with fail
  rw [s1]
  generalize hb : (a >>> 1 &&& 6148914691236517205#64) + (a &&& 6148914691236517205#64) = b
  have HB := hid hb
  clear hb
  clear h0 h1
  have h0 := v_lo b
  have h1 := v_hi b
  go_upto_region 3 with fail
  rw [s2]
  generalize hc : (b >>> 2 &&& 3689348814741910323#64) + (b &&& 3689348814741910323#64) = c
  have HC := hid hc
  clear hc
  clear h0 h1
  have h0 := v_lo c
  have h1 := v_hi c
  go_upto_region 4 with fail
  rw [s3]
  generalize hd : (c >>> 4 + c) &&& 1085102592571150095#64 = d
  have HD := hid hd
  clear hd
  clear h0 h1
  have h0 := v_lo d
  have h1 := v_hi d
  go_upto_region 5 with fail
  rw [s4 d 8 (p := 256) rfl]
  generalize he : d + d >>> 8 = e
  have HE := hid he
  clear he
  clear h0 h1
  have h0 := v_lo e
  have h1 := v_hi e
  go_upto_region 6 with fail
  rw [s4 e 16 (p := 65536) rfl]
  generalize hf : e + e >>> 16 = f
  have HF := hid hf
  clear hf
  clear h0 h1
  have h0 := v_lo f
  have h1 := v_hi f
  go_upto_region 7 with fail
  rw [s4 f 32 (p := 4294967296) rfl]
  generalize hg : f + f >>> 32 = g
  have HG := hid hg
  clear hg
  clear h0 h1
  have h0 := v_lo g
  have h1 := v_hi g
  go_wp2
  go_ret
  exact ⟨ret_int (by rw [s7, ones_pc HB.out HC.out HD.out HE.out HF.out HG.out]), rfl⟩
/-- The lowest set bit alone. -/
theorem low_alone {a : W64} {r : Nat} (hr : r < 64) (h : a.getLsbD r = true) (hl : ∀ j, j < r → a.getLsbD j = false) : a &&& -a = 1#64 <<< r := by
  apply BitVec.eq_of_getLsbD_eq
  intro i hi
  rw [BitVec.getLsbD_and, BitVec.getLsbD_neg, one_bit _ _ hi]
  by_cases e : i = r
  · subst e
    have : ¬ ∃ j, j < i ∧ a.getLsbD j = true := fun ⟨j, h1, h2⟩ => by rw [hl j h1] at h2; cases h2
    simp [h, hi, this]
  · rw [decide_eq_false e]
    by_cases e2 : i < r
    · simp [hl i e2]
    · have : ∃ j, j < i ∧ a.getLsbD j = true := ⟨r, by omega, h⟩
      cases a.getLsbD i <;> simp [hi, this]
theorem v_mul (a b : W64) : IntKind.u64.wrap (v a * v b) = v (a * b) := by
  unfold v
  rw [BitVec.toNat_mul]
  generalize a.toNat = x
  generalize b.toNat = y
  simp [IntKind.wrap, IntKind.bits, IntKind.signed]
def idx (r : Nat) : Nat := (((1#64 <<< r) * 285870213051353865#64) >>> 58).toNat
theorem idx_lt (r : Nat) : idx r < 64 := by
  unfold idx
  have := ((1#64 <<< r) * 285870213051353865#64).isLt
  rw [BitVec.toNat_ushiftRight, Nat.shiftRight_eq_div_pow]
  omega
theorem v_neg (a : W64) : IntKind.u64.wrap (-(v a)) = v (-a) := by
  unfold v
  rw [BitVec.toNat_neg]
  have := a.isLt
  simp [IntKind.wrap, IntKind.bits, IntKind.signed]
  omega
theorem v_bru (a : W64) : IntKind.u64.wrap (v a * 285870213051353865) = v (a * 285870213051353865#64) := by
  rw [← v_mul, show v 285870213051353865#64 = (285870213051353865 : Int) from rfl]
theorem v_58 (a : W64) : v a / (288230376151711744 : Int) = (((a >>> 58).toNat : Nat) : Int) := by
  exact v_d a 58 (p := (288230376151711744 : Int)) rfl
/-- The walk, over numbers alone. -/
theorem tz_walk (w : World) {va vn vp vq : Int} {ix r : Nat} (hr : r < 64) (hc : w.cell? ⟨0, ix, none⟩ = some (.int .u8 r)) (i1 : ix < 64)
    (hne : (va == 0) = false) (e1 : IntKind.u64.wrap (-va) = vn) (e2 : bits .and .u64 va vn = vp) (e3 : IntKind.u64.wrap (vp * 285870213051353865) = vq) (e4 : vq / 288230376151711744 = (ix : Int)) :
    Calls Tryd.prog 31 #[.int .u64 va] w fun e w' => e = .returned (.int .i64 r) ∧ w = w' := by
  have i2 : (0 : Int) ≤ (ix : Int) := by omega
  have i3 : (ix : Int) < 64 := by omega
  go_enter Tryd.func31, Tryd.ntmps31
  go_upto_region 3 with fail
  go_wp2_with fail
  go_ret
  exact ⟨rfl, rfl⟩
/-- The library's table lies in its block. -/
def Tab (w : World) : Prop := ∀ r, r < 64 → w.cell? ⟨0, idx r, none⟩ = some (.int .u8 r)
theorem Tab.lt {w : World} (h : Tab w) : 0 < w.heap.size := by
  have := h 0 (by omega)
  by_cases hlt : 0 < w.heap.size
  · exact hlt
  · unfold World.cell? at this
    simp [Array.getElem?_eq_none (Nat.le_of_not_lt hlt)] at this
theorem Tab.below {w w' : World} {B : Nat} (h : Tab w) (hb : Below B w w') (hB : 0 < B) : Tab w' := fun r hr => (hb.cell (p := ⟨0, idx r, none⟩) hB).trans (h r hr)
theorem Tab.mod {w w' : World} {S : Nat → Prop} (h : Tab w) (m : Mod S w w') (hs : ¬ S 0) : Tab w' := fun r hr => (World.cell?_of_block (w := w) (m.block 0 h.lt hs)).trans (h r hr)
theorem tz_c {w : World} (T : Tab w) (a : W64) (r : Nat) (hr : r < 64) (h : a.getLsbD r = true) (hl : ∀ j, j < r → a.getLsbD j = false) : Calls Tryd.prog 31 #[.int .u64 (v a)] w fun e w' => e = .returned (.int .i64 r) ∧ w = w' :=
  tz_walk w (vn := v (-a)) (vp := v (1#64 <<< r)) hr (T r hr) (idx_lt r) (beq_eq_false_iff_ne.2 (fun e => by
    have := v_zero.1 e
    subst this; simp at h)) (v_neg a) (by rw [v_and, low_alone hr h hl]) (v_bru _) (v_58 _)
end Go.Proofs.YtdmlldhlfofegaaDoor
