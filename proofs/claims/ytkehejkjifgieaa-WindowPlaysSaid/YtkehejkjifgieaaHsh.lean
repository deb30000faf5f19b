/- Hashes as lists of bytes; whole numbers of four bytes; bytes.Equal, num.Put32, num.Take32, num.TakeString. -/
import Derived.Test.YtkehejkjifgieaaNum4
import Derived.Test.YtkehejkjifgieaaNumLaw
import Derived.Test.YtkehejkjifgieaaStr
import Derived.Test.YtkehejkjifgieaaPieces
import Derived.Test.YtkehejkjifgieaaShaAlive
import Derived.IntWalk
namespace Go.Proofs.Ytkehejkjifgieaa
open Go.RowKit Go.ChangeMaps

theorem at_op {P : Program} {ops : Array Oper} {rest : List Oper} {op : Oper} {a : Act} {w : World} {Q : Exit → Act → World → Prop} (x : Op) (_ : op.op = x) (k : wpList P ops Q (op :: rest) a w) : wpList P ops Q (op :: rest) a w := k
def zero32 : List W8 := List.replicate 32 0
/-- The hash of bytes, as bytes. -/
def shaL (xs : List W8) : List W8 := (List.range 32).map (shaB xs)
theorem shaL_length (xs : List W8) : (shaL xs).length = 32 := by simp [shaL]
def hl32 (xs : List W8) : Array Value := arr 32 (fun i => .int .u8 (ub (xs.getD i 0)))
theorem hl32_size (xs : List W8) : (hl32 xs).size = 32 := arr_size _ _
theorem hl32_get (xs : List W8) {j : Nat} (h : j < 32) : (hl32 xs)[j]? = some (.int .u8 (ub (xs.getD j 0))) := arr_get _ _ h
theorem zero32_get (i : Nat) : zero32.getD i 0 = 0 := by
  unfold zero32
  rw [List.getD_eq_getElem?_getD, List.getElem?_replicate]
  split <;> rfl
set_option maxRecDepth 100000 in
theorem zero_h32 (W : World) : (zeroValue 101).run Try.prog W = .ok (.agg (hl32 zero32)) W := by
  have : hl32 zero32 = arr 32 (fun _ => .int .u8 0) := arr_congr (fun i _ => by rw [zero32_get]; rfl)
  rw [this]; rfl
theorem hl32_one (xs : List W8) : (hl32 xs).all (·.oneCell') = true := by
  unfold hl32 arr
  simp [Value.oneCell']
theorem hl32_info (ys : List W8) : (Try.prog.info? 101).map (·.size) = some (hl32 ys).size := by rw [hl32_size]; kernel_rfl
theorem bytes_range {w : World} {b o : Nat} {xs : List W8} (hl : xs.length = 32) (hb : b < w.heap.size) (h : w.rangeAt b o (hl32 xs).toList) : Bytes w (.slice (some ⟨b, o, none⟩) 32 32) xs :=
  ⟨_, 32, by rw [hl], fun _ => ⟨b, o, rfl, hb, by omega, by unfold maxLen; omega, fun i hi => h i _ (by rw [Array.getElem?_toList]; exact hl32_get _ (by omega))⟩⟩
theorem Bytes.lt {w : World} {v : Value} {xs : List W8} (h : Bytes w v xs) (h0 : 0 < xs.length) : ∀ k, v.ownBlock = some k → k < w.heap.size := by
  obtain ⟨p, cap, rfl, hc⟩ := h
  obtain ⟨b, off, rfl, h1, _⟩ := hc h0
  intro k hk
  have : b = k := Option.some.inj hk
  omega
theorem Mod.cells (w : World) (b : Nat) (o : Nat) (vs : List Value) : Mod (fun k => k = b) w (w.setCells b o vs) := Mod.setCells (S := fun k => k = b) vs o w (Mod.refl _ w) (fun _ => rfl)
theorem shaL_hl (xs : List W8) : arr 32 (fun i => .int .u8 (ub (shaB xs i))) = hl32 (shaL xs) :=
  arr_congr (fun i hi => by rw [List.getD_eq_getElem?_getD]; simp [shaL, hi])
theorem shaSum_l {w : World} {v : Value} {xs : List W8} (hv : Bytes w v xs) (hbig : xs.length < 100000000) :
    Calls Try.prog 41 #[v] w fun e w' => e = .returned (.agg (hl32 (shaL xs))) ∧ Below w.heap.size w w' := by
  have := shaSum_c0 hv hv.lt hbig
  rwa [shaL_hl] at this
/-- A hash laid in a variable of its own. -/
theorem hash_laid {w w' : World} {ys : List W8} (h : w' = (w.alloc (.cells (hl32 zero32) 101)).setCells w.heap.size 0 (hl32 ys).toList) (hl : ys.length = 32) :
    Below w.heap.size w w' ∧ Bytes w' (.slice (some ⟨w.heap.size, 0, none⟩) 32 32) ys := by
  have F : Fn w' w.heap.size 101 32 (fun j => .int .u8 (ub (ys.getD j 0))) := by
    rw [h]; exact (Fn.new w (hl32 zero32) 101 (hl32_size _) (fun j hj => hl32_get _ hj)).storeAll (fun j => .int .u8 (ub (ys.getD j 0)))
  have M : Mod (fun k => k = w.heap.size) w w' := by rw [h]; exact ((Mod.refl _ w).alloc _).trans (Mod.cells _ _ _ _)
  exact ⟨M.below (Nat.le_refl _) (fun k hk e => by omega), bytes_range hl (Fn.lt F) (F.range' (hl32 ys) (hl32_size _) (fun j hj => hl32_get _ hj))⟩
theorem hash_there {w : World} (ys : List W8) : (w.alloc (.cells (hl32 zero32) 101)).there w.heap.size 0 (hl32 ys).size := by
  rw [hl32_size]; exact (Fn.new w (hl32 zero32) 101 (hl32_size _) (fun j hj => hl32_get _ hj)).there 0 32 (by decide)
theorem Bytes.take' {w : World} {xs : List W8} {p : Option Addr} {cap : Nat} (h : Bytes w (.slice p xs.length cap) xs) (k : Nat) (hk : k ≤ xs.length) : Bytes w (.slice p k cap) (xs.take k) := by
  cases p with
  | some ad => exact h.take k hk
  | none =>
    rcases bytes_nil_or h with ⟨c, e, e2⟩ | ⟨ad, c, e⟩
    · subst e2
      have : k = 0 := by simpa using hk
      subst this
      exact ⟨none, cap, by simp, fun h0 => by simp at h0⟩
    · cases e

/-- A whole number, as four bytes, the last ones first. -/
def le32 (n : Nat) : List W8 := [BitVec.ofNat 8 n, BitVec.ofNat 8 (n / 256), BitVec.ofNat 8 (n / 65536), BitVec.ofNat 8 (n / 16777216)]
def un32 (xs : List W8) : Nat := (xs.getD 0 0).toNat + (xs.getD 1 0).toNat * 256 + (xs.getD 2 0).toNat * 65536 + (xs.getD 3 0).toNat * 16777216
theorem le32_length (n : Nat) : (le32 n).length = 4 := rfl
theorem un32_lt (xs : List W8) : un32 xs < 4294967296 := by
  have h0 := (xs.getD 0 0).isLt
  have h1 := (xs.getD 1 0).isLt
  have h2 := (xs.getD 2 0).isLt
  have h3 := (xs.getD 3 0).isLt
  unfold un32; omega
theorem un32_le32 {n : Nat} (h : n < 4294967296) (ys : List W8) : un32 (le32 n ++ ys) = n := by
  unfold un32 le32
  simp [BitVec.toNat_ofNat]
  omega
theorem ub_of (n : Nat) : ub (BitVec.ofNat 8 n) = (n : Int) % 256 := by unfold ub; rw [BitVec.toNat_ofNat]; omega
theorem or_add {a b : W32} {k : Nat} (h : a.toNat < 2 ^ k) (hb : b.toNat * 2 ^ k < 4294967296) : (a ||| (b <<< k)).toNat = a.toNat + b.toNat * 2 ^ k := by
  rw [BitVec.toNat_or, BitVec.toNat_shiftLeft, Nat.shiftLeft_eq, Nat.mod_eq_of_lt hb, Nat.or_comm, ← Nat.shiftLeft_eq, ← Nat.shiftLeft_add_eq_or_of_lt h, Nat.shiftLeft_eq]
  omega
theorem z_toNat (b : W8) : (z b).toNat = b.toNat := by unfold z; rw [BitVec.toNat_setWidth]; have := b.isLt; omega
theorem un32_or (a b c d : W8) : bits BinOp.or .u32 (bits BinOp.or .u32 (bits BinOp.or .u32 (ub a % 4294967296) (ub b % 4294967296 * 256 % 4294967296)) (ub c % 4294967296 * 65536 % 4294967296)) (ub d % 4294967296 * 16777216 % 4294967296) = ((a.toNat + b.toNat * 256 + c.toNat * 65536 + d.toNat * 16777216 : Nat) : Int) := by
  have e1 := u_shl (z b) 8
  have e2 := u_shl (z c) 16
  have e3 := u_shl (z d) 24
  simp only [Nat.reducePow, Int.cast_ofNat_Int] at e1 e2 e3
  have ha := a.isLt; have hb := b.isLt; have hc := c.isLt; have hd := d.isLt
  rw [ub_wrap, ub_wrap, ub_wrap, ub_wrap, e1, e2, e3, u_or, u_or, u_or]
  have s1 : (z a ||| z b <<< 8).toNat = a.toNat + b.toNat * 256 := by rw [or_add (by rw [z_toNat]; omega) (by rw [z_toNat]; omega), z_toNat, z_toNat]
  have s2 : (z a ||| z b <<< 8 ||| z c <<< 16).toNat = a.toNat + b.toNat * 256 + c.toNat * 65536 := by rw [or_add (by rw [s1]; omega) (by rw [z_toNat]; omega), s1, z_toNat]
  have s3 : (z a ||| z b <<< 8 ||| z c <<< 16 ||| z d <<< 24).toNat = a.toNat + b.toNat * 256 + c.toNat * 65536 + d.toNat * 16777216 := by rw [or_add (by rw [s2]; omega) (by rw [z_toNat]; omega), s2, z_toNat]
  unfold u; rw [s3]
set_option maxRecDepth 100000 in
set_option maxHeartbeats 1000000 in
theorem equal_c {w : World} {v v' : Value} {xs ys : List W8} (hB : Bytes w v xs) (hC : Bytes w v' ys) :
    Calls Try.prog 42 #[v, v'] w fun e w' => e = .returned (.bool (decide (xs = ys))) ∧ w' = w := by
  have h1 := conv_str' hB
  have h2 := conv_str' hC
  have h3 := str_beq xs ys
  obtain ⟨p, c, rfl, _⟩ := hB
  obtain ⟨p', c', rfl, _⟩ := hC
  go_enter Try.func42, Try.ntmps42
  go_wp2
  go_ret
  exact ⟨rfl, rfl⟩
set_option maxRecDepth 100000 in
set_option maxHeartbeats 1000000 in
theorem put32_c {w : World} {v : Value} {xs : List W8} (hB : Bytes w v xs) (hl : xs.length ≤ 99000) (n : Nat) (hn : n < 4294967296) :
    Calls Try.prog 38 #[v, .int .u32 n] w fun e w' => ∃ v', e = .returned v' ∧ Ow w' w.heap.size v' (xs ++ le32 n) ∧ Below w.heap.size w w' := by
  have HB := hid hB
  obtain ⟨px, cx, rfl, _⟩ := hB
  have e8 : (n : Int) / 256 < 4294967296 := by omega
  go_enter Try.func38, Try.ntmps38
  go_wp2_with (first
    | (go_at_call 52; refine (grown_c HB.out (by omega) 4 (by decide)).mono ?_; rintro e w1 ⟨v1, rfl, O1, L1⟩; have O1' := hid O1; have L1' := hid L1; clear O1 L1)
    | (at_builtin; refine wpList_app rfl (.tmp 6) (.tmp 18) rfl rfl rfl (O1'.out.alloc _) (Bytes.lit w1 _ (le32 n) (by simp [byv, le32, ub_of]; omega) (by rw [le32_length]; decide)) (by rw [le32_length]; omega) (by have := L1'.out.size; simp; omega) ?_; intro v5 w5 O5 M5 _; have O5' := hid O5; have L5' := hid (M5.own_below (O1'.out.alloc _) (by have := L1'.out.size; simp; omega) (L1'.out.alloc L1'.out.size _)); clear O5 M5))
  go_ret
  exact ⟨_, rfl, O5'.out, L5'.out⟩
set_option maxRecDepth 100000 in
set_option maxHeartbeats 1000000 in
theorem take32_c {w : World} {v : Value} {xs : List W8} (hX : Bytes w v xs) (hl : xs.length ≤ 100000) :
    Calls Try.prog 28 #[v] w fun e w' => (if 4 ≤ xs.length then ∃ v2, e = .returned (.tuple #[.int .u32 (un32 xs : Int), v2, .int .i64 0]) ∧ Ow w' w.heap.size v2 (xs.drop 4) else e = .returned (.tuple #[.int .u32 0, .slice none 0 0, .int .i64 2])) ∧ Below w.heap.size w w' := by
  have CT := hid (takeBytes_c hX hl 4 (by decide))
  obtain ⟨px, cx, rfl, _⟩ := hX
  by_cases h4 : 4 ≤ xs.length
  · have HT := hid (show (xs.take 4).length = 4 by rw [List.length_take]; omega)
    have HG := hid (fun i (hi : i < 4) => show (xs.take 4).getD i 0 = xs.getD i 0 by rw [List.getD_eq_getElem?_getD, List.getD_eq_getElem?_getD, List.getElem?_take_of_lt hi])
    simp only [if_pos h4] at CT ⊢
    have HU := hid (un32_or (xs.getD 0 0) (xs.getD 1 0) (xs.getD 2 0) (xs.getD 3 0))
    obtain ⟨a, ha⟩ : ∃ a, a = ub (xs.getD 0 0) := ⟨_, rfl⟩
    obtain ⟨b, hb⟩ : ∃ a, a = ub (xs.getD 1 0) := ⟨_, rfl⟩
    obtain ⟨c, hc⟩ : ∃ a, a = ub (xs.getD 2 0) := ⟨_, rfl⟩
    obtain ⟨d, hd⟩ : ∃ a, a = ub (xs.getD 3 0) := ⟨_, rfl⟩
    rw [← ha, ← hb, ← hc, ← hd] at HU
    have A := hid ha; have B := hid hb; have C := hid hc; have D := hid hd
    clear ha hb hc hd
    go_enter Try.func28, Try.ntmps28
    go_upto_region 4 with (go_at_call 43; refine CT.out.mono ?_; rintro e w1 ⟨⟨v1, v2, rfl, O1, O2⟩, hb1⟩; have P1 := hid O1; have P2 := hid O2; have L1 := hid hb1; clear O1 O2 hb1)
    obtain ⟨p1, c1, e1, hq⟩ := P1.out.bytes
    obtain ⟨g, off, e2, _, hc, _, hS⟩ := hq (by rw [HT.out]; decide)
    rw [HT.out] at hc
    subst e1 e2
    have c0 : w1.cell? ⟨g, off, none⟩ = some (.int .u8 a) := by have := hS 0 (by rw [HT.out]; decide); rw [HG.out 0 (by decide), ← A.out] at this; exact this
    have c1 : w1.cell? ⟨g, off + 1, none⟩ = some (.int .u8 b) := by have := hS 1 (by rw [HT.out]; decide); rw [HG.out 1 (by decide), ← B.out] at this; exact this
    have c2 : w1.cell? ⟨g, off + 2, none⟩ = some (.int .u8 c) := by have := hS 2 (by rw [HT.out]; decide); rw [HG.out 2 (by decide), ← C.out] at this; exact this
    have c3 : w1.cell? ⟨g, off + 3, none⟩ = some (.int .u8 d) := by have := hS 3 (by rw [HT.out]; decide); rw [HG.out 3 (by decide), ← D.out] at this; exact this
    rw [HT.out]
    clear hS hq
    go_region
    go_wp2
    rw [HU.out]
    go_ret3
    exact ⟨⟨_, rfl, P2.out.of_block (fun _ _ => rfl)⟩, L1.out.drew⟩
  · simp only [if_neg h4] at CT ⊢
    go_enter Try.func28, Try.ntmps28
    go_wp2_with (go_at_call 43; refine CT.out.mono ?_; rintro e w1 ⟨rfl, hb1⟩; have L1 := hid hb1; clear hb1)
    go_ret3
    exact ⟨rfl, L1.out⟩
end Go.Proofs.Ytkehejkjifgieaa
