/- The plain law of frames: what was framed is opened, parsed, heard. -/
import Derived.Test.YtkehejkjifgieaaRcvH
import Derived.Test.YtkehejkjifgieaaSndH
namespace Go.Proofs.Ytkehejkjifgieaa

theorem sum_take (x : List W8) : (sumB x).take ((sumB x).length - 4) = x := by
  rw [sumB_length, Nat.add_sub_cancel]; unfold sumB; rw [List.take_left]
theorem sum_drop (x : List W8) : (sumB x).drop ((sumB x).length - 4) = (shaL x).take 4 := by
  rw [sumB_length, Nat.add_sub_cancel]; unfold sumB; rw [List.drop_left]
theorem opens_sum {x : List W8} (h : 1 ≤ x.length) : opens (sumB x) := ⟨by rw [sumB_length]; omega, by rw [sum_take, sum_drop]⟩
theorem takeN_two {n : Nat} (h : 128 ≤ n) (h2 : n < 16384) (rest : List W8) : takeN (leb n ++ rest) = (0, n, 2) := by
  have hl : leb n = [BitVec.ofNat 8 (n % 128 + 128), BitVec.ofNat 8 (n / 128)] := by
    unfold leb
    rw [lebF_big (by omega), lebF_small (by omega)]
  rw [hl]
  have hb0 : (BitVec.ofNat 8 (n % 128 + 128) : W8).toNat = n % 128 + 128 := byte_small (by omega)
  have hb1 : (BitVec.ofNat 8 (n / 128) : W8).toNat = n / 128 := byte_small (by omega)
  have hm : min ([BitVec.ofNat 8 (n % 128 + 128), BitVec.ofNat 8 (n / 128)] ++ rest : List W8).length 10 = min rest.length 8 + 2 := by simp; omega
  unfold takeN
  rw [hm]
  show (if (BitVec.ofNat 8 (n % 128 + 128) : W8).toNat < 128 then _ else (if (BitVec.ofNat 8 (n / 128) : W8).toNat < 128 then _ else _)) = _
  rw [hb0, if_neg (by omega), hb1, if_pos (by omega), if_pos (Or.inr ⟨by show (BitVec.ofNat 8 (n / 128) : W8).toNat ≠ 0; rw [hb1]; omega, Or.inl (by decide)⟩)]
  have : val ([BitVec.ofNat 8 (n % 128 + 128), BitVec.ofNat 8 (n / 128)] ++ rest : List W8) 2 = n := by
    show ((0 + (BitVec.ofNat 8 (n % 128 + 128) : W8).toNat % 128 * 2 ^ (7 * 0)) % 18446744073709551616 + (BitVec.ofNat 8 (n / 128) : W8).toNat % 128 * 2 ^ (7 * 1)) % 18446744073709551616 = n
    rw [hb0, hb1]; simp; omega
  rw [this]
theorem leb_two {n : Nat} (h : 128 ≤ n) (h2 : n < 16384) : (leb n).length = 2 := by
  unfold leb
  rw [lebF_big (by omega), lebF_small (by omega)]; rfl
theorem leb_one {n : Nat} (h : n < 128) : (leb n).length = 1 := by
  unfold leb
  rw [lebF_small h]; rfl
theorem takeStr_put (m : List W8) (h : m.length ≤ 500) : takeStr 500 (leb m.length ++ m) = (0, m, []) := by
  have key : takeN (leb m.length ++ m) = (0, m.length, (leb m.length).length) := by
    by_cases h1 : m.length < 128
    · rw [leb_one h1]; exact takeN_small h1 m
    · rw [leb_two (by omega) (by omega)]; exact takeN_two (by omega) (by omega) m
  unfold takeStr
  rw [key]
  simp only [if_true, List.drop_left, List.take_length, List.drop_length, Nat.le_refl]
  rw [if_neg (by omega)]
theorem parse_data {p : Nat} {m : List W8} (hp : p < 4294967296) (hm : m.length ≤ 500) : parseB (dataB p m) = (0, p, m) := by
  unfold parseB dataB
  rw [if_pos (opens_sum (by unfold dataX; simp)), sum_take]
  have hd : (dataX p m).drop 1 = le32 p ++ (leb m.length ++ m) := by unfold dataX; simp
  have h4 : ((dataX p m).drop 1).drop 4 = leb m.length ++ m := by rw [hd]; exact List.drop_left' (le32_length p)
  unfold parseX
  rw [h4, takeStr_put m hm, hd, un32_le32 hp]
  rw [if_pos ⟨rfl, by rw [List.length_append, le32_length]; omega, rfl, rfl⟩]
theorem ack_ack {n : Nat} (hn : n < 4294967296) : ackN (ackB n) = (0, n) := by
  unfold ackN ackB
  rw [if_pos (opens_sum (by rw [ackX_length]; decide)), sum_take, if_pos ⟨ackX_length n, rfl⟩]
  have : (ackX n).drop 1 = le32 n ++ [] := by unfold ackX; simp
  rw [this, un32_le32 hn]
theorem opens_nil : ¬ opens [] := fun h => by have := h.1; simp at this
theorem parse_nil : parseB [] = (14, 0, []) := if_neg opens_nil
theorem dataB_length (p : Nat) (m : List W8) : (dataB p m).length ≤ m.length + 24 := by
  unfold dataB
  rw [sumB_length]
  have := dataX_length p m
  omega
theorem ackB_length (n : Nat) : (ackB n).length = 9 := by unfold ackB; rw [sumB_length]; rfl
end Go.Proofs.Ytkehejkjifgieaa
