/- A number out of a text's digits: the document. -/
import Derived.Test.YthlggjchgngefaaDigits
namespace Go.Proofs.Ythlggjchgngefaa
open Go.RowKit

/-- A part of a text. -/
def seg (s : ByteArray) (at_ k : Nat) : List UInt8 := (s.data.toList.drop at_).take k
theorem seg_succ {s : ByteArray} {at_ k : Nat} (h : at_ + k < s.size) : seg s at_ (k + 1) = seg s at_ k ++ [s[at_ + k]] := by
  unfold seg
  have hl : k < (s.data.toList.drop at_).length := by simp; exact (by have : s.data.size = s.size := rfl; omega)
  rw [List.take_succ_eq_append_getElem hl]
  congr 2
  simp
  rfl
theorem num_snoc (l : List UInt8) (c : UInt8) (n : Int) : Cal.num (l ++ [c]) n = (Cal.num l n).bind fun x => if 48 ≤ c.toNat ∧ c.toNat ≤ 57 then some (x * 10 + ((c.toNat : Int) - 48)) else none := by
  rw [Cal.num_append]
  congr 1
theorem num_none (a b : List UInt8) (n : Int) (h : Cal.num a n = none) : Cal.num (a ++ b) n = none := by rw [Cal.num_append, h]; rfl
theorem seg_le {s : ByteArray} {at_ k m : Nat} (h : k ≤ m) : ∃ r, seg s at_ m = seg s at_ k ++ r := by
  unfold seg
  refine ⟨((s.data.toList.drop at_).drop k).take (m - k), ?_⟩
  rw [← List.take_add, show k + (m - k) = m by omega]
def numOr (o : Option Int) : Int := o.getD (-100000)
set_option maxRecDepth 100000 in
set_option maxHeartbeats 1000000 in
theorem number_c (w : World) (s : ByteArray) (at_ many : Nat) (hs : s.size = 19) (ha : at_ + many ≤ 19) (hm : many ≤ 4) :
    Calls Try.prog 29 #[.string s, .int .i64 at_, .int .i64 many] w fun e w' => e = .returned (.int .i64 (numOr (Cal.num (seg s at_ many) 0))) ∧ w = w' := by
  have HS := hid hs
  have hsl : at_ + many ≤ s.size := by omega
  have hsu : s.size ≤ 19 := by omega
  clear hs
  go_enter Try.func29, Try.ntmps29
  go_wp2
  go_loop [7, 8] (fun v7 v8 => ∃ (k : Nat) (x : Int), k ≤ many ∧ v8 = .int .i64 ((at_ : Int) + k) ∧ v7 = .int .i64 x ∧ 0 ≤ x ∧ x < 10 ^ k ∧ Hid (Cal.num (seg s at_ k) 0 = some x)) (fun _ v8 => 40 - (intOf v8).toNat)
  case atStart => exact ⟨0, 0, by omega, by simp, rfl, by omega, by simp, hid rfl⟩
  case round =>
    obtain ⟨k, x, hk, rfl, rfl, hx0, hx1, HX⟩ := hrel
    have hx2 : x < 10000 := by
      have : k = 0 ∨ k = 1 ∨ k = 2 ∨ k = 3 ∨ k = 4 := by omega
      rcases this with rfl | rfl | rfl | rfl | rfl <;> simp at hx1 <;> omega
    have HX1 := hid hx1
    clear hx1
    by_cases hlt : k < many
    · have hlt' : at_ + k < s.size := by omega
      have HN := hid (num_snoc (seg s at_ k) s[at_ + k] 0)
      have HS1 := hid (seg_succ hlt')
      by_cases hc : 48 ≤ s[at_ + k].toNat ∧ s[at_ + k].toNat ≤ 57
      · have HC := hid hc
        obtain ⟨hc1, hc2⟩ := hc
        go_wp2
        all_goals first | (exfalso; omega) | skip
        go_round
        case measure => simp [intOf]; omega
        case rel =>
          refine ⟨k + 1, x * 10 + ((s[at_ + k].toNat : Int) - 48), by omega, by rw [show ((k + 1 : Nat) : Int) = (k : Int) + 1 by omega, Int.add_assoc], rfl, by omega, ?_, hid ?_⟩
          · have := HX1.out
            rw [Int.pow_succ]; omega
          · rw [HS1.out, HN.out, HX.out]
            simp only [Option.bind_some, if_pos HC.out]
      · have HR := hid (show numOr (Cal.num (seg s at_ many) 0) = -100000 by
          obtain ⟨r, hr⟩ := seg_le (s := s) (at_ := at_) (k := k + 1) (m := many) (by omega)
          rw [hr, num_none _ _ _ (by rw [HS1.out, HN.out, HX.out]; simp only [Option.bind_some, if_neg hc])]
          rfl)
        have hc' : s[at_ + k].toNat < 48 ∨ 57 < s[at_ + k].toNat := by omega
        clear hc
        go_wp2
        all_goals first | (exfalso; omega) | skip
        all_goals
          go_ret
          exact ⟨ret_int HR.out.symm, rfl⟩
    · have : k = many := by omega
      subst this
      go_wp2
      go_ret
      exact ⟨ret_int (by rw [HX.out]; rfl), rfl⟩
end Go.Proofs.Ythlggjchgngefaa
