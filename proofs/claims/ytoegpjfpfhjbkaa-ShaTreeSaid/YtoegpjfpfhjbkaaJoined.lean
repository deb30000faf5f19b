/- The document's Joined at parts of 32 bytes each. -/
import Derived.Test.YtoegpjfpfhjbkaaTreeDef
namespace Go.Proofs.Ytoegpjfpfhjbkaa
open Go.RowKit Go.ChangeMaps

theorem flat_len32 {X : Nat → List W8} {n : Nat} (h : ∀ i, i < n → (X i).length = 32) : ∀ k, k ≤ n → (flat X k).length = 32 * k
  | 0, _ => rfl
  | k + 1, hk => by simp only [flat, List.length_append]; rw [flat_len32 h k (by omega), h k (by omega)]; omega
set_option maxRecDepth 100000 in
set_option maxHeartbeats 2000000 in
theorem joined_c {w : World} {p : Option Addr} {n cap : Nat} {X : Nat → List W8} (hP : Parts w p n X) (hX : ∀ i, i < n → (X i).length = 32) (hn : n ≤ 100) :
    Calls Try.prog 29 #[.slice p n cap] w fun e w' => ∃ v', e = .returned v' ∧ Bytes w' v' (flat X n) ∧ Below w.heap.size w w' := by
  obtain ⟨i0, hi, hz0, hz1, hz2⟩ := info_parts info5
  have HP := hid hP
  have HX := hid hX
  have HFL := hid (flat_len32 hX)
  have O0 := hid (show (w.alloc (.cells #[] 5)).ownsRow w.heap.size 5 1 (.slice (some ⟨w.heap.size, 0, none⟩) 0 0) (flat X 0).length (byv (flat X 0)) from row_empty (Blk.new w #[] 5) (Nat.le_refl _))
  have L0 := hid ((Below.refl w.heap.size w).alloc (Nat.le_refl _) (.cells #[] 5))
  clear hP hX
  go_enter Try.func29, Try.ntmps29
  go_wp2
  go_loopg [3, 4] n (fun g v3 v4 wr => ∃ k : Nat, v4 = .int .i64 k ∧ g = n - k ∧ k ≤ n ∧ Hid (wr.ownsRow w.heap.size 5 1 v3 (flat X k).length (byv (flat X k))) ∧ Hid (Below w.heap.size w wr))
  case atStart => exact ⟨0, rfl, rfl, by omega, O0, L0⟩
  case round =>
    obtain ⟨k, rfl, hg, hk, O, L⟩ := hrel
    obtain ⟨p3, c3, e3⟩ := own_slice O.out
    subst e3
    by_cases hkn : k < n
    · obtain ⟨b, off, V, hp, h2, h3, h4, h5⟩ := HP.out k hkn
      subst hp
      have c0 : wr.cell? ⟨b, off + k, none⟩ = some V := (L.out.cell h2).trans h3
      have hlen := HX.out k hkn
      obtain ⟨pv, cv, hV, hsrc⟩ := h4
      obtain ⟨bv, ov, hpv, hbv, _⟩ := hsrc (by omega)
      have h4' : Bytes w V (X k) := ⟨pv, cv, hV, hsrc⟩
      have HV := hid (h4'.below L.out)
      subst hpv
      subst hV
      have hby := hid (show (byv (X k)).length = (X k).length * 1 by rw [byv_length]; omega)
      have hfk := HFL.out k hk
      obtain ⟨m, hm⟩ : ∃ m, m = (flat X k).length := ⟨_, rfl⟩
      rw [← hm] at hfk
      have HM := hid hm
      rw [← hm] at O ⊢
      have hxl : (X k).length ≤ 32 := by omega
      have hown := hid (show bv < wr.heap.size from Nat.lt_of_lt_of_le hbv L.out.size)
      clear h3 hsrc h4' hlen hm
      go_wp2_with (at_builtin; refine wpList_append_own_at _ rfl (.tmp 12) (.tmp 16) 22 rfl w.heap.size 5 i0 (.int .u8 0) 1 1 rfl hi hz0 hz1 hz2 rfl (by decide) _ m (byv (flat X k)) rfl O.out ⟨bv, ov, none⟩ (X k).length cv (byv (X k)) rfl hby.out (bytes_at HV.out) (byv_one (X k)) (by unfold maxLen; omega) (by omega) (by have := L.out.size; omega) ?_; intro v5 w5 hown5 hg5 _ _; have M5 := hid (Mod.of_grown (S := fun kk => w.heap.size ≤ kk) hg5 (fun kk hk => (own_lt O.out kk hk).1)); have O5 := hid hown5; clear hown5 hg5)
      go_roundg (n - (k + 1))
      case measure => omega
      case rel => exact ⟨k + 1, by go_num, rfl, by omega, hid (by have := O5.out; rw [show (flat X (k + 1)) = flat X k ++ X k from rfl, byv_append, List.length_append, ← HM.out]; exact this), hid (L.out.trans (M5.out.below L.out.size (fun c hc h => by omega)))⟩
    · have hkn' : k = n := by omega
      subst hkn'
      go_wp2
      go_ret
      exact ⟨_, rfl, own_bytes rfl O.out, L.out⟩
end Go.Proofs.Ytoegpjfpfhjbkaa
