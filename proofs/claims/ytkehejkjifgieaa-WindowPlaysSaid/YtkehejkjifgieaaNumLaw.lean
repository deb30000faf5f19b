/- Short numbers: what is read loosely is right just if it is put so. -/
import Derived.Test.YtkehejkjifgieaaNum4
namespace Go.Proofs.Ytkehejkjifgieaa

/-- The number that sevens say, however great. -/
def sev : List W8 → Nat
  | [] => 0
  | y :: ys => y.toNat % 128 + 128 * sev ys
theorem sev_append (a b : List W8) : sev (a ++ b) = sev a + 128 ^ a.length * sev b := by
  induction a with
  | nil => simp [sev]
  | cons y a ih =>
    show y.toNat % 128 + 128 * sev (a ++ b) = y.toNat % 128 + 128 * sev a + 128 ^ (a.length + 1) * sev b
    rw [ih, Nat.pow_succ, Nat.mul_add, Nat.mul_comm (128 ^ a.length) 128, Nat.mul_assoc]
    omega
theorem sev_lt (a : List W8) : sev a < 128 ^ a.length := by
  induction a with
  | nil => simp [sev]
  | cons y a ih =>
    show y.toNat % 128 + 128 * sev a < 128 ^ (a.length + 1)
    rw [Nat.pow_succ]
    have : y.toNat % 128 < 128 := Nat.mod_lt _ (by decide)
    omega
theorem byte_small {n : Nat} (h : n < 256) : (BitVec.ofNat 8 n : W8).toNat = n := by rw [BitVec.toNat_ofNat]; omega
/-- Sevens that are whole but the last one, which is not none. -/
inductive Canon : List W8 → Prop
  | one (c : W8) : c.toNat < 128 → Canon [c]
  | more (y : W8) (ys : List W8) : 128 ≤ y.toNat → Canon ys → 1 ≤ sev ys → Canon (y :: ys)
theorem lebF_canon {ys : List W8} (h : Canon ys) : ∀ f, ys.length ≤ f + 1 → lebF f (sev ys) = ys := by
  induction h with
  | one c hc =>
    intro f _
    have e : sev [c] = c.toNat := by simp [sev]; omega
    rw [e, lebF_small hc, BitVec.ofNat_toNat, BitVec.setWidth_eq]
  | more y ys hy hc h1 ih =>
    intro f hf
    have hl : 1 ≤ ys.length := by cases hc <;> simp
    obtain ⟨f', rfl⟩ : ∃ f', f = f' + 1 := ⟨f - 1, by simp at hf; omega⟩
    have e : sev (y :: ys) = y.toNat % 128 + 128 * sev ys := rfl
    rw [e, lebF_big (by omega)]
    have h2 : (y.toNat % 128 + 128 * sev ys) / 128 = sev ys := by omega
    have h3 : (y.toNat % 128 + 128 * sev ys) % 128 + 128 = y.toNat := by have := y.isLt; omega
    rw [h2, h3, ih f' (by simp at hf; omega), BitVec.ofNat_toNat, BitVec.setWidth_eq]
theorem sev_lebF : ∀ (f n : Nat), n < 128 ^ (f + 1) → sev (lebF f n) = n ∧ Canon (lebF f n)
  | 0, n, h => by
    have h' : n < 128 := by simpa using h
    rw [lebF_small h']
    exact ⟨by simp [sev]; omega, .one _ (by rw [byte_small (by omega)]; exact h')⟩
  | f + 1, n, h => by
    by_cases h' : n < 128
    · rw [lebF_small h']
      exact ⟨by simp [sev]; omega, .one _ (by rw [byte_small (by omega)]; exact h')⟩
    · rw [lebF_big h']
      have hlt : n / 128 < 128 ^ (f + 1) := Nat.div_lt_of_lt_mul (by rw [Nat.pow_succ] at h; omega)
      obtain ⟨e, c⟩ := sev_lebF f (n / 128) hlt
      have hb : (BitVec.ofNat 8 (n % 128 + 128) : W8).toNat = n % 128 + 128 := byte_small (by omega)
      refine ⟨?_, .more _ _ (by omega) c (by rw [e]; omega)⟩
      show (BitVec.ofNat 8 (n % 128 + 128) : W8).toNat % 128 + 128 * sev (lebF f (n / 128)) = n
      rw [e, hb]; omega
theorem sev_leb {n : Nat} (h : n < 18446744073709551616) : sev (leb n) = n ∧ Canon (leb n) := sev_lebF 10 n (by omega)
theorem take_snoc_getD (xs : List W8) {k : Nat} (h : k < xs.length) : xs.take (k + 1) = xs.take k ++ [xs.getD k 0] := by
  rw [List.take_succ_eq_append_getElem h, List.getD_eq_getElem?_getD, List.getElem?_eq_getElem h]; rfl
theorem val_sev (xs : List W8) : ∀ k, k ≤ xs.length → val xs k = sev (xs.take k) % 18446744073709551616
  | 0, _ => rfl
  | k + 1, h => by
    have ih := val_sev xs k (by omega)
    show (val xs k + (xs.getD k 0).toNat % 128 * 2 ^ (7 * k)) % 18446744073709551616 = _
    rw [take_snoc_getD xs (by omega), sev_append, ih, List.length_take, Nat.min_eq_left (by omega)]
    have e : sev [xs.getD k 0] = (xs.getD k 0).toNat % 128 := by simp [sev]
    have e2 : 2 ^ (7 * k) = 128 ^ k := by rw [Nat.pow_mul]
    rw [e, e2, Nat.mul_comm (128 ^ k), Nat.mod_add_mod]
theorem canon_take {xs : List W8} : ∀ k, k < xs.length → (∀ i, i < k → 128 ≤ (xs.getD i 0).toNat) → (xs.getD k 0).toNat < 128 → (k = 0 ∨ (xs.getD k 0).toNat ≠ 0) → Canon (xs.take (k + 1)) := by
  induction xs with
  | nil => intro k h; simp at h
  | cons x xs ih =>
    intro k h h1 h2 h3
    cases k with
    | zero => exact .one x (by simpa using h2)
    | succ k =>
      have h3' : (xs.getD k 0).toNat ≠ 0 := by
        rcases h3 with h3 | h3
        · omega
        · simpa using h3
      have hk : k < xs.length := by simpa using h
      refine .more x _ (by simpa using h1 0 (by omega)) (ih k hk (fun i hi => by simpa using h1 (i + 1) (by omega)) (by simpa using h2) (Or.inr h3')) ?_
      rw [take_snoc_getD xs hk, sev_append]
      have e : sev [xs.getD k 0] = (xs.getD k 0).toNat := by
        have : (xs.getD k 0).toNat < 128 := by simpa using h2
        simp [sev] at this ⊢; omega
      rw [e]
      have : 0 < 128 ^ (xs.take k).length * (xs.getD k 0).toNat := Nat.mul_pos (Nat.pow_pos (by decide)) (by omega)
      omega
theorem canon_last {ys : List W8} (h : Canon ys) : ∀ k, ys.length = k + 1 → (k = 0 ∨ (ys.getD k 0).toNat ≠ 0) := by
  induction h with
  | one c _ => intro k hk; left; simpa using hk.symm
  | more y ys hy hc h1 ih =>
    intro k hk
    have hl : 1 ≤ ys.length := by cases hc <;> simp
    obtain ⟨k', rfl⟩ : ∃ k', k = k' + 1 := ⟨k - 1, by simp at hk; omega⟩
    right
    rcases ih k' (by simpa using hk) with h0 | h0
    · subst h0
      have hl1 : ys.length = 1 := by simpa using hk
      obtain ⟨c, rfl⟩ := List.length_eq_one_iff.1 hl1
      simp [sev] at h1 ⊢
      omega
    · simpa using h0
/-- The number that is read, put again, is what was read: just if it is short. -/
theorem leb_take {xs : List W8} {k : Nat} (hk : k < xs.length) (h10 : k < 10) (h1 : ∀ i, i < k → 128 ≤ (xs.getD i 0).toNat) (h2 : (xs.getD k 0).toNat < 128) :
    leb (val xs (k + 1)) = xs.take (k + 1) ↔ (k = 0 ∨ ((xs.getD k 0).toNat ≠ 0 ∧ (k < 9 ∨ (xs.getD k 0).toNat = 1))) := by
  have hv := val_sev xs (k + 1) (by omega)
  have hlen : (xs.take (k + 1)).length = k + 1 := by rw [List.length_take]; omega
  have hs : sev (xs.take (k + 1)) = sev (xs.take k) + 128 ^ k * (xs.getD k 0).toNat := by
    rw [take_snoc_getD xs hk, sev_append, List.length_take, Nat.min_eq_left (by omega)]
    simp [sev] at h2 ⊢
    rw [Nat.mod_eq_of_lt h2]
  constructor
  · intro h
    obtain ⟨e1, c1⟩ := sev_leb (val_lt xs (k + 1))
    rw [h] at e1 c1
    have hl := canon_last c1 k hlen
    have hg : (xs.take (k + 1)).getD k 0 = xs.getD k 0 := by
      rw [List.getD_eq_getElem?_getD, List.getD_eq_getElem?_getD, List.getElem?_take_of_lt (by omega)]
    rw [hg] at hl
    rcases hl with hl | hl
    · exact Or.inl hl
    · refine Or.inr ⟨hl, ?_⟩
      by_cases h9 : k < 9
      · exact Or.inl h9
      · right
        have hk9 : k = 9 := by omega
        subst hk9
        rw [hv] at e1
        have := Nat.mod_lt (sev (xs.take (9 + 1))) (show 0 < 18446744073709551616 by decide)
        have hp : (128 : Nat) ^ 9 = 9223372036854775808 := by decide
        rw [hs, hp] at e1
        rw [hs, hp] at this
        omega
  · intro h
    have hc : Canon (xs.take (k + 1)) := canon_take k hk h1 h2 (by rcases h with h | h; exact Or.inl h; exact Or.inr h.1)
    have hlt : sev (xs.take (k + 1)) < 18446744073709551616 := by
      by_cases h9 : k < 9
      · have h3 := sev_lt (xs.take (k + 1))
        rw [hlen] at h3
        have h4 : (128 : Nat) ^ (k + 1) ≤ 128 ^ 9 := Nat.pow_le_pow_right (by decide) (by omega)
        have hp : (128 : Nat) ^ 9 = 9223372036854775808 := by decide
        omega
      · have hk9 : k = 9 := by omega
        subst hk9
        have h5 : (xs.getD 9 0).toNat = 1 := by omega
        have h6 := sev_lt (xs.take 9)
        rw [List.length_take, Nat.min_eq_left (by omega)] at h6
        rw [hs, h5]
        have hp : (128 : Nat) ^ 9 = 9223372036854775808 := by decide
        omega
    rw [hv, Nat.mod_eq_of_lt hlt]
    exact lebF_canon hc 10 (by omega)
/-- What is taken off: the bytes of the number come first. -/
theorem takeGo_put (xs : List W8) : ∀ (f k : Nat), k + f ≤ min xs.length 10 → (∀ i, i < k → 128 ≤ (xs.getD i 0).toNat) → ∀ n j, takeGo xs f k = (0, n, j) → j ≤ xs.length ∧ xs.take j = leb n ∧ n < 18446744073709551616
  | 0, k, _, _, n, j, h => by
    exfalso
    unfold takeGo at h
    injection h with h1 _
    split at h1 <;> simp at h1
  | f + 1, k, hk, hb, n, j, h => by
    have hkl : k < xs.length := by omega
    unfold takeGo at h
    split at h
    · rename_i h2
      split at h
      · rename_i h3
        injection h with _ h4
        injection h4 with h5 h6
        subst h5 h6
        exact ⟨by omega, ((leb_take hkl (by omega) hb h2).2 h3).symm, val_lt _ _⟩
      · injection h with h1 _
        simp at h1
    · rename_i h2
      refine takeGo_put xs f (k + 1) (by omega) (fun i hi => ?_) n j h
      by_cases e : i = k
      · subst e; omega
      · exact hb i (by omega)
theorem takeN_put {xs : List W8} {n j : Nat} (h : takeN xs = (0, n, j)) : j ≤ xs.length ∧ xs.take j = leb n ∧ n < 18446744073709551616 :=
  takeGo_put xs _ 0 (by omega) (fun i hi => absurd hi (by omega)) n j h
/-- A number that was put is taken off. -/
theorem takeN_small {n : Nat} (h : n < 128) (rest : List W8) : takeN (leb n ++ rest) = (0, n, 1) := by
  unfold leb
  rw [lebF_small h]
  have hb : (BitVec.ofNat 8 n : W8).toNat = n := byte_small (by omega)
  have hm : min ([BitVec.ofNat 8 n] ++ rest : List W8).length 10 = min rest.length 9 + 1 := by simp; omega
  unfold takeN
  rw [hm]
  show (if (BitVec.ofNat 8 n : W8).toNat < 128 then _ else _) = _
  rw [hb, if_pos h, if_pos (Or.inl rfl)]
  have : val ([BitVec.ofNat 8 n] ++ rest : List W8) 1 = n := by
    show (0 + (BitVec.ofNat 8 n : W8).toNat % 128 * 2 ^ (7 * 0)) % 18446744073709551616 = n
    rw [hb]; simp; omega
  rw [this]
theorem takeN_nil : takeN [] = (2, 0, 0) := rfl
theorem takeGo_code (xs : List W8) : ∀ f k, (takeGo xs f k).1 = 0 ∨ takeGo xs f k = (2, 0, 0) ∨ takeGo xs f k = (3, 0, 0)
  | 0, k => by unfold takeGo; split <;> simp
  | f + 1, k => by
    unfold takeGo
    split
    · split <;> simp
    · exact takeGo_code xs f (k + 1)
theorem takeN_code (xs : List W8) : (takeN xs).1 = 0 ∨ takeN xs = (2, 0, 0) ∨ takeN xs = (3, 0, 0) := takeGo_code xs _ _
end Go.Proofs.Ytkehejkjifgieaa
