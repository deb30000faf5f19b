/- num.TakeBytes. -/
import Derived.Test.YtkehejkjifgieaaNum1
import Derived.Test.YtkehejkjifgieaaWd
import Derived.OwnWalk
namespace Go.Proofs.Ytkehejkjifgieaa
open Go.RowKit Go.ChangeMaps

def takePhi (w0 : World) (ad : Addr) (n k cap : Nat) (xs : List W8) (kq : Nat) (v : Value) (w : World) : Prop :=
  match kq with
  | 0 => v = .slice (some ad) n cap
  | 1 => v = .int .i64 (k : Int)
  | 2 => v = .slice (some ad) k cap
  | 3 => Ow w w0.heap.size v (xs.take k)
  | 4 => v = .slice (some ad) n cap
  | 5 => v = .int .i64 (k : Int)
  | 6 => v = .slice (some (cutAt ad cap k)) (n - k) (cap - k)
  | 7 => Ow w w0.heap.size v (xs.drop k)
  | 8 => Ow w w0.heap.size v (xs.take k)
  | 9 => Ow w w0.heap.size v (xs.drop k)
  | _ => v = .int .i64 0
theorem takePhi_mono {w0 : World} {ad : Addr} {n k cap : Nat} {xs : List W8} : ∀ (j : Nat) (v : Value) (w w' : World), takePhi w0 ad n k cap xs j v w → Below w.heap.size w w' → takePhi w0 ad n k cap xs j v w' := by
  intro j v w w' h hb
  match j, h with
  | 0, h | 1, h | 2, h | 4, h | 5, h | 6, h => exact h
  | 3, h | 7, h | 8, h | 9, h => exact Ow.below h hb
  | j + 10, h => exact h
set_option maxRecDepth 100000 in
set_option maxHeartbeats 1000000 in
theorem clone_nil (w : World) (cap : Nat) : Calls Try.prog 19 #[.slice none 0 cap] w fun e w' => e = .returned (.slice none 0 0) ∧ w = w' := by
  have hE := eql_nil none 0 cap
  go_enter Try.func19, Try.ntmps19
  go_wp2
  go_ret
  exact ⟨rfl, rfl⟩
set_option maxRecDepth 100000 in
set_option maxHeartbeats 1000000 in
theorem takeBytes_c {w0 : World} {v : Value} {xs : List W8} (hX : Bytes w0 v xs) (hl : xs.length ≤ 100000) (k : Nat) (hk : k ≤ 1000000000) :
    Calls Try.prog 43 #[v, .int .i64 k] w0 fun e w' => (if k ≤ xs.length then ∃ v1 v2, e = .returned (.tuple #[v1, v2, .int .i64 0]) ∧ Ow w' w0.heap.size v1 (xs.take k) ∧ Ow w' w0.heap.size v2 (xs.drop k) else e = .returned (.tuple #[.slice none 0 0, .slice none 0 0, .int .i64 2])) ∧ Below w0.heap.size w0 w' := by
  have hl' := hid hl
  by_cases hkx : k ≤ xs.length
  · rcases bytes_nil_or hX with ⟨cap, rfl, rfl⟩ | ⟨ad, cap, rfl⟩
    · have hk0 : k = 0 := by simpa using hkx
      subst hk0
      simp only [List.length_nil, Nat.le_refl, if_true]
      go_enter Try.func43, Try.ntmps43
      go_upto_region 5 with fail
      refine region_wd (by kernel_rfl) (by kernel_rfl) ?_
      repeat (first
        | go_big_quiet_skip
        | (go_big_quiet_want
           go_big_quiet_op
           first
           | go_big_quiet_on
           | go_big_quiet_call (first | (go_at_call 19; exact Wd.call_same _ (clone_nil _ cap)))))
      refine wpQuiet_nil ?_
      rintro _ ⟨nq, rfl⟩
      go_wp2
      go_ret3
      exact ⟨⟨_, _, rfl, Ow.nil _ _, Ow.nil _ _⟩, nq.h⟩
    · simp only [hkx, if_true]
      have IHa := hid (fun (w : World) (hb : Below w0.heap.size w0 w) => clone_c ((hX.take k hkx).below hb) (by rw [List.length_take]; omega))
      have IHb := hid (fun (w : World) (hb : Below w0.heap.size w0 w) => clone_c ((hX.drop k hkx).below hb) (by rw [List.length_drop]; omega))
      have hcap := hX.len_le
      clear hX
      obtain ⟨n, hn⟩ : ∃ n, n = xs.length := ⟨_, rfl⟩
      rw [← hn] at hkx hcap IHb ⊢
      have hkc : 0 < n → k ≤ cap := fun h => by have := (hcap h).2; omega
      have hkcap : k ≤ cap := by
        by_cases h : 0 < n
        · exact hkc h
        · omega
      clear hn hcap hkc
      have hkn : (k : Int) ≤ (n : Int) := by omega
      have hkci : (k : Int) ≤ (cap : Int) := by omega
      have hkni : ¬ (n : Int) < (k : Int) := by omega
      go_enter Try.func43, Try.ntmps43
      go_upto_region 5 with fail
      have hrefl : ∀ w : World, Below w.heap.size w w := fun w => Below.refl _ _
      refine region_rel (n := 23) (B := fun w' => Below w0.heap.size w0 w') (E := fun w w' => Below w.heap.size w w') (φ := takePhi w0 ad n k cap xs) (by kernel_rfl) (by kernel_rfl) (by kernel_rfl) (by kernel_rfl) takePhi_mono hrefl ((Below.refl _ _).drew) ?hop ?hend
      case hop =>
        refine And.intro ?_ ?_
        · intro V ρ w hB hc hf hd hs
          have s0 : ρ (.tmp 0) = .slice (some ad) n cap := hs 0 (by kernel_rfl)
          clear hd hs
          rw [BigFrame.run_move (.tmp 0) rfl]
          exact ⟨s0, hB, hrefl w⟩
        refine And.intro ?_ ?_
        · intro V ρ w hB hc hf hd hs
          have s1 : ρ (.tmp 1) = .int .i64 (k : Int) := hs 1 (by kernel_rfl)
          clear hd hs
          rw [BigFrame.run_move (.tmp 1) rfl]
          exact ⟨s1, hB, hrefl w⟩
        refine And.intro ?_ ?_
        · intro V ρ w hB hc hf hd hs
          have s15 : ρ (.tmp 15) = .slice (some ad) n cap := (hd 0 (by kernel_rfl) 15 (by kernel_rfl)).2.trans (hd 0 (by kernel_rfl) 15 (by kernel_rfl)).1
          have s16 : ρ (.tmp 16) = .int .i64 (k : Int) := (hd 1 (by kernel_rfl) 16 (by kernel_rfl)).2.trans (hd 1 (by kernel_rfl) 16 (by kernel_rfl)).1
          clear hd hs
          exact outcome_value (v := .slice (some ad) k cap) (by simp [go_sem, sliced, s15, s16, hkci]) ⟨rfl, hB, hrefl w⟩
        refine And.intro ?_ ?_
        · intro V ρ w hB hc hf hd hs
          have s17 : ρ (.tmp 17) = .slice (some ad) k cap := (hd 2 (by kernel_rfl) 17 (by kernel_rfl)).2.trans (hd 2 (by kernel_rfl) 17 (by kernel_rfl)).1
          clear hd hs
          refine outcome_enter (w := w) (f := 19) (args := #[.slice (some ad) k cap]) (by simp [go_sem, hf, s17]) ?_
          refine (IHa.out w hB).mono ?_
          rintro e w2 ⟨v2, rfl, hO, hL⟩
          exact ⟨v2, rfl, hO.lower hB.size, hB.trans (hL.mono hB.size), hL⟩
        refine And.intro ?_ ?_
        · intro V ρ w hB hc hf hd hs
          have s0 : ρ (.tmp 0) = .slice (some ad) n cap := hs 0 (by kernel_rfl)
          clear hd hs
          rw [BigFrame.run_move (.tmp 0) rfl]
          exact ⟨s0, hB, hrefl w⟩
        refine And.intro ?_ ?_
        · intro V ρ w hB hc hf hd hs
          have s1 : ρ (.tmp 1) = .int .i64 (k : Int) := hs 1 (by kernel_rfl)
          clear hd hs
          rw [BigFrame.run_move (.tmp 1) rfl]
          exact ⟨s1, hB, hrefl w⟩
        refine And.intro ?_ ?_
        · intro V ρ w hB hc hf hd hs
          have s19 : ρ (.tmp 19) = .slice (some ad) n cap := (hd 4 (by kernel_rfl) 19 (by kernel_rfl)).2.trans (hd 4 (by kernel_rfl) 19 (by kernel_rfl)).1
          have s20 : ρ (.tmp 20) = .int .i64 (k : Int) := (hd 5 (by kernel_rfl) 20 (by kernel_rfl)).2.trans (hd 5 (by kernel_rfl) 20 (by kernel_rfl)).1
          clear hd hs
          exact outcome_value (v := .slice (some (cutAt ad cap k)) (n - k) (cap - k)) (by simp [go_sem, sliced, s19, s20, hkn, cutAt]; split <;> rfl) ⟨rfl, hB, hrefl w⟩
        refine And.intro ?_ ?_
        · intro V ρ w hB hc hf hd hs
          have s21 : ρ (.tmp 21) = .slice (some (cutAt ad cap k)) (n - k) (cap - k) := (hd 6 (by kernel_rfl) 21 (by kernel_rfl)).2.trans (hd 6 (by kernel_rfl) 21 (by kernel_rfl)).1
          clear hd hs
          refine outcome_enter (w := w) (f := 19) (args := #[.slice (some (cutAt ad cap k)) (n - k) (cap - k)]) (by simp [go_sem, hf, s21]) ?_
          refine (IHb.out w hB).mono ?_
          rintro e w2 ⟨v2, rfl, hO, hL⟩
          exact ⟨v2, rfl, hO.lower hB.size, hB.trans (hL.mono hB.size), hL⟩
        refine And.intro ?_ ?_
        · intro V ρ w hB hc hf hd hs
          obtain ⟨f18, s18⟩ := hd 3 (by kernel_rfl) 18 (by kernel_rfl)
          clear hd hs
          rw [BigFrame.run_assign (.tmp 18) rfl, s18]
          exact ⟨f18, hB, hrefl w⟩
        refine And.intro ?_ ?_
        · intro V ρ w hB hc hf hd hs
          obtain ⟨f22, s22⟩ := hd 7 (by kernel_rfl) 22 (by kernel_rfl)
          clear hd hs
          rw [BigFrame.run_assign (.tmp 22) rfl, s22]
          exact ⟨f22, hB, hrefl w⟩
        refine And.intro ?_ ?_
        · intro V ρ w hB hc hf hd hs
          clear hd hs
          rw [BigFrame.run_assign (.const _) rfl]
          exact ⟨hc _, hB, hrefl w⟩
        exact trivial
      case hend =>
        intro V w5 hB5 hV
        have v8 : Ow w5 w0.heap.size (V 8) (xs.take k) := hV 8 (by decide)
        have v9 : Ow w5 w0.heap.size (V 9) (xs.drop k) := hV 9 (by decide)
        have v10 : V 10 = .int .i64 0 := hV 10 (by decide)
        have H8 := hid v8; have H9 := hid v9; have HB := hid hB5
        simp only [lexF, Act.put, List.setIfInBounds_toArray, List.set_cons_zero, List.set_cons_succ, v10]
        clear hV v8 v9 hB5
        go_wp2
        go_ret3
        exact ⟨⟨_, _, rfl, H8.out, H9.out⟩, HB.out⟩
  · obtain ⟨px, cx, rfl, _⟩ := hX
    simp only [hkx, if_false]
    obtain ⟨n, hn⟩ : ∃ n, n = xs.length := ⟨_, rfl⟩
    rw [← hn] at hkx ⊢
    clear hn
    have hki : (n : Int) < (k : Int) := by omega
    go_enter Try.func43, Try.ntmps43
    go_wp2
    go_ret3
    exact ⟨rfl, Below.refl _ _⟩
end Go.Proofs.Ytkehejkjifgieaa

/- num.Take. -/
namespace Go.Proofs.Ytkehejkjifgieaa
open Go.RowKit Go.ChangeMaps

/-- What the first k bytes of a short number say. -/
def val (xs : List W8) : Nat → Nat
  | 0 => 0
  | k + 1 => (val xs k + (xs.getD k 0).toNat % 128 * 2 ^ (7 * k)) % 18446744073709551616
/-- Taking a short number: why not (0: it may be), the number, how many bytes. -/
def takeGo (xs : List W8) : Nat → Nat → Int × Nat × Nat
  | 0, _ => (if 10 ≤ xs.length then 3 else 2, 0, 0)
  | f + 1, k => if (xs.getD k 0).toNat < 128 then (if k = 0 ∨ ((xs.getD k 0).toNat ≠ 0 ∧ (k < 9 ∨ (xs.getD k 0).toNat = 1)) then (0, val xs (k + 1), k + 1) else (3, 0, 0)) else takeGo xs f (k + 1)
def takeN (xs : List W8) : Int × Nat × Nat := takeGo xs (min xs.length 10) 0
def TakeAns (base : Nat) (xs : List W8) (e : Ending) (w' : World) : Prop :=
  if (takeN xs).1 = 0 then ∃ v2, e = .returned (.tuple #[.int .u64 (takeN xs).2.1, v2, .int .i64 0]) ∧ Ow w' base v2 (xs.drop (takeN xs).2.2) else e = .returned (.tuple #[.int .u64 0, .slice none 0 0, .int .i64 (takeN xs).1])
theorem takeAns_no {base : Nat} {xs : List W8} {w' : World} {c : Int} (h : takeN xs = (c, 0, 0)) (hc : c ≠ 0) : TakeAns base xs (.returned (.tuple #[.int .u64 0, .slice none 0 0, .int .i64 c])) w' := by
  unfold TakeAns
  rw [h, if_neg hc]
theorem takeAns_yes {base : Nat} {xs : List W8} {w' : World} {n k : Nat} {v : Value} (h : takeN xs = (0, n, k)) (hO : Ow w' base v (xs.drop k)) : TakeAns base xs (.returned (.tuple #[.int .u64 n, v, .int .i64 0])) w' := by
  unfold TakeAns
  rw [h, if_pos rfl]
  exact ⟨v, rfl, hO⟩
theorem val_lt (xs : List W8) : ∀ k, val xs k < 18446744073709551616
  | 0 => (by decide : (0 : Nat) < 18446744073709551616)
  | k + 1 => Nat.mod_lt _ (by decide)
theorem isShort_c (w : World) (k : Nat) (c : W8) (hk : k < 10) : Calls Try.prog 67 #[.int .i64 k, .int .u8 (ub c)] w fun e w' => e = .returned (.bool (decide (k = 0 ∨ (c.toNat ≠ 0 ∧ (k < 9 ∨ c.toNat = 1))))) ∧ w = w' := by
  have hu : ub c = (c.toNat : Int) := rfl
  have hc : c.toNat < 256 := c.isLt
  rw [hu]
  obtain ⟨x, hx⟩ : ∃ x, x = c.toNat := ⟨_, rfl⟩
  rw [← hx] at hc ⊢
  clear hx hu
  by_cases h0 : k = 0
  · subst h0
    go_enter Try.func67, Try.ntmps67
    go_wp2
    go_ret
    exact ⟨by simp, rfl⟩
  · have h0i : ((k : Int) == 0) = false := by simp; omega
    have h0j : ¬ (k : Int) = 0 := by omega
    by_cases hc0 : x = 0
    · subst hc0
      go_enter Try.func67, Try.ntmps67
      go_wp2
      go_ret
      exact ⟨by simp [h0], rfl⟩
    · have hci : ¬ (x : Int) = 0 := by omega
      have hcj : ((x : Int) == 0) = false := by simp; omega
      by_cases h9 : k < 9
      · have h9i : (k : Int) < 9 := by omega
        go_enter Try.func67, Try.ntmps67
        go_wp2
        go_ret
        exact ⟨by simp [hc0, h9], rfl⟩
      · have h9i : ¬ (k : Int) < 9 := by omega
        go_enter Try.func67, Try.ntmps67
        go_wp2
        go_ret
        refine ⟨?_, rfl⟩
        by_cases h1 : x = 1
        · subst h1; simp
        · have h1j : ((x : Int) == 1) = false := by simp; omega
          simp [h1, h1j]
theorem val_small (xs : List W8) : ∀ k, k ≤ 9 → val xs k < 2 ^ (7 * k)
  | 0, _ => (by decide : (0 : Nat) < 2 ^ (7 * 0))
  | k + 1, hk => by
    have h := val_small xs k (by omega)
    have h2 : val xs (k + 1) ≤ val xs k + (xs.getD k 0).toNat % 128 * 2 ^ (7 * k) := Nat.mod_le _ _
    have h3 : (xs.getD k 0).toNat % 128 * 2 ^ (7 * k) ≤ 127 * 2 ^ (7 * k) := Nat.mul_le_mul_right _ (by omega)
    have h4 : 2 ^ (7 * (k + 1)) = 2 ^ (7 * k) * 128 := by rw [Nat.mul_succ, Nat.pow_add]
    omega
theorem or_val {k x d : Nat} (hk : k < 10) (hx : x < 2 ^ (7 * k)) : bits .or .u64 (x : Int) (IntKind.u64.wrap ((d : Int) % 128 * 2 ^ (7 * k))) = (((x + d % 128 * 2 ^ (7 * k)) % 18446744073709551616 : Nat) : Int) := by
  have hw : IntKind.u64.wrap ((d : Int) % 128 * 2 ^ (7 * k)) = ((d % 128 * 2 ^ (7 * k) % 18446744073709551616 : Nat) : Int) := by
    simp [IntKind.wrap, IntKind.bits, IntKind.signed]
  rw [hw]
  have h64 : (18446744073709551616 : Nat) = 2 ^ (7 * k) * 2 ^ (64 - 7 * k) := by rw [← Nat.pow_add, show 7 * k + (64 - 7 * k) = 64 by omega]
  have hy : d % 128 * 2 ^ (7 * k) % 18446744073709551616 = 2 ^ (7 * k) * (d % 128 % 2 ^ (64 - 7 * k)) := by rw [h64, Nat.mul_comm (d % 128), Nat.mul_mod_mul_left]
  have hylt : d % 128 * 2 ^ (7 * k) % 18446744073709551616 < 18446744073709551616 := Nat.mod_lt _ (by decide)
  have hsum : (x + d % 128 * 2 ^ (7 * k)) % 18446744073709551616 = x ||| (d % 128 * 2 ^ (7 * k) % 18446744073709551616) := by
    have h1 : x + d % 128 * 2 ^ (7 * k) % 18446744073709551616 < 18446744073709551616 := by
      rw [hy]
      have h2 : d % 128 % 2 ^ (64 - 7 * k) + 1 ≤ 2 ^ (64 - 7 * k) := Nat.mod_lt _ (Nat.two_pow_pos _)
      have h3 : 2 ^ (7 * k) * (d % 128 % 2 ^ (64 - 7 * k) + 1) ≤ 2 ^ (7 * k) * 2 ^ (64 - 7 * k) := Nat.mul_le_mul_left _ h2
      rw [← h64, Nat.mul_succ] at h3
      omega
    rw [← Nat.add_mod_mod, Nat.mod_eq_of_lt h1, hy, Nat.or_comm, ← Nat.two_pow_add_eq_or_of_lt hx, Nat.add_comm]
  rw [hsum]
  have hxl : x < 18446744073709551616 := Nat.lt_of_lt_of_le hx (by rw [h64]; exact Nat.le_mul_of_pos_right _ (Nat.two_pow_pos _))
  generalize d % 128 * 2 ^ (7 * k) % 18446744073709551616 = y at hylt
  have hor : (x ||| y) < 2 ^ 64 := Nat.or_lt_two_pow hxl hylt
  show IntKind.u64.wrap ((((BitVec.ofInt 64 (x : Int)) ||| (BitVec.ofInt 64 (y : Int)) : BitVec 64).toNat : Nat) : Int) = _
  rw [BitVec.toNat_or, BitVec.toNat_ofInt, BitVec.toNat_ofInt]
  have e1 : ((x : Int) % ((2 ^ 64 : Nat) : Int)).toNat = x := by omega
  have e2 : ((y : Int) % ((2 ^ 64 : Nat) : Int)).toNat = y := by omega
  rw [e1, e2]
  simp only [IntKind.wrap, IntKind.bits, IntKind.signed]
  simp
  omega
theorem and128_b : ∀ c : W8, bits .and .u8 (ub c) 128 = if c.toNat < 128 then 0 else 128 := by decide +kernel
theorem andNot128_b : ∀ c : W8, bits .andNot .u8 (ub c) 128 = ((c.toNat % 128 : Nat) : Int) := by decide +kernel
set_option maxRecDepth 100000 in
set_option maxHeartbeats 4000000 in
theorem numTake_c {w0 : World} {v : Value} {xs : List W8} (hX : Bytes w0 v xs) (hl : xs.length ≤ 100000) :
    Calls Try.prog 55 #[v] w0 fun e w' => TakeAns w0.heap.size xs e w' ∧ Below w0.heap.size w0 w' := by
  rcases bytes_nil_or hX with ⟨cap, rfl, rfl⟩ | ⟨ad, cap, rfl⟩
  · have hmi : min (0 : Int) 10 = 0 := by omega
    go_enter Try.func55, Try.ntmps55
    go_wp2
    go_loopg [14] 0 (fun g v14 wr => v14 = .int .i64 0 ∧ w0 = wr)
    case atStart => exact ⟨rfl, rfl⟩
    case round =>
      obtain ⟨rfl, rfl⟩ := hrel
      go_wp2
      go_ret3
      exact ⟨takeAns_no (c := 2) rfl (by decide), Below.refl _ _⟩
  · have HX := hid hX
    have hlen := hX.len_le
    obtain ⟨n, hn⟩ : ∃ n, n = xs.length := ⟨_, rfl⟩
    have hn' := hid hn
    have hcap : n ≤ cap := by
      by_cases h : 0 < n
      · have := (hlen (by omega)).2; omega
      · omega
    obtain ⟨m, hm⟩ : ∃ m, m = min n 10 := ⟨_, rfl⟩
    have hmi : min (n : Int) 10 = (m : Int) := by omega
    have hT := hid (show takeN xs = takeGo xs (m - 0) 0 by rw [hm, hn]; rfl)
    have hmn : m ≤ n := by omega
    have hm10 : m ≤ 10 := by omega
    have hml : m < 10 → m = n := by omega
    have hmci : (m : Int) ≤ (cap : Int) := by omega
    rw [← hn] at HX hl ⊢
    clear hX hlen hn hm
    go_enter Try.func55, Try.ntmps55
    go_upto_region 2 with fail
    go_cut [12, 13, 14] from 8 to 14 (fun v12 v13 v14 wr => v12 = .slice (some ad) m cap ∧ v13 = .int .i64 m ∧ v14 = .int .i64 0 ∧ w0 = wr)
    case first =>
      go_wp2
      all_goals go_meet
      all_goals first
        | (have e : m = 10 := by omega
           subst e; exact ⟨rfl, rfl, rfl, rfl⟩)
        | (have e : m = n := by omega
           subst e; exact ⟨rfl, rfl, rfl, rfl⟩)
    case rest =>
     obtain ⟨rfl, rfl, rfl, rfl⟩ := hcut
     go_wp2
     go_loopg [5, 14] m (fun g v5 v14 wr => ∃ k : Nat, v14 = .int .i64 k ∧ v5 = .int .u64 (val xs k) ∧ g = m - k ∧ k ≤ m ∧ Hid (takeN xs = takeGo xs (m - k) k) ∧ w0 = wr)
     case atStart => exact ⟨0, rfl, rfl, by omega, by omega, hT, rfl⟩
     case round =>
       obtain ⟨k, rfl, rfl, hg, hk, HT, rfl⟩ := hrel
       by_cases hkm : k < m
       · obtain ⟨b, off, e, hb, _, hcm, hsrc⟩ : ∃ b off, (some ad : Option Addr) = some ⟨b, off, none⟩ ∧ b < w0.heap.size ∧ xs.length ≤ cap ∧ cap ≤ maxLen ∧ Src w0 b off xs := by
           obtain ⟨p', c', e', hq⟩ := HX.out
           cases e'
           exact hq (by have := hn'.out; omega)
         cases e
         have c0 := hsrc k (by have := hn'.out; omega)
         obtain ⟨c, hc⟩ : ∃ c, c = xs.getD k 0 := ⟨_, rfl⟩
         rw [← hc] at c0
         have HC := hid hc
         clear hsrc hc
         have hk10 : k < 10 := by omega
         have hA := and128_b c
         have hN := andNot128_b c
         have hO : bits .or .u64 (val xs k : Int) (IntKind.u64.wrap ((c.toNat : Int) % 128 * 2 ^ (7 * k))) = (val xs (k + 1) : Int) := by
           rw [or_val hk10 (val_small xs k (by omega)), HC.out]; rfl
         have hub : ub c = (c.toNat : Int) := rfl
         have hgo := hid (show takeGo xs (m - k) k = if c.toNat < 128 then (if k = 0 ∨ (c.toNat ≠ 0 ∧ (k < 9 ∨ c.toNat = 1)) then (0, val xs (k + 1), k + 1) else (3, 0, 0)) else takeGo xs (m - (k + 1)) (k + 1) from by
           rw [show m - k = (m - (k + 1)) + 1 by omega, HC.out]; rfl)
         rw [hub] at c0 hA hN
         have hsh := isShort_c w0 k c hk10
         rw [hub] at hsh
         obtain ⟨x, hx⟩ : ∃ x, x = c.toNat := ⟨_, rfl⟩
         have hx256 : x < 256 := by rw [hx]; exact c.isLt
         rw [← hx] at c0 hA hN hO hgo hsh
         clear hub hx HC
         by_cases hc8 : x < 128
         · rw [if_pos hc8] at hA
           have hgo' := hid (HT.out.trans (hgo.out.trans (if_pos hc8)))
           clear hgo HT hT
           by_cases hP : k = 0 ∨ (x ≠ 0 ∧ (k < 9 ∨ x = 1))
           · rw [if_pos hP] at hgo'
             rw [decide_eq_true hP] at hsh
             have HS := hid hsh
             have hkn : ((k : Int) + 1) ≤ (n : Int) := by omega
             have key : (cap = k + 1 ∧ Hid (Calls Try.prog 19 #[.slice (some ⟨b, off, none⟩) (n - (k + 1)) 0] w0 fun e w' => ∃ v', e = .returned v' ∧ Ow w' w0.heap.size v' (xs.drop (k + 1)) ∧ Below w0.heap.size w0 w')) ∨ (¬ cap = k + 1 ∧ Hid (Calls Try.prog 19 #[.slice (some ⟨b, off + (k + 1), none⟩) (n - (k + 1)) (cap - (k + 1))] w0 fun e w' => ∃ v', e = .returned v' ∧ Ow w' w0.heap.size v' (xs.drop (k + 1)) ∧ Below w0.heap.size w0 w')) := by
               have := clone_c (HX.out.drop (k + 1) (by have := hn'.out; omega)) (by rw [List.length_drop]; have := hn'.out; omega)
               rw [← hn'.out] at this
               by_cases hck : cap = k + 1
               · refine Or.inl ⟨hck, hid ?_⟩
                 unfold cutAt at this
                 rw [if_pos hck, show cap - (k + 1) = 0 by omega] at this
                 exact this
               · refine Or.inr ⟨hck, hid ?_⟩
                 unfold cutAt at this
                 rw [if_neg hck, Addr.add_mid] at this
                 exact this
             clear hsh hP
             rcases key with ⟨hck, CL⟩ | ⟨hck, CL⟩ <;>
             (have hcki : ((k : Int) + 1) ≤ (cap : Int) := by omega
              go_wp2_with (first
                | (go_at_call 67; refine HS.out.mono ?_; rintro e w1 ⟨rfl, rfl⟩)
                | (go_at_call 19; refine CL.out.mono ?_; rintro e w1 ⟨v1, rfl, O1, L1⟩; have O1' := hid O1; have L1' := hid L1; clear O1 L1))
              go_ret3
              exact ⟨takeAns_yes hgo'.out O1'.out, L1'.out⟩)
           · rw [if_neg hP] at hgo'
             rw [decide_eq_false hP] at hsh
             have HS := hid hsh
             clear hsh hP
             go_wp2_with (go_at_call 67; refine HS.out.mono ?_; rintro e w1 ⟨rfl, rfl⟩)
             go_ret3
             exact ⟨takeAns_no hgo'.out (by decide), Below.refl _ _⟩
         · rw [if_neg hc8] at hA
           have hgo' := hid (HT.out.trans (hgo.out.trans (if_neg hc8)))
           clear hgo HT hT hsh
           go_wp2
           go_roundg (m - (k + 1))
           case measure => omega
           case rel => exact ⟨k + 1, by go_num, rfl, rfl, by omega, hgo', rfl⟩
       · have hkm' : k = m := by omega
         subst hkm'
         have hgo' := hid (HT.out.trans (show takeGo xs (k - k) k = (if 10 ≤ xs.length then 3 else 2, 0, 0) from by rw [Nat.sub_self]; rfl))
         rw [← hn'.out] at hgo'
         clear HT hT
         by_cases h10 : 10 ≤ n
         · rw [if_pos h10] at hgo'
           have h10i : (10 : Int) ≤ (n : Int) := by omega
           go_wp2
           go_ret3
           exact ⟨takeAns_no hgo'.out (by decide), Below.refl _ _⟩
         · rw [if_neg h10] at hgo'
           have h10i : ¬ (10 : Int) ≤ (n : Int) := by omega
           go_wp2
           go_ret3
           exact ⟨takeAns_no hgo'.out (by decide), Below.refl _ _⟩
end Go.Proofs.Ytkehejkjifgieaa

/- The document's Put and PutString. -/
namespace Go.Proofs.Ytkehejkjifgieaa
open Go.RowKit Go.ChangeMaps

set_option maxRecDepth 100000 in
set_option maxHeartbeats 1000000 in
theorem rput_c {w : World} {v : Value} {xs : List W8} (hB : Bytes w v xs) (hl : xs.length ≤ 99000) (N : Nat) (hN : N < 18446744073709551616) :
    Calls Try.prog 63 #[v, .int .u64 N] w fun e w' => ∃ v', e = .returned v' ∧ Ow w' w.heap.size v' (xs ++ leb N) ∧ Below w.heap.size w w' := by
  have L0 := hid ((Below.refl w.heap.size w).alloc (Nat.le_refl _) (.cells #[] 5))
  have HB := hid (hB.below L0.out)
  have O0 := hid (Ow.empty w (Nat.le_refl _))
  obtain ⟨px, cx, rfl, _⟩ := hB
  have hlen := hid (fun f m => lebF_length f m)
  obtain ⟨n, hn⟩ : ∃ n, n = xs.length := ⟨_, rfl⟩
  have hn' := hid hn
  have hle0 := hid (show ([] : List W8).length + xs.length ≤ 1000000 by simp; omega)
  rw [← hn] at HB hl ⊢
  clear hn
  go_enter Try.func63, Try.ntmps63
  go_wp2_with (at_builtin; refine wpList_app rfl (.tmp 6) (.tmp 7) rfl rfl rfl O0.out HB.out hle0.out (by simp) ?_; intro v1 w1 O1 M1 _; have O1' := hid O1; have L1' := hid (M1.own_below O0.out (by simp) L0.out); clear O1 M1)
  have hN' := hid (show N < 128 ^ (10 + 1) by omega)
  go_loopg [1, 5] N (fun g v1 v5 wr => ∃ (m f : Nat) (pre : List W8), v1 = .int .u64 m ∧ g = m ∧ m < 128 ^ (f + 1) ∧ m < 18446744073709551616 ∧ f ≤ 10 ∧ Hid (leb N = pre ++ lebF f m) ∧ Hid (pre.length + f = 10) ∧ Hid (Ow wr w.heap.size v5 (xs ++ pre)) ∧ Hid (Below w.heap.size w wr))
  case atStart => exact ⟨N, 10, [], rfl, rfl, hN'.out, hN, Nat.le_refl _, hid rfl, hid rfl, hid (by simpa using O1'.out), L1'⟩
  case round =>
    obtain ⟨m, f, pre, rfl, hg, hm, hm64, hf, hpre, hpl, O, L⟩ := hrel
    by_cases h128 : m < 128
    · have h128i : ¬ (128 : Int) ≤ (m : Int) := by omega
      have hm8 : (m : Int) % 256 = (m : Int) := by omega
      have hB1 := hid (show Bytes (wr.alloc (.cells #[.int .u8 (m : Int)] 5)) (.slice (some ⟨wr.heap.size, 0, none⟩) 1 1) [BitVec.ofNat 8 m] from Bytes.one' (by rw [ub_ofNat (by omega)]))
      have OA := hid (O.out.alloc (.cells #[.int .u8 (m : Int)] 5))
      have hlb := hid (show leb N = pre ++ [BitVec.ofNat 8 m] from by rw [hpre.out, lebF_small h128])
      have hle := hid (show (xs ++ pre).length + [BitVec.ofNat 8 m].length ≤ 1000000 from by have := hpl.out; have := hn'.out; simp; omega)
      have hba := hid (show w.heap.size ≤ (wr.alloc (.cells #[.int .u8 (m : Int)] 5)).heap.size from by have := L.out.size; simp; omega)
      have LA := hid (L.out.alloc (L.out.size) (.cells #[.int .u8 (m : Int)] 5))
      clear hpre hpl
      go_wp2_with (at_builtin; refine wpList_app rfl (.tmp 20) (.tmp 23) rfl rfl rfl OA.out hB1.out hle.out hba.out ?_; intro v5 w5 O5 M5 _; have O5' := hid O5; have L5' := hid (M5.own_below OA.out hba.out LA.out); clear O5 M5)
      go_ret
      exact ⟨_, rfl, by rw [hlb.out, ← List.append_assoc]; exact O5'.out, L5'.out⟩
    · have h128i : (128 : Int) ≤ (m : Int) := by omega
      obtain ⟨f', rfl⟩ : ∃ f', f = f' + 1 := by
        cases f with
        | zero => exact absurd hm (by simp; omega)
        | succ f' => exact ⟨f', rfl⟩
      have hX : m / 128 < 128 ^ (f' + 1) := Nat.div_lt_of_lt_mul (by rw [Nat.pow_succ] at hm; omega)
      obtain ⟨c, hc⟩ : ∃ c, c = (BitVec.ofNat 8 (m % 128 + 128) : W8) := ⟨_, rfl⟩
      have hor : (m : Int) % 128 + 128 = ub c := by rw [hc, ub_ofNat (by omega)]; omega
      have hpre' := hid (show leb N = (pre ++ [c]) ++ lebF f' (m / 128) from by rw [hpre.out, lebF_big h128, hc]; simp)
      have hcb : 0 ≤ ub c ∧ ub c < 256 := ⟨by unfold ub; omega, by unfold ub; have := c.isLt; omega⟩
      obtain ⟨hc0, hc1⟩ := hcb
      clear hm hpre hc
      have hB1 := hid (show Bytes (wr.alloc (.cells #[.int .u8 (ub c)] 5)) (.slice (some ⟨wr.heap.size, 0, none⟩) 1 1) [c] from Bytes.one' rfl)
      have OA := hid (O.out.alloc (.cells #[.int .u8 (ub c)] 5))
      have hle := hid (show (xs ++ pre).length + [c].length ≤ 1000000 from by have := hpl.out; have := hn'.out; simp; omega)
      have hba := hid (show w.heap.size ≤ (wr.alloc (.cells #[.int .u8 (ub c)] 5)).heap.size from by have := L.out.size; simp; omega)
      have LA := hid (L.out.alloc (L.out.size) (.cells #[.int .u8 (ub c)] 5))
      go_wp2_with (at_builtin; refine wpList_app rfl (.tmp 11) (.tmp 16) rfl rfl rfl OA.out hB1.out hle.out hba.out ?_; intro v5 w5 O5 M5 _; have O5' := hid O5; have L5' := hid (M5.own_below OA.out hba.out LA.out); clear O5 M5)
      go_roundg (m / 128)
      case measure => omega
      case rel => exact ⟨m / 128, f', pre ++ [c], by go_num, rfl, hX, by omega, by omega, hpre', hid (by have := hpl.out; simp; omega), hid (by have := O5'.out; rwa [List.append_assoc] at this), L5'⟩
set_option maxRecDepth 100000 in
set_option maxHeartbeats 1000000 in
theorem rputString_c {w : World} {v vs : Value} {xs ss : List W8} (hB : Bytes w v xs) (hS : Bytes w vs ss) (hl : xs.length ≤ 99000) (hs : ss.length ≤ 100000) :
    Calls Try.prog 49 #[v, vs] w fun e w' => ∃ v', e = .returned v' ∧ Ow w' w.heap.size v' (xs ++ leb ss.length ++ ss) ∧ Below w.heap.size w w' := by
  have HB := hid hB; have HS := hid hS
  obtain ⟨px, cx, rfl, _⟩ := hB
  obtain ⟨ps, c2, rfl, _⟩ := hS
  obtain ⟨n, hn⟩ : ∃ n, n = xs.length := ⟨_, rfl⟩
  have hn' := hid hn
  have hl' := hid hl
  rw [← hn] at HB hl ⊢
  obtain ⟨m, hm⟩ : ∃ m, m = ss.length := ⟨_, rfl⟩
  have hm' := hid hm
  rw [← hm] at HS hs ⊢
  clear hn hm
  have hle := hid (show (xs ++ leb m).length + ss.length ≤ 1000000 from by have := lebF_length 10 m; have := hn'.out; have := hm'.out; unfold leb; simp; omega)
  go_enter Try.func49, Try.ntmps49
  go_wp2_with (first
    | (go_at_call 63; refine (rput_c HB.out hl'.out m (by omega)).mono ?_; rintro e w1 ⟨v1, rfl, O1, L1⟩; have O1' := hid O1; have L1' := hid L1; have HS1 := hid (HS.out.below L1); clear O1 L1)
    | (at_builtin; refine wpList_app rfl (.tmp 11) (.tmp 12) rfl rfl rfl O1'.out HS1.out hle.out L1'.out.size ?_; intro v5 w5 O5 M5 _; have O5' := hid O5; have L5' := hid (M5.own_below O1'.out L1'.out.size L1'.out); clear O5 M5))
  go_ret
  exact ⟨_, rfl, O5'.out, L5'.out⟩
end Go.Proofs.Ytkehejkjifgieaa
