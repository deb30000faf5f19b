/- bytes.Clone, num.grown, num.Put, num.PutString, num.TakeBytes. -/
import Derived.Test.YtkehejkjifgieaaOw
import Derived.Deep.CutBlock
import Derived.Laws.Cover3
namespace Go.Proofs.Ytkehejkjifgieaa
open Go.RowKit Go.ChangeMaps

theorem bytes_nil_or {w : World} {v : Value} {xs : List W8} (h : Bytes w v xs) : (∃ cap, v = .slice none 0 cap ∧ xs = []) ∨ ∃ ad cap, v = .slice (some ad) xs.length cap := by
  obtain ⟨p, cap, rfl, hq⟩ := h
  cases p with
  | none =>
    have hy : xs = [] := by
      by_cases h0 : 0 < xs.length
      · obtain ⟨_, _, h, _⟩ := hq h0; cases h
      · exact List.eq_nil_of_length_eq_zero (by omega)
    subst hy
    exact Or.inl ⟨cap, rfl, rfl⟩
  | some ad => exact Or.inr ⟨ad, cap, rfl⟩
theorem eql_nil (a : Option Addr) (l c : Nat) (W : World) : (binOp .eql 29 (.slice a l c) (.slice none 0 0)).run Try.prog W = .ok (.bool a.isNone) W := by
  simp only [binOp]
  simp [run_equal_slice_nil W _ _ a l c Try.underlying29]
set_option maxRecDepth 100000 in
set_option maxHeartbeats 1000000 in
theorem clone_c {w : World} {v : Value} {xs : List W8} (hB : Bytes w v xs) (hl : xs.length ≤ 100000) :
    Calls Try.prog 19 #[v] w fun e w' => ∃ v', e = .returned v' ∧ Ow w' w.heap.size v' xs ∧ Below w.heap.size w w' := by
  rcases bytes_nil_or hB with ⟨cap, rfl, rfl⟩ | ⟨ad, cap, rfl⟩
  · have hE := eql_nil none 0 cap
    go_enter Try.func19, Try.ntmps19
    go_wp2
    go_ret
    exact ⟨_, rfl, Ow.nil w _, Below.refl _ _⟩
  · have L0 := hid ((Below.refl w.heap.size w).alloc (Nat.le_refl _) (.cells #[] 5))
    have HB := hid (hB.below L0.out)
    have O0 := hid (Ow.empty w (Nat.le_refl _))
    clear hB
    have hE := eql_nil (some ad) xs.length cap
    go_enter Try.func19, Try.ntmps19
    go_wp2_with (at_builtin; refine wpList_app rfl (.tmp 5) (.tmp 6) rfl rfl rfl O0.out HB.out (by simp; omega) (by simp) ?_; intro v5 w5 O5 M5 _; have O5' := hid O5; have L5' := hid (M5.own_below O0.out (by simp) L0.out); clear O5 M5)
    go_ret
    exact ⟨_, rfl, by simpa using O5'.out, L5'.out⟩
theorem made_bytes (n m : Nat) (h : n ≤ m) (hm : m ≤ 1000000) : ∃ C : List Value, C.length = m ∧ ∀ W : World, (Instr.makeSlice 29 (.int .i64 (n : Int)) (.int .i64 (m : Int))).run Try.prog W = .ok (.slice (some ⟨W.heap.size, 0, none⟩) n m) (W.alloc (.cells C.toArray 5)) := by
  obtain ⟨i0, hi, hz0, hz1, hz2⟩ := info_parts info5
  refine ⟨(madeCells #[.int .u8 0] (m * 1)).toList, by simp [madeCells], fun W => ?_⟩
  have := run_makeSlice (P := Try.prog) W 29 5 i0 (.int .u8 0) Try.underlying29 hi hz0 .i64 .i64 n m (by omega) (by omega) (by rw [hz1]; simp; omega) (by rw [hz2]; omega) (by omega)
  rw [hz1, show (Value.int .u8 0).cells = #[.int .u8 0] from rfl] at this
  simpa using this
/-- 'copy' of bytes into a row of one's own. -/
theorem run_copy_bytes {w : World} {g : Nat} {C : List Value} {n m : Nat} {vx : Value} {xs : List W8} (hg : w.heap[g]? = some (.cells C.toArray 5 (0, 0))) (hB : Bytes w vx xs) (hn : xs.length ≤ n) (hC : xs.length ≤ C.length) (ty : TypeId) (B : Nat) (hBg : B ≤ g) :
    ∃ w', (Builtin.copy_ #[29, 29] ty #[.slice (some ⟨g, 0, none⟩) n m, vx]).run Try.prog w = .ok (.int .i64 xs.length) w' ∧ w'.heap[g]? = some (.cells (byv xs ++ C.drop xs.length).toArray 5 (0, 0)) ∧ Below B w w' := by
  rcases bytes_nil_or hB with ⟨cap, rfl, rfl⟩ | ⟨ad, cap, rfl⟩
  · refine ⟨w, run_copy_none (P := Try.prog) w 29 29 ty 5 _ none n m 0 cap Try.underlying29 (by kernel_rfl) (by simp), by simpa [byv] using hg, Below.refl _ _⟩
  · have hr := run_copy_row (P := Try.prog) w 29 29 ty 5 g 0 n m ad xs.length cap C.toArray 5 (byv xs) Try.underlying29 (by kernel_rfl) hg (by rw [byv_length]; exact (Nat.min_eq_left hn).symm) (bytes_at hB) (by rw [byv_length]; simpa using hC) (byv_one xs)
    refine ⟨_, hr.trans (by rw [byv_length]; rfl), ?_, below_setRow (Below.refl _ _) hBg _⟩
    have := setRow_heap w g _ (C.toArray.toList.take 0 ++ (byv xs ++ C.toArray.toList.drop (0 + (byv xs).length))).toArray _ _ hg
    simpa [byv_length] using this
set_option maxRecDepth 100000 in
set_option maxHeartbeats 1000000 in
theorem grown_c {w : World} {v : Value} {xs : List W8} (hB : Bytes w v xs) (hl : xs.length ≤ 100000) (r : Nat) (hr : r ≤ 100) :
    Calls Try.prog 52 #[v, .int .i64 r] w fun e w' => ∃ v', e = .returned v' ∧ Ow w' w.heap.size v' xs ∧ Below w.heap.size w w' := by
  obtain ⟨C, hC, hmk⟩ := made_bytes xs.length (xs.length + r) (by omega) (by omega)
  have hmk' : ∀ W : World, (Instr.makeSlice 29 (.int .i64 (xs.length : Int)) (.int .i64 ((xs.length : Int) + (r : Int)))).run Try.prog W = .ok (.slice (some ⟨W.heap.size, 0, none⟩) xs.length (xs.length + r)) (W.alloc (.cells C.toArray 5)) := fun W => by have := hmk W; simpa using this
  have L0 := hid ((Below.refl w.heap.size w).alloc (Nat.le_refl _) (.cells C.toArray 5))
  have HB := hid (hB.below L0.out)
  have hh := hid (show (w.alloc (.cells C.toArray 5)).heap[w.heap.size]? = some (.cells C.toArray 5 (0, 0)) from Blk.new w _ _)
  obtain ⟨px, cx, rfl, hq⟩ := hB
  obtain ⟨w5, hcp, hg5, hb5⟩ := run_copy_bytes (m := xs.length + r) hh.out HB.out (Nat.le_refl _) (by rw [hC]; omega) 3 w.heap.size (Nat.le_refl _)
  have HM := hid hmk'
  have HC := hid hcp
  have hg5' := hid hg5; have hb5' := hid (L0.out.trans hb5)
  clear hq hmk hmk' hcp hg5 hb5
  have hby := hid (byv_length xs)
  obtain ⟨n, hn⟩ : ∃ n, n = xs.length := ⟨_, rfl⟩
  rw [← hn] at HM hl HB hC hby HC hg5'
  have hn' := hid hn
  have hC' := hid hC
  rw [← hn]
  clear hn HB
  go_enter Try.func52, Try.ntmps52
  have hmk := HM.out
  have hcp := HC.out
  go_wp2
  go_ret
  refine ⟨_, rfl, ⟨by rw [byv_length, Nat.mul_one], Or.inr ⟨w.heap.size, n + r, _, by rw [← hn'.out]; rfl, Nat.le_refl _, hg5'.out, by rw [← hn'.out]; omega, by unfold maxLen; omega, ?_, ?_⟩⟩, hb5'.out⟩
  · simp [hby.out, hC'.out]
  · rw [← hn'.out]; simp [hby.out]
end Go.Proofs.Ytkehejkjifgieaa

/- num.Put, num.PutString. -/
namespace Go.Proofs.Ytkehejkjifgieaa
open Go.RowKit Go.ChangeMaps

def lebF : Nat → Nat → List W8
  | 0, n => [BitVec.ofNat 8 n]
  | f + 1, n => if n < 128 then [BitVec.ofNat 8 n] else BitVec.ofNat 8 (n % 128 + 128) :: lebF f (n / 128)
/-- A short number as it is written. -/
def leb (n : Nat) : List W8 := lebF 10 n
theorem lebF_small {f n : Nat} (h : n < 128) : lebF f n = [BitVec.ofNat 8 n] := by cases f with
  | zero => rfl
  | succ f => exact if_pos h
theorem lebF_big {f n : Nat} (h : ¬ n < 128) : lebF (f + 1) n = BitVec.ofNat 8 (n % 128 + 128) :: lebF f (n / 128) := if_neg h
theorem lebF_length : ∀ (f n : Nat), 1 ≤ (lebF f n).length ∧ (lebF f n).length ≤ f + 1
  | 0, n => ⟨Nat.le_refl _, Nat.le_refl _⟩
  | f + 1, n => by
    by_cases h : n < 128
    · rw [lebF_small h]; exact ⟨Nat.le_refl _, by simp⟩
    · rw [lebF_big h]; have := lebF_length f (n / 128); simp; omega
theorem ub_ofNat {n : Nat} (h : n < 256) : ub (BitVec.ofNat 8 n) = (n : Int) := by unfold ub; rw [BitVec.toNat_ofNat]; omega
theorem or128_b : ∀ b : W8, bits .or .u8 (ub b) 128 = ub (BitVec.ofNat 8 (b.toNat % 128 + 128)) := by decide +kernel
theorem or128 (m : Nat) : bits .or .u8 (((m : Int)) % 256) 128 = ub (BitVec.ofNat 8 (m % 128 + 128)) := by
  have h := or128_b (BitVec.ofNat 8 m)
  have e : ub (BitVec.ofNat 8 m) = (m : Int) % 256 := by unfold ub; rw [BitVec.toNat_ofNat]; omega
  rw [e, BitVec.toNat_ofNat, show m % 2 ^ 8 % 128 = m % 128 by omega] at h
  exact h
set_option maxRecDepth 100000 in
set_option maxHeartbeats 1000000 in
theorem put_c {w : World} {v : Value} {xs : List W8} (hB : Bytes w v xs) (hl : xs.length ≤ 99000) (N : Nat) (hN : N < 18446744073709551616) :
    Calls Try.prog 51 #[v, .int .u64 N] w fun e w' => ∃ v', e = .returned v' ∧ Ow w' w.heap.size v' (xs ++ leb N) ∧ Below w.heap.size w w' := by
  have HB := hid hB
  obtain ⟨px, cx, rfl, _⟩ := hB
  have hlen := hid (fun f m => lebF_length f m)
  obtain ⟨n, hn⟩ : ∃ n, n = xs.length := ⟨_, rfl⟩
  have hn' := hid hn
  rw [← hn] at HB hl ⊢
  clear hn
  go_enter Try.func51, Try.ntmps51
  go_wp2_with (go_at_call 52; refine (grown_c HB.out (by rw [← hn'.out]; omega) 10 (by decide)).mono ?_; rintro e w1 ⟨v1, rfl, O1, L1⟩; have O1' := hid O1; have L1' := hid L1; clear O1 L1)
  have hN' := hid (show N < 128 ^ (10 + 1) by omega)
  go_loopg [1, 5] N (fun g v1 v5 wr => ∃ (m f : Nat) (pre : List W8), v1 = .int .u64 m ∧ g = m ∧ m < 128 ^ (f + 1) ∧ m < 18446744073709551616 ∧ f ≤ 10 ∧ Hid (leb N = pre ++ lebF f m) ∧ Hid (pre.length + f = 10) ∧ Hid (Ow wr w.heap.size v5 (xs ++ pre)) ∧ Hid (Below w.heap.size w wr))
  case atStart => exact ⟨N, 10, [], rfl, rfl, hN'.out, hN, Nat.le_refl _, hid rfl, hid rfl, hid (by simpa using O1'.out), L1'⟩
  case round =>
    obtain ⟨m, f, pre, rfl, hg, hm, hm64, hf, hpre, hpl, O, L⟩ := hrel
    by_cases h128 : m < 128
    · have h128i : ¬ (128 : Int) ≤ (m : Int) := by omega
      have hm8 : (m : Int) % 256 = (m : Int) := by omega
      have hB1 := hid (show Bytes (wr.alloc (.cells #[.int .u8 (m : Int)] 5)) (.slice (some ⟨wr.heap.size, 0, none⟩) 1 1) [BitVec.ofNat 8 m] from Bytes.one' (by rw [ub_ofNat (by omega)]))
      have OA := hid (O.out.alloc (.cells #[.int .u8 (m : Int)] 5))
      have hlb := hid (show leb N = pre ++ [BitVec.ofNat 8 m] from by rw [hpre.out, lebF_small h128])
      have hle := hid (show (xs ++ pre).length + [BitVec.ofNat 8 m].length ≤ 1000000 from by have := hpl.out; have := hn'.out; simp; omega)
      have hba := hid (show w.heap.size ≤ (wr.alloc (.cells #[.int .u8 (m : Int)] 5)).heap.size from by have := L.out.size; simp; omega)
      have LA := hid (L.out.alloc (L.out.size) (.cells #[.int .u8 (m : Int)] 5))
      clear hpre hpl
      go_wp2_with (at_builtin; refine wpList_app rfl (.tmp 18) (.tmp 21) rfl rfl rfl OA.out hB1.out hle.out hba.out ?_; intro v5 w5 O5 M5 _; have O5' := hid O5; have L5' := hid (M5.own_below OA.out hba.out LA.out); clear O5 M5)
      go_ret
      exact ⟨_, rfl, by rw [hlb.out, ← List.append_assoc]; exact O5'.out, L5'.out⟩
    · have h128i : (128 : Int) ≤ (m : Int) := by omega
      have hor := or128 m
      obtain ⟨f', rfl⟩ : ∃ f', f = f' + 1 := by
        cases f with
        | zero => exact absurd hm (by simp; omega)
        | succ f' => exact ⟨f', rfl⟩
      have hX : m / 128 < 128 ^ (f' + 1) := Nat.div_lt_of_lt_mul (by rw [Nat.pow_succ] at hm; omega)
      obtain ⟨c, hc⟩ : ∃ c, c = (BitVec.ofNat 8 (m % 128 + 128) : W8) := ⟨_, rfl⟩
      have hpre' := hid (show leb N = (pre ++ [c]) ++ lebF f' (m / 128) from by rw [hpre.out, lebF_big h128, hc]; simp)
      rw [← hc] at hor
      clear hm hpre hc
      have hB1 := hid (show Bytes (wr.alloc (.cells #[.int .u8 (ub c)] 5)) (.slice (some ⟨wr.heap.size, 0, none⟩) 1 1) [c] from Bytes.one' rfl)
      have OA := hid (O.out.alloc (.cells #[.int .u8 (ub c)] 5))
      have hle := hid (show (xs ++ pre).length + [c].length ≤ 1000000 from by have := hpl.out; have := hn'.out; simp; omega)
      have hba := hid (show w.heap.size ≤ (wr.alloc (.cells #[.int .u8 (ub c)] 5)).heap.size from by have := L.out.size; simp; omega)
      have LA := hid (L.out.alloc (L.out.size) (.cells #[.int .u8 (ub c)] 5))
      go_wp2_with (at_builtin; refine wpList_app rfl (.tmp 12) (.tmp 16) rfl rfl rfl OA.out hB1.out hle.out hba.out ?_; intro v5 w5 O5 M5 _; have O5' := hid O5; have L5' := hid (M5.own_below OA.out hba.out LA.out); clear O5 M5)
      go_roundg (m / 128)
      case measure => omega
      case rel => exact ⟨m / 128, f', pre ++ [c], by go_num, rfl, hX, by omega, by omega, hpre', hid (by have := hpl.out; simp; omega), hid (by have := O5'.out; rwa [List.append_assoc] at this), L5'⟩
end Go.Proofs.Ytkehejkjifgieaa

/- num.PutString, num.TakeBytes. -/
namespace Go.Proofs.Ytkehejkjifgieaa
open Go.RowKit Go.ChangeMaps

set_option maxRecDepth 100000 in
set_option maxHeartbeats 1000000 in
theorem putString_c {w : World} {v vs : Value} {xs ss : List W8} (hB : Bytes w v xs) (hS : Bytes w vs ss) (hl : xs.length ≤ 99000) (hs : ss.length ≤ 100000) :
    Calls Try.prog 37 #[v, vs] w fun e w' => ∃ v', e = .returned v' ∧ Ow w' w.heap.size v' (xs ++ leb ss.length ++ ss) ∧ Below w.heap.size w w' := by
  have HB := hid hB; have HS := hid hS
  obtain ⟨px, cx, rfl, _⟩ := hB
  obtain ⟨ps, c2, rfl, _⟩ := hS
  obtain ⟨n, hn⟩ : ∃ n, n = xs.length := ⟨_, rfl⟩
  have hn' := hid hn
  have hl' := hid hl
  rw [← hn] at HB hl ⊢
  obtain ⟨m, hm⟩ : ∃ m, m = ss.length := ⟨_, rfl⟩
  have hm' := hid hm
  rw [← hm] at HS hs ⊢
  clear hn hm
  have hle := hid (show (xs ++ leb m).length + ss.length ≤ 1000000 from by have := lebF_length 10 m; have := hn'.out; have := hm'.out; unfold leb; simp; omega)
  go_enter Try.func37, Try.ntmps37
  go_wp2_with (first
    | (go_at_call 51; refine (put_c HB.out hl'.out m (by omega)).mono ?_; rintro e w1 ⟨v1, rfl, O1, L1⟩; have O1' := hid O1; have L1' := hid L1; have HS1 := hid (HS.out.below L1); clear O1 L1)
    | (at_builtin; refine wpList_app rfl (.tmp 9) (.tmp 10) rfl rfl rfl O1'.out HS1.out hle.out L1'.out.size ?_; intro v5 w5 O5 M5 _; have O5' := hid O5; have L5' := hid (M5.own_below O1'.out L1'.out.size L1'.out); clear O5 M5))
  go_ret
  exact ⟨_, rfl, O5'.out, L5'.out⟩
theorem Bytes.take {w : World} {ad : Addr} {n cap : Nat} {xs : List W8} (h : Bytes w (.slice (some ad) n cap) xs) (k : Nat) (hk : k ≤ xs.length) : Bytes w (.slice (some ad) k cap) (xs.take k) := by
  obtain ⟨p, cap', e, hq⟩ := h
  cases e
  refine ⟨_, cap, by rw [List.length_take, Nat.min_eq_left hk], fun h0 => ?_⟩
  rw [List.length_take, Nat.min_eq_left hk] at h0
  obtain ⟨b, off, e, h1, h2, h3, h4⟩ := hq (by omega)
  cases e
  refine ⟨b, off, rfl, h1, by rw [List.length_take]; omega, h3, fun i hi => ?_⟩
  rw [List.length_take] at hi
  rw [h4 i (by omega), List.getD_eq_getElem?_getD, List.getD_eq_getElem?_getD, List.getElem?_take_of_lt (by omega)]
/-- The address of a slice cut at k. -/
def cutAt (ad : Addr) (cap k : Nat) : Addr := if cap = k then ad else ad.add k
theorem Bytes.drop {w : World} {ad : Addr} {n cap : Nat} {xs : List W8} (h : Bytes w (.slice (some ad) n cap) xs) (k : Nat) (hk : k ≤ xs.length) : Bytes w (.slice (some (cutAt ad cap k)) (xs.length - k) (cap - k)) (xs.drop k) := by
  obtain ⟨p, cap', e, hq⟩ := h
  cases e
  refine ⟨_, cap - k, by rw [List.length_drop], fun h0 => ?_⟩
  rw [List.length_drop] at h0
  obtain ⟨b, off, e, h1, h2, h3, h4⟩ := hq (by omega)
  cases e
  refine ⟨b, off + k, ?_, h1, by rw [List.length_drop]; omega, by omega, fun i hi => ?_⟩
  · unfold cutAt; rw [if_neg (by omega), Addr.add_mid]
  · rw [List.length_drop] at hi
    have := h4 (k + i) (by omega)
    rw [show off + k + i = off + (k + i) by omega, this, List.getD_eq_getElem?_getD, List.getD_eq_getElem?_getD, List.getElem?_drop]
theorem Bytes.len_le {w : World} {ad : Addr} {n cap : Nat} {xs : List W8} (h : Bytes w (.slice (some ad) n cap) xs) (h0 : 0 < xs.length) : n = xs.length ∧ xs.length ≤ cap := by
  obtain ⟨p, cap', e, hq⟩ := h
  cases e
  obtain ⟨b, off, e, h1, h2, h3, h4⟩ := hq h0
  exact ⟨rfl, h2⟩
end Go.Proofs.Ytkehejkjifgieaa
