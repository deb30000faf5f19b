/- Frames: summed, data, ack, open, parse; num.TakeString. -/
import Derived.Test.YtkehejkjifgieaaHsh
namespace Go.Proofs.Ytkehejkjifgieaa
open Go.RowKit Go.ChangeMaps

theorem wpList_val {w w' : World} {ops : Array Oper} {rest : List Oper} {o : Oper} {a : Act} {Q : Exit → Act → World → Prop} {v : Value} (hgd : o.guard = none) (hr : (execOp a.eval o).run Try.prog w = .ok (.value v) w') (h : wpList Try.prog ops Q rest (a.put o.dst v) w') : wpList Try.prog ops Q (o :: rest) a w := by
  refine wpList_plain hgd fun K hK => ?_
  unfold Oper.wp
  rw [hr]
  exact hK _ _ h
set_option maxRecDepth 100000 in
theorem run_cut {ρ : Operand → Value} {o : Oper} {x lo : Operand} {ad : Addr} {n cap k : Nat} {w : World} (ho : o.op = .slice 29 x (some lo) none none) (hx : ρ x = .slice (some ad) n cap) (hlo : ρ lo = .int .i64 (k : Int)) (h1 : k ≤ n) (h2 : n ≤ cap) :
    (execOp ρ o).run Try.prog w = .ok (.value (.slice (some (cutAt ad cap k)) (n - k) (cap - k))) w := by
  have e1 : (k : Int) ≤ (n : Int) := by omega
  have e2 : (k : Int) ≤ (cap : Int) := by omega
  have e3 : (n : Int) ≤ (cap : Int) := by omega
  unfold execOp
  simp [go_sem, sliced, ho, hx, hlo, e1, cutAt]
  split <;> rfl

theorem wpList_cut {w : World} {ops : Array Oper} {rest : List Oper} {o : Oper} {a : Act} {Q : Exit → Act → World → Prop} (hgd : o.guard = none) (x lo : Operand) (ho : o.op = .slice 29 x (some lo) none none) {ad : Addr} {n cap k : Nat} {K : Int}
    (hx : a.eval x = .slice (some ad) n cap) (hlo : a.eval lo = .int .i64 K) (hK : K = (k : Int)) (h1 : k ≤ n) (h2 : n ≤ cap) (h : wpList Try.prog ops Q rest (a.put o.dst (.slice (some (cutAt ad cap k)) (n - k) (cap - k))) w) : wpList Try.prog ops Q (o :: rest) a w := by
  subst hK
  exact wpList_val hgd (run_cut ho hx hlo h1 h2) h

/-- Bytes with the first four of their hash. -/
def sumB (xs : List W8) : List W8 := xs ++ (shaL xs).take 4
def dataX (p : Nat) (m : List W8) : List W8 := [68] ++ le32 p ++ leb m.length ++ m
def dataB (p : Nat) (m : List W8) : List W8 := sumB (dataX p m)
def ackX (n : Nat) : List W8 := [65] ++ le32 n
def ackB (n : Nat) : List W8 := sumB (ackX n)
theorem sumB_length (xs : List W8) : (sumB xs).length = xs.length + 4 := by unfold sumB; rw [List.length_append, List.length_take, shaL_length]; rfl
theorem dataX_length (p : Nat) (m : List W8) : (dataX p m).length ≤ m.length + 20 := by
  have := lebF_length 10 m.length
  unfold dataX leb
  simp [le32_length]; omega
theorem ackX_length (n : Nat) : (ackX n).length = 5 := rfl
set_option maxRecDepth 100000 in
set_option maxHeartbeats 1000000 in
theorem summed_c {w : World} {base : Nat} {v : Value} {xs : List W8} (hO : Ow w base v xs) (hb : base ≤ w.heap.size) (hl : xs.length ≤ 100000) :
    Calls Try.prog 36 #[v] w fun e w' => ∃ v', e = .returned v' ∧ Ow w' base v' (sumB xs) ∧ Below base w w' := by
  have CS := hid (shaSum_l hO.bytes (by omega))
  have HO := hid hO
  have hz : ∀ W : World, (zeroValue 101).run Try.prog W = .ok (.agg (hl32 zero32)) W := zero_h32
  obtain ⟨p, c, rfl⟩ := hO.slice
  clear hO
  go_enter Try.func36, Try.ntmps36
  go_upto_region 2 with (first
    | ((with_reducible refine at_op (.store 101 (.tmp 3) (.tmp 5)) rfl ?_); refine wpList_store_mid rfl 101 (.tmp 3) (.tmp 5) rfl w1.heap.size 0 (hl32 (shaL xs)) rfl rfl (hash_there _) (hl32_info _) (hl32_one _) ?_)
    | (go_at_call 41; refine CS.out.mono ?_; rintro e w1 ⟨rfl, hb1⟩; have B1 := hid hb1; clear hb1))
  obtain ⟨w2, hw2⟩ : ∃ w2, w2 = (w1.alloc (.cells (hl32 zero32) 101)).setCells w1.heap.size 0 (hl32 (shaL xs)).toList := ⟨_, rfl⟩
  obtain ⟨L, Y⟩ := hash_laid hw2 (shaL_length _)
  have L2 := hid (show Below w.heap.size w w2 from B1.out.trans (L.mono B1.out.size))
  have Y2 := hid (show Bytes w2 (.slice (some ⟨w1.heap.size, 0, none⟩) 4 32) ((shaL xs).take 4) from by
    have := Bytes.take' (xs := shaL xs) (p := some ⟨w1.heap.size, 0, none⟩) (cap := 32) (by rw [shaL_length]; exact Y) 4 (by rw [shaL_length]; decide)
    exact this)
  have O2 := hid (HO.out.below L2.out)
  have LB := hid (L2.out.mono hb)
  have hb2 := hid (show base ≤ w2.heap.size by have := L2.out.size; omega)
  rw [← hw2]
  clear hw2 L Y
  go_wp2_with (at_builtin; refine wpList_app rfl (.tmp 6) (.tmp 7) rfl rfl rfl O2.out Y2.out (by rw [List.length_take, shaL_length]; omega) hb2.out ?_; intro v6 w6 O6 M6 _; have P6 := hid O6; have L6 := hid (M6.own_below O2.out hb2.out LB.out); clear O6 M6)
  go_ret
  exact ⟨_, rfl, P6.out, L6.out⟩
set_option maxRecDepth 100000 in
set_option maxHeartbeats 1000000 in
theorem data_c {w : World} {v : Value} {m : List W8} (hB : Bytes w v m) (hl : m.length ≤ 50000) (p : Nat) (hp : p < 4294967296) :
    Calls Try.prog 21 #[.int .u32 p, v] w fun e w' => ∃ v', e = .returned v' ∧ Ow w' w.heap.size v' (dataB p m) ∧ Below w.heap.size w w' := by
  have L0 := hid ((Below.refl w.heap.size w).alloc (Nat.le_refl _) (.cells #[.int .u8 68] 5))
  have B0 := hid (show Bytes (w.alloc (.cells #[.int .u8 68] 5)) (.slice (some ⟨w.heap.size, 0, none⟩) 1 1) [68] from Bytes.one' rfl)
  have HB := hid (hB.below L0.out)
  have hlen := hid (dataX_length p m)
  have ha := hid (show w.heap.size ≤ (w.alloc (.cells #[.int .u8 68] 5)).heap.size by simp)
  obtain ⟨q, c, rfl, _⟩ := hB
  go_enter Try.func21, Try.ntmps21
  go_wp2_with (first
    | (go_at_call 38; refine (put32_c B0.out (by decide) p hp).mono ?_; rintro e w1 ⟨v1, rfl, O1, hb1⟩; have P1 := hid (O1.lower ha.out); have B1 := hid (L0.out.trans (hb1.mono ha.out)); have HB1 := hid (HB.out.below hb1); clear O1 hb1)
    | (go_at_call 37; refine (putString_c P1.out.bytes HB1.out (by rw [List.length_append, le32_length]; decide) (by omega)).mono ?_; rintro e w2 ⟨v2, rfl, O2, hb2⟩; have P2 := hid (O2.lower B1.out.size); have B2 := hid (B1.out.trans (hb2.mono B1.out.size)); clear O2 hb2)
    | (go_at_call 36; refine (summed_c P2.out B2.out.size (by have := hlen.out; unfold dataX at this; omega)).mono ?_; rintro e w3 ⟨v3, rfl, O3, hb3⟩; have P3 := hid O3; have B3 := hid (B2.out.trans hb3); clear O3 hb3))
  go_ret
  exact ⟨_, rfl, P3.out, B3.out⟩
set_option maxRecDepth 100000 in
set_option maxHeartbeats 1000000 in
theorem ack_c (w : World) (n : Nat) (hn : n < 4294967296) :
    Calls Try.prog 26 #[.int .u32 n] w fun e w' => ∃ v', e = .returned v' ∧ Ow w' w.heap.size v' (ackB n) ∧ Below w.heap.size w w' := by
  have L0 := hid ((Below.refl w.heap.size w).alloc (Nat.le_refl _) (.cells #[.int .u8 65] 5))
  have B0 := hid (show Bytes (w.alloc (.cells #[.int .u8 65] 5)) (.slice (some ⟨w.heap.size, 0, none⟩) 1 1) [65] from Bytes.one' rfl)
  have ha := hid (show w.heap.size ≤ (w.alloc (.cells #[.int .u8 65] 5)).heap.size by simp)
  go_enter Try.func26, Try.ntmps26
  go_wp2_with (first
    | (go_at_call 38; refine (put32_c B0.out (by decide) n hn).mono ?_; rintro e w1 ⟨v1, rfl, O1, hb1⟩; have P1 := hid (O1.lower ha.out); have B1 := hid (L0.out.trans (hb1.mono ha.out)); clear O1 hb1)
    | (go_at_call 36; refine (summed_c P1.out B1.out.size (by rw [List.length_append, le32_length]; decide)).mono ?_; rintro e w3 ⟨v3, rfl, O3, hb3⟩; have P3 := hid O3; have B3 := hid (B1.out.trans hb3); clear O3 hb3))
  go_ret
  exact ⟨_, rfl, P3.out, B3.out⟩

/-- A string taken off: why not (0: it is), the string, the rest. -/
def takeStr (most : Nat) (xs : List W8) : Int × List W8 × List W8 :=
  if (takeN xs).1 = 0 then (if most < (takeN xs).2.1 then (4, [], []) else if (takeN xs).2.1 ≤ (xs.drop (takeN xs).2.2).length then (0, (xs.drop (takeN xs).2.2).take (takeN xs).2.1, (xs.drop (takeN xs).2.2).drop (takeN xs).2.1) else (2, [], [])) else ((takeN xs).1, [], [])
set_option maxRecDepth 100000 in
set_option maxHeartbeats 1000000 in
theorem takeString_c {w : World} {v : Value} {xs : List W8} (hX : Bytes w v xs) (hl : xs.length ≤ 100000) (most : Nat) (hm : most ≤ 100000) :
    Calls Try.prog 40 #[v, .int .i64 most] w fun e w' => (∃ v1 v2, e = .returned (.tuple #[v1, v2, .int .i64 (takeStr most xs).1]) ∧ Ow w' w.heap.size v1 (takeStr most xs).2.1 ∧ Ow w' w.heap.size v2 (takeStr most xs).2.2) ∧ Below w.heap.size w w' := by
  have CT := hid (numTake_c hX hl)
  obtain ⟨px, cx, rfl, _⟩ := hX
  unfold TakeAns at CT
  unfold takeStr
  by_cases h0 : (takeN xs).1 = 0
  · simp only [if_pos h0] at CT ⊢
    obtain ⟨n, hn⟩ : ∃ n, n = (takeN xs).2.1 := ⟨_, rfl⟩
    obtain ⟨ys, hy⟩ : ∃ ys, ys = xs.drop (takeN xs).2.2 := ⟨_, rfl⟩
    have hyl := hid (show ys.length ≤ 100000 by rw [hy, List.length_drop]; omega)
    rw [← hn, ← hy] at CT ⊢
    clear hn hy h0
    have hm0 : ¬ (most : Int) < 0 := by omega
    have hm1 : IntKind.u64.wrap (most : Int) = (most : Int) := by simp [IntKind.wrap, IntKind.bits, IntKind.signed]; omega
    by_cases hmn : most < n
    · simp only [if_pos hmn]
      have hmi : (most : Int) < (n : Int) := by omega
      go_enter Try.func40, Try.ntmps40
      go_wp2_with (go_at_call 55; refine CT.out.mono ?_; rintro e w1 ⟨⟨v1, rfl, O1⟩, hb1⟩; have L1 := hid hb1; clear O1 hb1)
      go_ret3
      exact ⟨⟨_, _, rfl, Ow.nil _ _, Ow.nil _ _⟩, L1.out⟩
    · simp only [if_neg hmn]
      have hmi : ¬ (most : Int) < (n : Int) := by omega
      have hnw : IntKind.i64.wrap (n : Int) = (n : Int) := by simp [IntKind.wrap, IntKind.bits, IntKind.signed]; omega
      have CB := hid (fun (W : World) (vy : Value) (h : Bytes W vy ys) => takeBytes_c h hyl.out n (by omega))
      go_enter Try.func40, Try.ntmps40
      by_cases hny : n ≤ ys.length
      · simp only [if_pos hny] at CB ⊢
        go_wp2_with (first
          | (go_at_call 55; refine CT.out.mono ?_; rintro e w1 ⟨⟨v1, rfl, O1⟩, hb1⟩; have L1 := hid hb1; have P1 := hid O1; clear O1 hb1; obtain ⟨p1, c1, rfl⟩ := P1.out.slice)
          | (go_at_call 43; refine (CB.out _ _ P1.out.bytes).mono ?_; rintro e w2 ⟨⟨v2, v3, rfl, O2, O3⟩, hb2⟩; have P2 := hid O2; have P3 := hid O3; have L2 := hid hb2; clear O2 O3 hb2))
        go_ret3
        exact ⟨⟨_, _, rfl, P2.out.lower L1.out.size, P3.out.lower L1.out.size⟩, L1.out.trans (L2.out.mono L1.out.size)⟩
      · simp only [if_neg hny] at CB ⊢
        go_wp2_with (first
          | (go_at_call 55; refine CT.out.mono ?_; rintro e w1 ⟨⟨v1, rfl, O1⟩, hb1⟩; have L1 := hid hb1; have P1 := hid O1; clear O1 hb1; obtain ⟨p1, c1, rfl⟩ := P1.out.slice)
          | (go_at_call 43; refine (CB.out _ _ P1.out.bytes).mono ?_; rintro e w2 ⟨rfl, hb2⟩; have L2 := hid hb2; clear hb2))
        go_ret3
        exact ⟨⟨_, _, rfl, Ow.nil _ _, Ow.nil _ _⟩, L1.out.trans (L2.out.mono L1.out.size)⟩
  · simp only [if_neg h0] at CT ⊢
    have e0 : ((takeN xs).1 != 0) = true := by simpa using h0
    obtain ⟨c, hc⟩ : ∃ c, c = (takeN xs).1 := ⟨_, rfl⟩
    rw [← hc] at CT e0 h0 ⊢
    clear hc
    go_enter Try.func40, Try.ntmps40
    go_wp2_with (go_at_call 55; refine CT.out.mono ?_; rintro e w1 ⟨rfl, hb1⟩; have L1 := hid hb1; clear hb1)
    go_ret3
    exact ⟨⟨_, _, rfl, Ow.nil _ _, Ow.nil _ _⟩, L1.out⟩
theorem takeString_k {w : World} {v : Value} {xs : List W8} (hX : Bytes w v xs) (hl : xs.length ≤ 100000) (K : Int) (most : Nat) (hK : K = (most : Int)) (hm : most ≤ 100000) {s : Int × List W8 × List W8} (hs : s = takeStr most xs) :
    Calls Try.prog 40 #[v, .int .i64 K] w fun e w' => (∃ v1 v2, e = .returned (.tuple #[v1, v2, .int .i64 s.1]) ∧ Ow w' w.heap.size v1 s.2.1 ∧ Ow w' w.heap.size v2 s.2.2) ∧ Below w.heap.size w w' := by
  subst hK hs
  exact takeString_c hX hl most hm
end Go.Proofs.Ytkehejkjifgieaa
