/- The program's May. -/
import Derived.Test.YtpbkdjnogjmfcaaCells
import Derived.Test.YtpbkdjnogjmfcaaWd
import Derived.IntWalk
namespace Go.Proofs.Ytpbkdjnogjmfcaa
open Go.RowKit Go.ChangeMaps

theorem hl32_get (xs : List W8) {j : Nat} (h : j < 32) : (hl32 xs)[j]? = some (.int .u8 (ub (xs.getD j 0))) := arr_get _ _ h
/-- A slice of cells as it is read. -/
def CellsAt (w : World) (cv : Value) (cs : List (Int × List W8)) : Prop :=
  ∃ p cap, cv = .slice p cs.length cap ∧ cs.length ≤ maxLen ∧ (0 < cs.length → ∃ b off, p = some ⟨b, off, none⟩ ∧ b < w.heap.size ∧ cs.length ≤ cap ∧ ∀ i, i < cs.length → ∃ vb, w.cell? ⟨b, off + i * 2, none⟩ = some (.int .i64 (cellAt cs i).1) ∧ w.cell? ⟨b, off + i * 2 + 1, none⟩ = some vb ∧ Bytes w vb (cellAt cs i).2)
theorem CellsAt.below {w w' : World} {cv : Value} {cs : List (Int × List W8)} (h : CellsAt w cv cs) (hb : Below w.heap.size w w') : CellsAt w' cv cs := by
  obtain ⟨p, cap, rfl, hm, h⟩ := h
  refine ⟨p, cap, rfl, hm, fun h0 => ?_⟩
  obtain ⟨b, off, h1, h2, h3, h4⟩ := h h0
  refine ⟨b, off, h1, Nat.lt_of_lt_of_le h2 hb.size, h3, fun i hi => ?_⟩
  obtain ⟨vb, k1, k2, k3⟩ := h4 i hi
  exact ⟨vb, (hb.cell (p := ⟨b, off + i * 2, none⟩) h2).trans k1, (hb.cell (p := ⟨b, off + i * 2 + 1, none⟩) h2).trans k2, k3.below hb⟩
theorem Bytes.len {w : World} {v : Value} {xs : List W8} (h : Bytes w v xs) : ∃ p c, v = .slice p xs.length c := by obtain ⟨p, c, h, _⟩ := h; exact ⟨p, c, h⟩
set_option maxRecDepth 100000 in
set_option maxHeartbeats 1000000 in
theorem isCell_c {w : World} {vb : Value} {B : List W8} (a : Int) (hB : Bytes w vb B) :
    Calls Try.prog 21 #[.agg #[.int .i64 a, vb]] w fun e w' => e = .returned (.bool (decide (cellOk (a, B)))) ∧ Below w.heap.size w w' := by
  obtain ⟨p, c, rfl⟩ := hB.len
  obtain ⟨n, hn⟩ : ∃ n, n = B.length := ⟨_, rfl⟩
  have hq := hid (show decide (cellOk (a, B)) = (decide (0 ≤ a) && (decide (a < 16) && (decide (n = 0) || decide (n = 256)))) by rw [hn]; unfold cellOk; simp [Bool.decide_and, Bool.decide_or])
  rw [hq.out, ← hn]
  clear hB hn
  have L0 := hid ((Below.refl w.heap.size w).alloc (Nat.le_refl _) (.cells #[.int .i64 a, .slice p n c] 44))
  by_cases h0 : 0 ≤ a
  · by_cases h16 : a < 16
    · by_cases hn0 : n = 0
      · subst hn0
        go_enter Try.func21, Try.ntmps21
        go_wp2
        go_ret
        exact ⟨by simp, L0.out⟩
      · have hn0i : ((n : Int) == 0) = false := by simp; omega
        by_cases h256 : n = 256
        · subst h256
          go_enter Try.func21, Try.ntmps21
          go_wp2
          go_ret
          exact ⟨by simp, L0.out⟩
        · have h256i : ((n : Int) == 256) = false := by simp; omega
          go_enter Try.func21, Try.ntmps21
          go_wp2
          go_ret
          exact ⟨by simp [h0, h16, hn0, h256], L0.out⟩
    · go_enter Try.func21, Try.ntmps21
      go_wp2
      go_ret
      exact ⟨by simp; omega, L0.out⟩
  · go_enter Try.func21, Try.ntmps21
    go_wp2
    go_ret
    exact ⟨by simp; omega, L0.out⟩
set_option maxRecDepth 100000 in
theorem hl32_cells {x : List W8} (h : x.length = 32) : hl32 x = (((x.map (fun b => (⟨b⟩ : UInt8))).map Extern.Stop.cell).toArray : Array Value) := by
  symm
  refine arr_ext (by simp [h]) (fun i hi => ?_)
  have hi' : i < x.length := by omega
  simp [List.getElem?_map, List.getElem?_eq_getElem hi']
  rfl
set_option maxRecDepth 100000 in
theorem eq32 {x y : List W8} (hx : x.length = 32) (hy : y.length = 32) (W : World) : (Op.equalIn 10000 22 (.agg (hl32 x)) (.agg (hl32 y))).run Try.prog W = .ok (decide (x = y)) W := by
  rw [hl32_cells hx, hl32_cells hy]
  have := run_equalIn_bytes (P := Try.prog) W 9998 22 5 32 Try.underlying22 Try.underlying5 (fun _ => rfl) (x.map (fun b => (⟨b⟩ : UInt8))) (y.map (fun b => (⟨b⟩ : UInt8))) (by simpa using hx) (by simpa using hy)
  rw [this]
  congr 1
  rw [Bool.eq_iff_iff]
  simp only [decide_eq_true_eq, beq_iff_eq]
  constructor
  · intro h
    have := congrArg (List.map (fun x : UInt8 => x.toBitVec)) h
    simpa [List.map_map, Function.comp_def] using this
  · intro h; rw [h]
end Go.Proofs.Ytpbkdjnogjmfcaa

/- The program's May: the names. -/
namespace Go.Proofs.Ytpbkdjnogjmfcaa
open Go.RowKit Go.ChangeMaps

/-- A stream's value in a block of its own. -/
theorem strm_cells {w : World} {b : Nat} {T : TypeId} {s : Strm} {cv : Value} (F : Fn w b T 69 (sf s cv)) : w.cell? ⟨b, 0, none⟩ = some (.bool s.inc) ∧ w.cell? ⟨b, 1, none⟩ = some (.string (str s.set)) ∧ w.cell? ⟨b, 2, none⟩ = some (.string (str s.frm)) ∧ w.cell? ⟨b, 3, none⟩ = some (.string (str s.til)) ∧ w.cell? ⟨b, 68, none⟩ = some cv :=
  ⟨F.cell (j := 0) (by decide), F.cell (j := 1) (by decide), F.cell (j := 2) (by decide), F.cell (j := 3) (by decide), F.cell (j := 68) (by decide)⟩
theorem strm_base {w : World} {b : Nat} {T : TypeId} {s : Strm} {cv : Value} (F : Fn w b T 69 (sf s cv)) : w.rangeAt b 4 (hl32 s.base).toList := by
  intro j v hv
  have hj : j < 32 := by rw [← hl32_size s.base]; simpa using (List.getElem?_eq_some_iff.1 hv).1
  rw [Array.getElem?_toList, hl32_get _ hj] at hv
  rw [← hv, F.cell (j := 4 + j) (by omega)]
  unfold sf
  rw [if_neg (by omega), if_neg (by omega), if_neg (by omega), if_neg (by omega), if_pos (by omega), show 4 + j - 4 = j by omega]
theorem load_h32 {W : World} {b o : Nat} {xs : List W8} (h : W.rangeAt b o (hl32 xs).toList) : (Instr.loadAt 22 (.pointer (some ⟨b, o, none⟩))).run Try.prog W = .ok (.agg (hl32 xs)) W := by
  have := run_loadAt_mid (P := Try.prog) W b o 22 (hl32 xs).toList _ h Try.underlying22 rfl (by rw [Array.length_toList, hl32_size]; kernel_rfl)
  simpa using this
theorem wpList_load_g {ops : Array Oper} {rest : List Oper} {op : Oper} {a : Act} {w : World} {Q : Exit → Act → World → Prop} (hw : Region.wanted op (yielded ops a.tmps) = true) (ty : TypeId) (x : Operand) (ho : op.op = .load ty x)
    (b o : Nat) (hx : a.eval x = .pointer (some ⟨b, o, none⟩)) (cs : List Value) (d : TypeDesc) (hc : w.rangeAt b o cs)
    (hu : Try.prog.underlying ty = some d) (hd : d.isRow = true) (hi : (Try.prog.info? ty).map (·.size) = some cs.length)
    (h : wpList Try.prog ops Q rest (a.put op.dst (.agg cs.toArray)) w) : wpList Try.prog ops Q (op :: rest) a w := by
  unfold wpList
  rw [if_pos hw]
  exact Or.inl (wp_load_mid ty x ho b o hx cs d hc hu hd hi h)
theorem str_isEmpty (xs : List W8) : (str xs).toList.isEmpty = decide (xs = []) := by
  rw [str_toList]
  cases xs <;> simp
set_option maxRecDepth 100000 in
set_option maxHeartbeats 2000000 in
theorem isNamed_c {w : World} {s : Strm} {cv : Value} {zs : Array Value} (hzs : zs = strmV s cv) (hb : s.base.length = 32) :
    Calls Try.prog 22 #[.agg zs] w fun e w' => e = .returned (.bool (decide (namedS s))) ∧ Below w.heap.size w w' := by
  obtain ⟨w1, hw1⟩ : ∃ w1, w1 = w.alloc (.cells zs 25) := ⟨_, rfl⟩
  have L1 := hid (show Below w.heap.size w w1 by rw [hw1]; exact (Below.refl _ w).alloc (Nat.le_refl _) _)
  have F1 := hid (show Fn w1 w.heap.size 25 69 (sf s cv) by rw [hw1, hzs]; exact Fn.arr w _ 69 _)
  have FF := hid (fun (W : World) (h : Below w1.heap.size w1 W) => strm_cells (F1.out.below h F1.out.lt))
  have FB := hid (fun (W : World) (h : Below w1.heap.size w1 W) => strm_base (F1.out.below h F1.out.lt))
  obtain ⟨c0, c1, c2, c3, _⟩ := FF.out w1 (Below.refl _ _)
  have hq := hid (show decide (namedS s) = decide (nameOk s.set ∧ nameOk s.til ∧ if s.inc = true then nameOk s.frm else s.frm = [] ∧ s.base = zero32) from rfl)
  have IN := hid (fun (xs : List W8) (W : World) => (isName_c W (str xs) : Calls Try.prog 46 #[.string (str xs)] W fun e w' => e = .returned (.bool (decide (nameOk xs))) ∧ Below W.heap.size W w'))
  have HB := hid hb
  clear hzs
  by_cases hset : nameOk s.set
  · have e1 : decide (nameOk s.set) = true := decide_eq_true hset
    by_cases htil : nameOk s.til
    · have e2 : decide (nameOk s.til) = true := decide_eq_true htil
      by_cases hinc : s.inc = true
      · rw [hinc] at c0 FF
        have hq' := hid (hq.out.trans (show _ = decide (nameOk s.frm) by simp [hset, htil, hinc]))
        have N1 := hid (e1 ▸ IN.out s.set : ∀ W : World, Calls Try.prog 46 #[.string (str s.set)] W fun e w' => e = .returned (.bool true) ∧ Below W.heap.size W w')
        have N2 := hid (e2 ▸ IN.out s.til : ∀ W : World, Calls Try.prog 46 #[.string (str s.til)] W fun e w' => e = .returned (.bool true) ∧ Below W.heap.size W w')
        have N3 := hid (IN.out s.frm)
        clear e1 e2 hset htil hinc
        go_enter Try.func22, Try.ntmps22
        go_upto_region 1 with fail
        rw [← hw1]
        clear hw1
        go_wp2_with (first
          | (go_at_call 46; ((with_reducible refine (N3.out _).mono ?_); rintro e w4 ⟨rfl, hb4⟩); obtain ⟨c0, c1, c2, c3, _⟩ := FF.out _ (B3.out.trans (hb4.mono B3.out.size)); have RB := FB.out _ (B3.out.trans (hb4.mono B3.out.size)); have B4 := hid (B3.out.trans (hb4.mono B3.out.size)); clear hb4)
          | (go_at_call 46; ((with_reducible refine (N2.out _).mono ?_); rintro e w3 ⟨rfl, hb3⟩); obtain ⟨c0, c1, c2, c3, _⟩ := FF.out _ (B2.out.trans (hb3.mono B2.out.size)); have RB := FB.out _ (B2.out.trans (hb3.mono B2.out.size)); have B3 := hid (B2.out.trans (hb3.mono B2.out.size)); clear hb3)
          | (go_at_call 46; ((with_reducible refine (N1.out _).mono ?_); rintro e w2 ⟨rfl, hb2⟩); obtain ⟨c0, c1, c2, c3, _⟩ := FF.out _ (hb2); have RB := FB.out _ (hb2); have B2 := hid (hb2); clear hb2))
        go_ret
        exact ⟨by rw [hq'.out]; rfl, L1.out.trans (B4.out.mono L1.out.size)⟩
      · have hinc' : s.inc = false := by simpa using hinc
        rw [hinc'] at c0 FF
        have hE := str_isEmpty s.frm
        have hz : ∀ W : World, (zeroValue 22).run Try.prog W = .ok (.agg (hl32 zero32)) W := zero_h32
        have heq := eq32 (x := s.base) (y := zero32) HB.out (by decide)
        have hisz := hid (show (Try.prog.info? 22).map (·.size) = some (hl32 s.base).toList.length from by rw [Array.length_toList, hl32_size]; kernel_rfl)
        have N1 := hid (e1 ▸ IN.out s.set : ∀ W : World, Calls Try.prog 46 #[.string (str s.set)] W fun e w' => e = .returned (.bool true) ∧ Below W.heap.size W w')
        have N2 := hid (e2 ▸ IN.out s.til : ∀ W : World, Calls Try.prog 46 #[.string (str s.til)] W fun e w' => e = .returned (.bool true) ∧ Below W.heap.size W w')
        by_cases hfrm : s.frm = []
        · have hq' := hid (hq.out.trans (show _ = decide (s.base = zero32) by simp [hset, htil, hinc', hfrm]))
          rw [decide_eq_true hfrm] at hE
          clear e1 e2 hset htil hinc hinc' hfrm
          go_enter Try.func22, Try.ntmps22
          go_upto_region 1 with fail
          rw [← hw1]
          clear hw1
          go_wp2_with (first
            | ((with_reducible refine at_op (.load 22 (.tmp 22)) rfl ?_); refine wpList_load_g (by rfl) 22 (.tmp 22) rfl w.heap.size 4 rfl (hl32 s.base).toList _ RB Try.underlying22 rfl hisz.out ?_)
            | (go_at_call 46; ((with_reducible refine (N2.out _).mono ?_); rintro e w3 ⟨rfl, hb3⟩); obtain ⟨c0, c1, c2, c3, _⟩ := FF.out _ (B2.out.trans (hb3.mono B2.out.size)); have RB := FB.out _ (B2.out.trans (hb3.mono B2.out.size)); have B3 := hid (B2.out.trans (hb3.mono B2.out.size)); clear hb3)
            | (go_at_call 46; ((with_reducible refine (N1.out _).mono ?_); rintro e w2 ⟨rfl, hb2⟩); obtain ⟨c0, c1, c2, c3, _⟩ := FF.out _ (hb2); have RB := FB.out _ (hb2); have B2 := hid (hb2); clear hb2))
          go_ret
          exact ⟨by rw [hq'.out]; rfl, L1.out.trans (B3.out.mono L1.out.size)⟩
        · have hq' := hid (hq.out.trans (show _ = false by simp [hinc', hfrm]))
          rw [decide_eq_false hfrm] at hE
          clear e1 e2 hset htil hinc hinc' hfrm
          go_enter Try.func22, Try.ntmps22
          go_upto_region 1 with fail
          rw [← hw1]
          clear hw1
          go_wp2_with (first
            | (go_at_call 46; ((with_reducible refine (N2.out _).mono ?_); rintro e w3 ⟨rfl, hb3⟩); obtain ⟨c0, c1, c2, c3, _⟩ := FF.out _ (B2.out.trans (hb3.mono B2.out.size)); have RB := FB.out _ (B2.out.trans (hb3.mono B2.out.size)); have B3 := hid (B2.out.trans (hb3.mono B2.out.size)); clear hb3)
            | (go_at_call 46; ((with_reducible refine (N1.out _).mono ?_); rintro e w2 ⟨rfl, hb2⟩); obtain ⟨c0, c1, c2, c3, _⟩ := FF.out _ (hb2); have RB := FB.out _ (hb2); have B2 := hid (hb2); clear hb2))
          go_ret
          exact ⟨by rw [hq'.out]; rfl, L1.out.trans (B3.out.mono L1.out.size)⟩
    · have e2 : decide (nameOk s.til) = false := decide_eq_false htil
      have hq' := hid (hq.out.trans (show _ = false by simp [htil]))
      have N1 := hid (e1 ▸ IN.out s.set : ∀ W : World, Calls Try.prog 46 #[.string (str s.set)] W fun e w' => e = .returned (.bool true) ∧ Below W.heap.size W w')
      have N2 := hid (e2 ▸ IN.out s.til : ∀ W : World, Calls Try.prog 46 #[.string (str s.til)] W fun e w' => e = .returned (.bool false) ∧ Below W.heap.size W w')
      clear e1 e2 hset htil
      go_enter Try.func22, Try.ntmps22
      go_upto_region 1 with fail
      rw [← hw1]
      clear hw1
      go_wp2_with (first
        | (go_at_call 46; ((with_reducible refine (N2.out _).mono ?_); rintro e w3 ⟨rfl, hb3⟩); obtain ⟨c0, c1, c2, c3, _⟩ := FF.out _ (B2.out.trans (hb3.mono B2.out.size)); have RB := FB.out _ (B2.out.trans (hb3.mono B2.out.size)); have B3 := hid (B2.out.trans (hb3.mono B2.out.size)); clear hb3)
        | (go_at_call 46; ((with_reducible refine (N1.out _).mono ?_); rintro e w2 ⟨rfl, hb2⟩); obtain ⟨c0, c1, c2, c3, _⟩ := FF.out _ (hb2); have RB := FB.out _ (hb2); have B2 := hid (hb2); clear hb2))
      go_ret
      exact ⟨by rw [hq'.out]; rfl, L1.out.trans (B3.out.mono L1.out.size)⟩
  · have e1 : decide (nameOk s.set) = false := decide_eq_false hset
    have hq' := hid (hq.out.trans (show _ = false by simp [hset]))
    have N1 := hid (e1 ▸ IN.out s.set : ∀ W : World, Calls Try.prog 46 #[.string (str s.set)] W fun e w' => e = .returned (.bool false) ∧ Below W.heap.size W w')
    clear e1 hset
    go_enter Try.func22, Try.ntmps22
    go_upto_region 1 with fail
    rw [← hw1]
    clear hw1
    go_wp2_with (go_at_call 46; refine (N1.out _).mono ?_; rintro e w2 ⟨rfl, hb2⟩; have hb2' := hid hb2; clear hb2)
    go_ret
    exact ⟨by rw [hq'.out]; rfl, L1.out.trans (hb2'.out.mono L1.out.size)⟩
end Go.Proofs.Ytpbkdjnogjmfcaa

/- The program's May. -/
namespace Go.Proofs.Ytpbkdjnogjmfcaa
open Go.RowKit Go.ChangeMaps

set_option maxRecDepth 100000 in
set_option maxHeartbeats 2000000 in
theorem may_c {w : World} {s : Strm} {cv : Value} {zs : Array Value} (hzs : zs = strmV s cv) (hb : s.base.length = 32) (hC : CellsAt w cv s.cells) :
    Calls Try.prog 12 #[.agg zs] w fun e w' => e = .returned (.bool (decide (mayS s))) ∧ Below w.heap.size w w' := by
  obtain ⟨w1, hw1⟩ : ∃ w1, w1 = w.alloc (.cells zs 25) := ⟨_, rfl⟩
  have L1 := hid (show Below w.heap.size w w1 by rw [hw1]; exact (Below.refl _ w).alloc (Nat.le_refl _) _)
  have F1 := hid (show Fn w1 w.heap.size 25 69 (sf s cv) by rw [hw1, hzs]; exact Fn.arr w _ 69 _)
  have hw1s := hid (show w.heap.size < w1.heap.size from Fn.lt F1.out)
  have C1 := hid (hC.below L1.out)
  have hz1 := hid (show zs.size = 69 by rw [hzs]; exact strmV_size _ _)
  have HZ := hid hzs
  obtain ⟨p, cap, rfl, hm, hcells⟩ := hC
  obtain ⟨n, hn⟩ : ∃ n, n = s.cells.length := ⟨_, rfl⟩
  have hn' := hid hn
  rw [← hn] at hm hcells HZ F1 C1
  unfold maxLen at hm
  have HC := hid hcells
  have c68 : w1.cell? ⟨w.heap.size, 68, none⟩ = some (.slice p n cap) := (strm_cells F1.out).2.2.2.2
  clear hcells hn hzs
  have RS := hid (fun W (h : Below w1.heap.size w1 W) => show W.rangeAt w.heap.size 0 zs.toList from ((F1.out.below h F1.out.lt).range' zs hz1.out (fun j hj => by rw [HZ.out]; exact strmV_get _ _ hj)))
  have hinf := hid (show (Try.prog.info? 25).map (·.size) = some zs.toList.length from by rw [Array.length_toList, hz1.out]; kernel_rfl)
  go_enter Try.func12, Try.ntmps12
  go_upto_region 1 with fail
  rw [← hw1]
  clear hw1
  go_wp2
  go_loopg [8] n (fun g v8 wr => ∃ i : Nat, v8 = .int .i64 i ∧ g = n - i ∧ i ≤ n ∧ Hid (∀ j, j < i → mayC s.cells j) ∧ Hid (Below w1.heap.size w1 wr))
  case atStart => exact ⟨0, rfl, rfl, Nat.zero_le _, hid (fun j hj => absurd hj (Nat.not_lt_zero j)), hid (Below.refl _ _)⟩
  case round =>
    obtain ⟨i, rfl, hg, hi, HM, BR⟩ := hrel
    by_cases hlt : i < n
    · have hlti : (i : Int) < (n : Int) := by omega
      obtain ⟨b, off, e, hbl, hcap, hcell⟩ := HC.out (by omega)
      cases e
      have hb1 : b < w1.heap.size := by have := hw1s.out; omega
      obtain ⟨vb, k1, k2, k3⟩ := hcell i hlt
      have Lr := hid (L1.out.trans (BR.out.mono L1.out.size))
      have d1 : wr.cell? ⟨b, off + i * 2, none⟩ = some (.int .i64 (cellAt s.cells i).1) := (Lr.out.cell (p := ⟨b, off + i * 2, none⟩) hbl).trans k1
      have d2 : wr.cell? ⟨b, off + i * 2 + 1, none⟩ = some vb := (Lr.out.cell (p := ⟨b, off + i * 2 + 1, none⟩) hbl).trans k2
      obtain ⟨a, ha⟩ : ∃ a, a = (cellAt s.cells i).1 := ⟨_, rfl⟩
      rw [← ha] at d1
      have ha' := hid ha
      have hcapi : (n : Int) ≤ (cap : Int) := by omega
      have IC := hid (fun (W : World) (h : Below wr.heap.size wr W) => (ha ▸ isCell_c (cellAt s.cells i).1 ((k3.below Lr.out).below h) : Calls Try.prog 21 #[.agg #[.int .i64 a, vb]] W fun e w' => e = .returned (.bool (decide (cellOk (cellAt s.cells i)))) ∧ Below W.heap.size W w'))
      obtain ⟨pb, nb, cb, rfl⟩ := k3.form
      have HK := hid hcell
      clear k1 k2 k3 hcell ha
      go_upto_region 4 with fail
      obtain ⟨W0, hW0⟩ : ∃ W0, W0 = wr.alloc (.cells #[.int .i64 a, .slice pb nb cb] 44) := ⟨_, rfl⟩
      have L0 := hid (show Below wr.heap.size wr W0 by rw [hW0]; exact (Below.refl _ wr).alloc (Nat.le_refl _) _)
      have B0 := hid (show Blk W0 wr.heap.size #[.int .i64 a, .slice pb nb cb] 44 by rw [hW0]; exact Blk.new wr _ _)
      have LB := hid (fun m : Wd W0 => show Below w.heap.size w m.w from Lr.out.trans ((L0.out.trans (m.h.mono L0.out.size)).mono Lr.out.size))
      have BR0 := hid (show Below w1.heap.size w1 W0 from BR.out.trans (L0.out.mono BR.out.size))
      rw [← hW0]
      clear hW0
      have g0 : ∀ m : Wd W0, m.w.cell? ⟨wr.heap.size, 0, none⟩ = some (.int .i64 a) := fun m => (m.h.cell (p := ⟨wr.heap.size, 0, none⟩) B0.out.lt).trans (B0.out.cellv rfl)
      have g1 : ∀ m : Wd W0, m.w.cell? ⟨wr.heap.size, 1, none⟩ = some (.slice pb nb cb) := fun m => (m.h.cell (p := ⟨wr.heap.size, 1, none⟩) B0.out.lt).trans (B0.out.cellv rfl)
      have g68 : ∀ m : Wd W0, m.w.cell? ⟨w.heap.size, 68, none⟩ = some (.slice (some ⟨b, off, none⟩) n cap) := fun m => ((BR0.out.trans (m.h.mono BR0.out.size)).cell (p := ⟨w.heap.size, 68, none⟩) hw1s.out).trans c68
      clear d1 d2
      by_cases hok : cellOk (cellAt s.cells i)
      · have IQ := hid (fun m : Wd W0 => (by have := IC.out m.w (L0.out.trans (m.h.mono L0.out.size)); rwa [decide_eq_true hok] at this : Calls Try.prog 21 #[.agg #[.int .i64 a, .slice pb nb cb]] m.w fun e w' => e = .returned (.bool true) ∧ Below m.w.heap.size m.w w'))
        have HOK := hid hok
        clear hok
        cases i with
        | zero =>
          have HYES := hid (show mayC s.cells 0 from ⟨HOK.out, fun h => absurd h (Nat.lt_irrefl 0)⟩)
          refine region_wd (by kernel_rfl) (by kernel_rfl) ?_
          repeat (first
            | go_big_quiet_skip
            | (go_big_quiet_want
               go_big_quiet_op
               first
               | go_big_quiet_on
               | go_big_quiet_call ((go_at_call 21; exact Wd.call _ (IQ.out _))))
            )
          refine wpQuiet_nil ?_
          rintro _ ⟨nq, rfl⟩
          have HM2 := hid (show ∀ j, j < 0 + 1 → mayC s.cells j from fun j hj => by
            by_cases e : j = 0
            · rw [e]; exact HYES.out
            · exact HM.out j (by omega))
          have BR2 := hid (BR0.out.trans (nq.h.mono BR0.out.size) : Below w1.heap.size w1 nq.w)
          go_wp2
          go_roundg (n - (0 + 1))
          case measure => omega
          case rel => exact ⟨0 + 1, by go_num, rfl, by omega, HM2, BR2⟩
        | succ j =>
          obtain ⟨vb', k1', _, _⟩ := HK.out j (by omega)
          obtain ⟨a0, ha0⟩ : ∃ a0, a0 = (cellAt s.cells j).1 := ⟨_, rfl⟩
          rw [← ha0] at k1'
          have ha0' := hid ha0
          have gp : ∀ m : Wd W0, m.w.cell? ⟨b, off + j * 2, none⟩ = some (.int .i64 a0) := fun m => ((LB.out m).cell (p := ⟨b, off + j * 2, none⟩) hbl).trans k1'
          clear k1' ha0
          have hj1 : ((j : Int) + 1 - 1) = (j : Int) := by omega
          have hj2 : (j : Int) < (n : Int) := by omega
          have hj3 : IntKind.i64.wrap ((j : Int) + 1 - 1) = (j : Int) := by rw [hj1]; exact IntWalk.i64_in _ (by omega)
          by_cases hle : a ≤ a0
          · have HNO := hid (show ¬ mayC s.cells (j + 1) from fun h => by have := h.2 (by omega); rw [show j + 1 - 1 = j by omega, ← ha'.out, ← ha0'.out] at this; omega)
            have HF := hid (show ¬ mayS s from fun h => HNO.out (h.1 (j + 1) (by rw [← hn'.out]; exact hlt)))
            refine region_wd (by kernel_rfl) (by kernel_rfl) ?_
            repeat (first
              | go_big_quiet_skip
              | (go_big_quiet_want
                 go_big_quiet_op
                 first
                 | go_big_quiet_on
                 | go_big_quiet_call ((go_at_call 21; exact Wd.call _ (IQ.out _))))
              )
            refine wpQuiet_nil ?_
            rintro _ ⟨nq, rfl⟩
            go_wp2
            go_ret
            exact ⟨by rw [decide_eq_false HF.out]; rfl, LB.out nq⟩
          · have HYES := hid (show mayC s.cells (j + 1) from ⟨HOK.out, fun _ => by rw [show j + 1 - 1 = j by omega, ← ha'.out, ← ha0'.out]; omega⟩)
            refine region_wd (by kernel_rfl) (by kernel_rfl) ?_
            repeat (first
              | go_big_quiet_skip
              | (go_big_quiet_want
                 go_big_quiet_op
                 first
                 | go_big_quiet_on
                 | go_big_quiet_call ((go_at_call 21; exact Wd.call _ (IQ.out _))))
              )
            refine wpQuiet_nil ?_
            rintro _ ⟨nq, rfl⟩
            have HM2 := hid (show ∀ k, k < j + 1 + 1 → mayC s.cells k from fun k hk => by
              by_cases e : k = j + 1
              · rw [e]; exact HYES.out
              · exact HM.out k (by omega))
            have BR2 := hid (BR0.out.trans (nq.h.mono BR0.out.size) : Below w1.heap.size w1 nq.w)
            go_wp2
            go_roundg (n - (j + 1 + 1))
            case measure => omega
            case rel => exact ⟨j + 1 + 1, by go_num, rfl, by omega, HM2, BR2⟩
      · have IQ := hid (fun m : Wd W0 => (by have := IC.out m.w (L0.out.trans (m.h.mono L0.out.size)); rwa [decide_eq_false hok] at this : Calls Try.prog 21 #[.agg #[.int .i64 a, .slice pb nb cb]] m.w fun e w' => e = .returned (.bool false) ∧ Below m.w.heap.size m.w w'))
        have HNO := hid (show ¬ mayC s.cells i from fun h => hok h.1)
        clear hok
        have HF := hid (show ¬ mayS s from fun h => HNO.out (h.1 i (by rw [← hn'.out]; exact hlt)))
        refine region_wd (by kernel_rfl) (by kernel_rfl) ?_
        repeat (first
          | go_big_quiet_skip
          | (go_big_quiet_want
             go_big_quiet_op
             first
             | go_big_quiet_on
             | go_big_quiet_call ((go_at_call 21; exact Wd.call _ (IQ.out _))))
          )
        refine wpQuiet_nil ?_
        rintro _ ⟨nq, rfl⟩
        go_wp2
        go_ret
        exact ⟨by rw [decide_eq_false HF.out]; rfl, LB.out nq⟩
    · have hlti : ¬ (i : Int) < (n : Int) := by omega
      have hall := hid (show ∀ j, j < s.cells.length → mayC s.cells j from fun j hj => HM.out j (by rw [← hn'.out] at hj; omega))
      have hq := hid (show decide (mayS s) = decide (namedS s) from decide_eq_decide.2 ⟨fun h => h.2, fun h => ⟨hall.out, h⟩⟩)
      have Lr := hid (L1.out.trans (BR.out.mono L1.out.size))
      have RR := RS.out _ BR.out
      go_wp2_with (first
        | ((with_reducible refine at_op (.load 25 (.tmp 1)) rfl ?_); refine wpList_load_mid rfl 25 (.tmp 1) rfl w.heap.size 0 rfl zs.toList _ RR Try.underlying25 rfl hinf.out ?_)
        | (go_at_call 22; refine (isNamed_c HZ.out hb).mono ?_; rintro e w2 ⟨rfl, hb2⟩; have hb2' := hid hb2; clear hb2))
      go_ret
      exact ⟨by rw [hq.out]; rfl, Lr.out.trans (hb2'.out.mono Lr.out.size)⟩
end Go.Proofs.Ytpbkdjnogjmfcaa
