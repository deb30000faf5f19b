/- The document's ahead. -/
import Derived.Test.YtpbkdjnogjmfcaaAhead
import Derived.Test.YtpbkdjnogjmfcaaNum7
namespace Go.Proofs.Ytpbkdjnogjmfcaa
open Go.RowKit Go.ChangeMaps

set_option maxRecDepth 100000 in
set_option maxHeartbeats 4000000 in
theorem rahead_c {w : World} {s : Strm} {cv : Value} {zs : Array Value} (hzs : zs = strmV s cv) (hF : Fit s) (hC : CellsAt w cv s.cells) :
    Calls Try.prog 19 #[.agg zs] w fun e w' => ∃ v, e = .returned v ∧ Ow w' w.heap.size v (aheadS s) ∧ Below w.heap.size w w' := by
  obtain ⟨w1, hw1⟩ : ∃ w1, w1 = w.alloc (.cells zs 35) := ⟨_, rfl⟩
  have L1 := hid (show Below w.heap.size w w1 by rw [hw1]; exact (Below.refl _ w).alloc (Nat.le_refl _) _)
  have F1 := hid (show Fn w1 w.heap.size 35 69 (sf s cv) by rw [hw1, hzs]; exact Fn.arr w _ 69 _)
  have hw1s := hid (show w.heap.size < w1.heap.size from Fn.lt F1.out)
  have HF := hid hF
  have HC := hid hC
  obtain ⟨p, cap, rfl, hm, hcells⟩ := hC
  have hC6 := hid hcells
  clear hzs hcells hF
  obtain ⟨mk, hmk⟩ : ∃ mk, mk = markB s := ⟨_, rfl⟩
  have hmk' := hid hmk
  clear hmk
  have A1 : ∀ (W : World) (x : Int), x = ub mk → w.heap.size ≤ W.heap.size → Ow (W.alloc (.cells #[.int .u8 x] 5)) w.heap.size (.slice (some ⟨W.heap.size, 0, none⟩) 1 1) (preK s 0) := fun W x hx hW => by
    rw [hx, show preK s 0 = [mk] from by rw [hmk'.out]; rfl]
    exact ⟨rfl, Or.inr ⟨W.heap.size, 1, #[.int .u8 (ub mk)], rfl, hW, Blk.new W _ _, Nat.le_refl _, by unfold maxLen; omega, rfl, rfl⟩⟩
  have HA1 := hid A1
  clear A1
  go_enter Try.func19, Try.ntmps19
  go_upto_region 1 with fail
  rw [← hw1]
  clear hw1
  have e0 := (strm_cells (F1.out.alloc (.cells #[.int .u8 70] 5))).1
  have key : (s.inc = true ∧ ub mk = 73) ∨ (s.inc = false ∧ ub mk = 70) := by
    by_cases hinc : s.inc = true
    · exact Or.inl ⟨hinc, by rw [hmk'.out]; unfold markB; rw [if_pos hinc]; rfl⟩
    · exact Or.inr ⟨by simpa using hinc, by rw [hmk'.out]; unfold markB; rw [if_neg hinc]; rfl⟩
  rcases key with ⟨hinc, e⟩ | ⟨hinc, e⟩
  · rw [hinc] at e0
    obtain ⟨w2, hw2⟩ : ∃ w2, w2 = (w1.alloc (.cells #[.int .u8 70] 5)).alloc (.cells #[.int .u8 73] 5) := ⟨_, rfl⟩
    have W2 := hid (show Ow w2 w.heap.size (.slice (some ⟨w1.heap.size + 1, 0, none⟩) 1 1) (preK s 0) by
      rw [hw2]
      have := HA1.out (w1.alloc (.cells #[.int .u8 70] 5)) 73 e.symm (by have := L1.out.size; simp; omega)
      simpa using this)
    have L2 := hid (show Below w.heap.size w w2 by rw [hw2]; exact (L1.out.alloc L1.out.size _).alloc (by have := L1.out.size; simp; omega) _)
    have F2 := hid (show Fn w2 w.heap.size 35 69 (sf s (.slice p s.cells.length cap)) by rw [hw2]; exact (F1.out.alloc _).alloc _)
    clear hinc e
    go_upto_region 4 with fail
    rw [← hw2]
    clear hw2 e0
    have d0 := (strm_cells F2.out).2.1
    obtain ⟨S0, hS⟩ : ∃ S, S = str s.set := ⟨_, rfl⟩
    have hun := hid (show unstr S0 = s.set by rw [hS, unstr_str])
    have hsz := hid (show S0.size ≤ 1000 by rw [hS, str_size]; exact HF.out.set)
    rw [← hS] at d0
    have hcv : (convert 9 28 (.string S0)).run Try.prog w2 = .ok (.slice (some ⟨w2.heap.size, 0, none⟩) S0.size (grownCap w2 S0.size 0 5)) (Go.Lib.bytesWorld w2 5 S0) := conv_bts w2 S0
    obtain ⟨gc, hgc⟩ : ∃ gc, gc = grownCap w2 S0.size 0 5 := ⟨_, rfl⟩
    have BS := hid (bts_bytes w2 S0 (by have := hsz.out; omega))
    have LS := hid (bts_below w2 S0)
    obtain ⟨wS0, hwS⟩ : ∃ wS, wS = Go.Lib.bytesWorld w2 5 S0 := ⟨_, rfl⟩
    rw [← hgc, ← hwS] at hcv
    rw [← hgc, ← hwS] at BS
    rw [← hwS] at LS
    have OS := hid (W2.out.below LS.out)
    have CP := hid (rputString_c OS.out.bytes BS.out (by have := HF.out.pre 0; omega) (by rw [hun.out]; exact Nat.le_trans HF.out.set (by decide)))
    rw [hun.out] at CP
    clear hS hgc hwS
    go_upto_region 5 with (go_at_call 40; refine CP.out.mono ?_; rintro e w3 ⟨vw3, rfl, Ow3, lw3⟩; have Pw3 := hid Ow3; have Qw3 := hid lw3; clear Ow3 lw3)
    have Lw3 := hid (show Below w.heap.size w w3 from L2.out.trans ((LS.out.trans (Qw3.out.mono LS.out.size)).mono L2.out.size))
    have Fw3 := hid (F2.out.below (LS.out.trans (Qw3.out.mono LS.out.size)) (Fn.lt F2.out))
    have Ow3 := hid (show Ow w3 w.heap.size vw3 (preK s 1) from Pw3.out.lower (by have := L2.out.size; have := LS.out.size; omega))
    clear d0 hcv hun hsz BS LS OS CP Pw3 Qw3
    have d1 := (strm_cells Fw3.out).2.2.1
    obtain ⟨S1, hS⟩ : ∃ S, S = str s.frm := ⟨_, rfl⟩
    have hun := hid (show unstr S1 = s.frm by rw [hS, unstr_str])
    have hsz := hid (show S1.size ≤ 1000 by rw [hS, str_size]; exact HF.out.frm)
    rw [← hS] at d1
    have hcv : (convert 9 28 (.string S1)).run Try.prog w3 = .ok (.slice (some ⟨w3.heap.size, 0, none⟩) S1.size (grownCap w3 S1.size 0 5)) (Go.Lib.bytesWorld w3 5 S1) := conv_bts w3 S1
    obtain ⟨gc, hgc⟩ : ∃ gc, gc = grownCap w3 S1.size 0 5 := ⟨_, rfl⟩
    have BS := hid (bts_bytes w3 S1 (by have := hsz.out; omega))
    have LS := hid (bts_below w3 S1)
    obtain ⟨wS1, hwS⟩ : ∃ wS, wS = Go.Lib.bytesWorld w3 5 S1 := ⟨_, rfl⟩
    rw [← hgc, ← hwS] at hcv
    rw [← hgc, ← hwS] at BS
    rw [← hwS] at LS
    have OS := hid (Ow3.out.below LS.out)
    have CP := hid (rputString_c OS.out.bytes BS.out (by have := HF.out.pre 1; omega) (by rw [hun.out]; exact Nat.le_trans HF.out.frm (by decide)))
    rw [hun.out] at CP
    clear hS hgc hwS
    go_upto_region 6 with (go_at_call 40; refine CP.out.mono ?_; rintro e w4 ⟨vw4, rfl, Ow4, lw4⟩; have Pw4 := hid Ow4; have Qw4 := hid lw4; clear Ow4 lw4)
    have Lw4 := hid (show Below w.heap.size w w4 from Lw3.out.trans ((LS.out.trans (Qw4.out.mono LS.out.size)).mono Lw3.out.size))
    have Fw4 := hid (Fw3.out.below (LS.out.trans (Qw4.out.mono LS.out.size)) (Fn.lt Fw3.out))
    have Ow4 := hid (show Ow w4 w.heap.size vw4 (preK s 2) from Pw4.out.lower (by have := Lw3.out.size; have := LS.out.size; omega))
    clear d1 hcv hun hsz BS LS OS CP Pw4 Qw4
    have d2 := (strm_cells Fw4.out).2.2.2.1
    obtain ⟨S2, hS⟩ : ∃ S, S = str s.til := ⟨_, rfl⟩
    have hun := hid (show unstr S2 = s.til by rw [hS, unstr_str])
    have hsz := hid (show S2.size ≤ 1000 by rw [hS, str_size]; exact HF.out.til)
    rw [← hS] at d2
    have hcv : (convert 9 28 (.string S2)).run Try.prog w4 = .ok (.slice (some ⟨w4.heap.size, 0, none⟩) S2.size (grownCap w4 S2.size 0 5)) (Go.Lib.bytesWorld w4 5 S2) := conv_bts w4 S2
    obtain ⟨gc, hgc⟩ : ∃ gc, gc = grownCap w4 S2.size 0 5 := ⟨_, rfl⟩
    have BS := hid (bts_bytes w4 S2 (by have := hsz.out; omega))
    have LS := hid (bts_below w4 S2)
    obtain ⟨wS2, hwS⟩ : ∃ wS, wS = Go.Lib.bytesWorld w4 5 S2 := ⟨_, rfl⟩
    rw [← hgc, ← hwS] at hcv
    rw [← hgc, ← hwS] at BS
    rw [← hwS] at LS
    have OS := hid (Ow4.out.below LS.out)
    have CP := hid (rputString_c OS.out.bytes BS.out (by have := HF.out.pre 2; omega) (by rw [hun.out]; exact Nat.le_trans HF.out.til (by decide)))
    rw [hun.out] at CP
    clear hS hgc hwS
    go_upto_region 7 with (go_at_call 40; refine CP.out.mono ?_; rintro e w5 ⟨vw5, rfl, Ow5, lw5⟩; have Pw5 := hid Ow5; have Qw5 := hid lw5; clear Ow5 lw5)
    have Lw5 := hid (show Below w.heap.size w w5 from Lw4.out.trans ((LS.out.trans (Qw5.out.mono LS.out.size)).mono Lw4.out.size))
    have Fw5 := hid (Fw4.out.below (LS.out.trans (Qw5.out.mono LS.out.size)) (Fn.lt Fw4.out))
    have Ow5 := hid (show Ow w5 w.heap.size vw5 (preK s 3) from Pw5.out.lower (by have := Lw4.out.size; have := LS.out.size; omega))
    clear d2 hcv hun hsz BS LS OS CP Pw5 Qw5
    obtain ⟨pv, nv, cv', hf⟩ := Ow5.out.bytes.form
    subst hf
    have BA := hid (bytes_range HF.out.base (Fn.lt Fw5.out) (strm_base Fw5.out))
    have hle := hid (show (preK s 3).length + s.base.length ≤ 1000000 from by have := HF.out.pre 3; have := HF.out.base; have := HF.out.goal; first | omega | (simp only [List.length_append]; omega))
    go_upto_region 8 with (at_builtin; refine wpList_app rfl (.tmp 25) (.tmp 27) rfl rfl rfl Ow5.out BA.out hle.out Lw5.out.size ?_; intro vw6 w6 O5 M5 _; have Ow6 := hid O5; have Lw6 := hid (M5.own_below Ow5.out Lw5.out.size Lw5.out); have Fw6 := hid (Fw5.out.mod M5 (ownsRow_fn Ow5.out Fw5.out (by decide))); clear O5 M5)
    clear BA hle
    obtain ⟨pv, nv, cv', hf⟩ := Ow6.out.bytes.form
    subst hf
    have BA := hid (bytes_range HF.out.goal (Fn.lt Fw6.out) (strm_goal Fw6.out))
    have hle := hid (show (preK s 3 ++ s.base).length + s.goal.length ≤ 1000000 from by have := HF.out.pre 3; have := HF.out.base; have := HF.out.goal; first | omega | (simp only [List.length_append]; omega))
    go_upto_region 9 with (at_builtin; refine wpList_app rfl (.tmp 29) (.tmp 31) rfl rfl rfl Ow6.out BA.out hle.out Lw6.out.size ?_; intro vw7 w7 O5 M5 _; have Ow7 := hid O5; have Lw7 := hid (M5.own_below Ow6.out Lw6.out.size Lw6.out); have Fw7 := hid (Fw6.out.mod M5 (ownsRow_fn Ow6.out Fw6.out (by decide))); clear O5 M5)
    clear BA hle
    obtain ⟨n, hn⟩ : ∃ n, n = s.cells.length := ⟨_, rfl⟩
    have hn' := hid hn
    rw [← hn] at Fw7
    have d68 := (strm_cells Fw7.out).2.2.2.2
    have hn100 : n ≤ 100 := by rw [hn]; exact HF.out.cells
    have CP := hid (rput_c Ow7.out.bytes (by have := HF.out.pre 3; have := HF.out.base; have := HF.out.goal; simp only [List.length_append]; omega) n (by omega))
    rw [← hn] at hm hC6
    clear hn
    go_upto_region 10 with (go_at_call 41; refine CP.out.mono ?_; rintro e w8 ⟨v8, rfl, O8, l8⟩; have P8 := hid O8; have Q8 := hid l8; clear O8 l8)
    have L8 := hid (show Below w.heap.size w w8 from Lw7.out.trans (Q8.out.mono Lw7.out.size))
    have F8 := hid (Fw7.out.below Q8.out (Fn.lt Fw7.out))
    have O8 := hid (show Ow w8 w.heap.size v8 (headB s) from by
      have := P8.out.lower (base' := w.heap.size) Lw7.out.size
      rw [← cat3_head, ← hn'.out]
      simpa [flat, cat3] using this)
    have hhl := hid (show (headB s).length ≤ 4100 from by rw [← cat3_head]; have := cat3_len HF.out; have := lebF_length 10 s.cells.length; unfold leb; simp; omega)
    clear CP P8 Q8 d68
    go_upto_block 0 with fail
    go_upto_region 11 with fail
    go_loopg [3, 4] n (fun g v3 v4 wr => ∃ i : Nat, v4 = .int .i64 i ∧ g = n - i ∧ i ≤ n ∧ Hid (Ow wr w.heap.size v3 (headB s ++ cellsB (s.cells.take i))) ∧ Hid (Below w.heap.size w wr) ∧ Hid (Fn wr w.heap.size 35 69 (sf s (.slice p n cap))))
    case atStart => exact ⟨0, rfl, rfl, Nat.zero_le _, hid (by simpa [cellsB] using O8.out), L8, F8⟩
    case round =>
      obtain ⟨i, rfl, hg, hi, O, L, FR⟩ := hrel
      have d68 := (strm_cells FR.out).2.2.2.2
      by_cases hlt : i < n
      · have hlti : (i : Int) < (n : Int) := by omega
        obtain ⟨b, off, e, hbl, hcap, hcell⟩ := hC6.out (by omega)
        cases e
        obtain ⟨vb, k1, k2, k3⟩ := hcell i hlt
        obtain ⟨ha0, ha1, hal⟩ := HF.out.each i (by rw [← hn'.out]; exact hlt)
        obtain ⟨x, hx⟩ : ∃ x : W8, x = BitVec.ofInt 8 (cellAt s.cells i).1 := ⟨_, rfl⟩
        have hxa : (cellAt s.cells i).1 = ub x := by rw [hx]; unfold ub; rw [BitVec.toNat_ofInt]; omega
        obtain ⟨Bc, hBc⟩ : ∃ Bc, Bc = (cellAt s.cells i).2 := ⟨_, rfl⟩
        rw [hxa] at k1
        rw [← hBc] at k3 hal
        obtain ⟨pb, cb, rfl⟩ := k3.len
        obtain ⟨l, hl⟩ : ∃ l, l = Bc.length := ⟨_, rfl⟩
        have hnext := hid (show cellsB (s.cells.take (i + 1)) = cellsB (s.cells.take i) ++ ([x, if Bc.length = 0 then 72 else 67] ++ Bc) from by
          have hi' : i < s.cells.length := by rw [← hn'.out]; exact hlt
          rw [List.take_succ_eq_append_getElem hi', cellsB_append]
          have : s.cells[i] = cellAt s.cells i := by unfold cellAt; rw [List.getD_eq_getElem?_getD, List.getElem?_eq_getElem hi']; rfl
          rw [this, hx, hBc]
          show _ ++ (cellB _ ++ []) = _
          rw [List.append_nil]; rfl)
        have hlenT := hid (show (headB s ++ cellsB (s.cells.take i)).length ≤ 50000 from by
          have := cellsB_le HF.out i (by rw [← hn'.out]; omega)
          have := hhl.out
          rw [List.length_append]; omega)
        have d1 : wr.cell? ⟨b, off + i * 2, none⟩ = some (.int .i64 (ub x)) := (L.out.cell (p := ⟨b, off + i * 2, none⟩) hbl).trans k1
        have d2 : wr.cell? ⟨b, off + i * 2 + 1, none⟩ = some (.slice pb Bc.length cb) := (L.out.cell (p := ⟨b, off + i * 2 + 1, none⟩) hbl).trans k2
        rw [← hl] at d2 hnext
        have KB := hid (hl ▸ k3 : Bytes w (.slice pb l cb) Bc)
        have hal' := hid (hl ▸ hal : l ≤ 300)
        have hl' := hid hl
        obtain ⟨hx0, hx1⟩ := ub_bd x
        have hwx : IntKind.u8.wrap (ub x) = ub x := by simp [IntKind.wrap, IntKind.bits, IntKind.signed]; omega
        have hcapi : (n : Int) ≤ (cap : Int) := by omega
        obtain ⟨W0, hW0⟩ : ∃ W0, W0 = wr.alloc (.cells #[.int .i64 (ub x), .slice pb l cb] 50) := ⟨_, rfl⟩
        have B7 := hid (show Blk W0 wr.heap.size #[.int .i64 (ub x), .slice pb l cb] 50 by rw [hW0]; exact Blk.new wr _ _)
        have L0 := hid (show Below w.heap.size w W0 by rw [hW0]; exact L.out.alloc L.out.size _)
        have hb7 := hid (show w.heap.size ≤ wr.heap.size ∧ ∀ k, u3.ownBlock = some k → k < wr.heap.size from ⟨L.out.size, fun k hk => (O.out.lt k hk).2⟩)
        have OA := hid (fun m : W8 => show Ow (W0.alloc (.cells #[.int .u8 (ub x), .int .u8 (ub m)] 5)) w.heap.size u3 (headB s ++ cellsB (s.cells.take i)) by rw [hW0]; exact Ow.alloc (O.out.alloc _) _)
        have LA := hid (fun m : W8 => show Below w.heap.size w (W0.alloc (.cells #[.int .u8 (ub x), .int .u8 (ub m)] 5)) from L0.out.alloc L0.out.size _)
        have PB := hid (fun m : W8 => Bytes.lit W0 #[.int .u8 (ub x), .int .u8 (ub m)] [x, m] rfl (by simp))
        have FA := hid (fun m : W8 => show Fn (W0.alloc (.cells #[.int .u8 (ub x), .int .u8 (ub m)] 5)) w.heap.size 35 69 (sf s (.slice (some ⟨b, off, none⟩) n cap)) by rw [hW0]; exact (FR.out.alloc _).alloc _)
        have h0 := B7.out.cellv (i := 0) rfl
        have h1 := B7.out.cellv (i := 1) rfl
        clear hx hxa hBc hl k1 k2 k3 hal ha0 ha1 hcell
        by_cases hl0 : l = 0
        · have hl0i : ((l : Int) == 0) = true := by rw [hl0]; rfl
          have hnx := hid (show cellsB (s.cells.take (i + 1)) = cellsB (s.cells.take i) ++ [x, 72] from by
            have hB0 : Bc = [] := List.eq_nil_of_length_eq_zero (by rw [← hl'.out]; exact hl0)
            rw [hnext.out, if_pos hl0, hB0]; simp)
          clear hl0 hnext
          go_upto_region 14 with fail
          rw [← hW0]
          clear hW0
          have e72 : ub (72 : W8) = 72 := rfl
          go_wp2_with (at_builtin; refine wpList_app rfl (.tmp 55) (.tmp 59) rfl rfl rfl (OA.out 72) (PB.out 72) (by have := hlenT.out; simp only [List.length_cons, List.length_nil]; omega) (LA.out 72).size ?_; intro v9 w9 O5 M5 _; have O9 := hid O5; have L9 := hid (M5.own_below (OA.out 72) (LA.out 72).size (LA.out 72)); have F9 := hid ((FA.out 72).mod M5 (ownsRow_fn (OA.out 72) (FA.out 72) (by decide))); clear O5 M5)
          go_roundg (n - (i + 1))
          case measure => omega
          case rel => exact ⟨i + 1, by go_num, rfl, by omega, hid (by rw [hnx.out, ← List.append_assoc]; exact O9.out), L9, F9⟩
        · have hl0i : ((l : Int) == 0) = false := by simp; omega
          have hnx := hid (show headB s ++ cellsB (s.cells.take (i + 1)) = headB s ++ cellsB (s.cells.take i) ++ [x, 67] ++ Bc from by
            rw [hnext.out, if_neg hl0]; simp [List.append_assoc])
          clear hl0 hnext
          go_upto_region 14 with fail
          rw [← hW0]
          clear hW0
          have e67 : ub (67 : W8) = 67 := rfl
          go_upto_region 17 with (at_builtin; refine wpList_app rfl (.tmp 61) (.tmp 65) rfl rfl rfl (OA.out 67) (PB.out 67) (by have := hlenT.out; simp only [List.length_cons, List.length_nil]; omega) (LA.out 67).size ?_; intro v9 w9 O5 M5 e5; have O9 := hid O5; have L9 := hid (M5.own_below (OA.out 67) (LA.out 67).size (LA.out 67)); have F9 := hid ((FA.out 67).mod M5 (ownsRow_fn (OA.out 67) (FA.out 67) (by decide))); have B9 := hid (M5.blk (B7.out.alloc _) (fun e => by have := hb7.out.2 _ e; omega)); clear O5 M5 e5)
          have q1 := B9.out.cellv (i := 1) rfl
          go_wp2_with (at_builtin; refine wpList_app rfl (.tmp 67) (.tmp 69) rfl rfl rfl O9.out (KB.out.below L9.out) (by have h1 := hlenT.out; have h2 := hal'.out; have h3 := hl'.out; simp only [List.length_append, List.length_cons, List.length_nil] at h1 h2 ⊢; omega) L9.out.size ?_; intro v10 w10 O5 M5 _; have O10 := hid O5; have L10 := hid (M5.own_below O9.out L9.out.size L9.out); have F10 := hid (F9.out.mod M5 (ownsRow_fn O9.out F9.out (by decide))); clear O5 M5)
          go_roundg (n - (i + 1))
          case measure => omega
          case rel => exact ⟨i + 1, by go_num, rfl, by omega, hid (by rw [hnx.out]; exact O10.out), L10, F10⟩
      · have hlti : ¬ (i : Int) < (n : Int) := by omega
        have O9 := hid (show Ow wr w.heap.size u3 (aheadS s) from by
          have := O.out
          rw [List.take_of_length_le (by rw [← hn'.out]; omega)] at this
          exact this)
        go_wp2
        go_ret
        exact ⟨_, rfl, O9.out, L.out⟩
  · rw [hinc] at e0
    obtain ⟨w2, hw2⟩ : ∃ w2, w2 = w1.alloc (.cells #[.int .u8 70] 5) := ⟨_, rfl⟩
    have W2 := hid (show Ow w2 w.heap.size (.slice (some ⟨w1.heap.size, 0, none⟩) 1 1) (preK s 0) by
      rw [hw2]
      exact HA1.out w1 70 e.symm L1.out.size)
    have L2 := hid (show Below w.heap.size w w2 by rw [hw2]; exact L1.out.alloc L1.out.size _)
    have F2 := hid (show Fn w2 w.heap.size 35 69 (sf s (.slice p s.cells.length cap)) by rw [hw2]; exact F1.out.alloc _)
    clear hinc e
    go_upto_region 4 with fail
    rw [← hw2]
    clear hw2 e0
    have d0 := (strm_cells F2.out).2.1
    obtain ⟨S0, hS⟩ : ∃ S, S = str s.set := ⟨_, rfl⟩
    have hun := hid (show unstr S0 = s.set by rw [hS, unstr_str])
    have hsz := hid (show S0.size ≤ 1000 by rw [hS, str_size]; exact HF.out.set)
    rw [← hS] at d0
    have hcv : (convert 9 28 (.string S0)).run Try.prog w2 = .ok (.slice (some ⟨w2.heap.size, 0, none⟩) S0.size (grownCap w2 S0.size 0 5)) (Go.Lib.bytesWorld w2 5 S0) := conv_bts w2 S0
    obtain ⟨gc, hgc⟩ : ∃ gc, gc = grownCap w2 S0.size 0 5 := ⟨_, rfl⟩
    have BS := hid (bts_bytes w2 S0 (by have := hsz.out; omega))
    have LS := hid (bts_below w2 S0)
    obtain ⟨wS0, hwS⟩ : ∃ wS, wS = Go.Lib.bytesWorld w2 5 S0 := ⟨_, rfl⟩
    rw [← hgc, ← hwS] at hcv
    rw [← hgc, ← hwS] at BS
    rw [← hwS] at LS
    have OS := hid (W2.out.below LS.out)
    have CP := hid (rputString_c OS.out.bytes BS.out (by have := HF.out.pre 0; omega) (by rw [hun.out]; exact Nat.le_trans HF.out.set (by decide)))
    rw [hun.out] at CP
    clear hS hgc hwS
    go_upto_region 5 with (go_at_call 40; refine CP.out.mono ?_; rintro e w3 ⟨vw3, rfl, Ow3, lw3⟩; have Pw3 := hid Ow3; have Qw3 := hid lw3; clear Ow3 lw3)
    have Lw3 := hid (show Below w.heap.size w w3 from L2.out.trans ((LS.out.trans (Qw3.out.mono LS.out.size)).mono L2.out.size))
    have Fw3 := hid (F2.out.below (LS.out.trans (Qw3.out.mono LS.out.size)) (Fn.lt F2.out))
    have Ow3 := hid (show Ow w3 w.heap.size vw3 (preK s 1) from Pw3.out.lower (by have := L2.out.size; have := LS.out.size; omega))
    clear d0 hcv hun hsz BS LS OS CP Pw3 Qw3
    have d1 := (strm_cells Fw3.out).2.2.1
    obtain ⟨S1, hS⟩ : ∃ S, S = str s.frm := ⟨_, rfl⟩
    have hun := hid (show unstr S1 = s.frm by rw [hS, unstr_str])
    have hsz := hid (show S1.size ≤ 1000 by rw [hS, str_size]; exact HF.out.frm)
    rw [← hS] at d1
    have hcv : (convert 9 28 (.string S1)).run Try.prog w3 = .ok (.slice (some ⟨w3.heap.size, 0, none⟩) S1.size (grownCap w3 S1.size 0 5)) (Go.Lib.bytesWorld w3 5 S1) := conv_bts w3 S1
    obtain ⟨gc, hgc⟩ : ∃ gc, gc = grownCap w3 S1.size 0 5 := ⟨_, rfl⟩
    have BS := hid (bts_bytes w3 S1 (by have := hsz.out; omega))
    have LS := hid (bts_below w3 S1)
    obtain ⟨wS1, hwS⟩ : ∃ wS, wS = Go.Lib.bytesWorld w3 5 S1 := ⟨_, rfl⟩
    rw [← hgc, ← hwS] at hcv
    rw [← hgc, ← hwS] at BS
    rw [← hwS] at LS
    have OS := hid (Ow3.out.below LS.out)
    have CP := hid (rputString_c OS.out.bytes BS.out (by have := HF.out.pre 1; omega) (by rw [hun.out]; exact Nat.le_trans HF.out.frm (by decide)))
    rw [hun.out] at CP
    clear hS hgc hwS
    go_upto_region 6 with (go_at_call 40; refine CP.out.mono ?_; rintro e w4 ⟨vw4, rfl, Ow4, lw4⟩; have Pw4 := hid Ow4; have Qw4 := hid lw4; clear Ow4 lw4)
    have Lw4 := hid (show Below w.heap.size w w4 from Lw3.out.trans ((LS.out.trans (Qw4.out.mono LS.out.size)).mono Lw3.out.size))
    have Fw4 := hid (Fw3.out.below (LS.out.trans (Qw4.out.mono LS.out.size)) (Fn.lt Fw3.out))
    have Ow4 := hid (show Ow w4 w.heap.size vw4 (preK s 2) from Pw4.out.lower (by have := Lw3.out.size; have := LS.out.size; omega))
    clear d1 hcv hun hsz BS LS OS CP Pw4 Qw4
    have d2 := (strm_cells Fw4.out).2.2.2.1
    obtain ⟨S2, hS⟩ : ∃ S, S = str s.til := ⟨_, rfl⟩
    have hun := hid (show unstr S2 = s.til by rw [hS, unstr_str])
    have hsz := hid (show S2.size ≤ 1000 by rw [hS, str_size]; exact HF.out.til)
    rw [← hS] at d2
    have hcv : (convert 9 28 (.string S2)).run Try.prog w4 = .ok (.slice (some ⟨w4.heap.size, 0, none⟩) S2.size (grownCap w4 S2.size 0 5)) (Go.Lib.bytesWorld w4 5 S2) := conv_bts w4 S2
    obtain ⟨gc, hgc⟩ : ∃ gc, gc = grownCap w4 S2.size 0 5 := ⟨_, rfl⟩
    have BS := hid (bts_bytes w4 S2 (by have := hsz.out; omega))
    have LS := hid (bts_below w4 S2)
    obtain ⟨wS2, hwS⟩ : ∃ wS, wS = Go.Lib.bytesWorld w4 5 S2 := ⟨_, rfl⟩
    rw [← hgc, ← hwS] at hcv
    rw [← hgc, ← hwS] at BS
    rw [← hwS] at LS
    have OS := hid (Ow4.out.below LS.out)
    have CP := hid (rputString_c OS.out.bytes BS.out (by have := HF.out.pre 2; omega) (by rw [hun.out]; exact Nat.le_trans HF.out.til (by decide)))
    rw [hun.out] at CP
    clear hS hgc hwS
    go_upto_region 7 with (go_at_call 40; refine CP.out.mono ?_; rintro e w5 ⟨vw5, rfl, Ow5, lw5⟩; have Pw5 := hid Ow5; have Qw5 := hid lw5; clear Ow5 lw5)
    have Lw5 := hid (show Below w.heap.size w w5 from Lw4.out.trans ((LS.out.trans (Qw5.out.mono LS.out.size)).mono Lw4.out.size))
    have Fw5 := hid (Fw4.out.below (LS.out.trans (Qw5.out.mono LS.out.size)) (Fn.lt Fw4.out))
    have Ow5 := hid (show Ow w5 w.heap.size vw5 (preK s 3) from Pw5.out.lower (by have := Lw4.out.size; have := LS.out.size; omega))
    clear d2 hcv hun hsz BS LS OS CP Pw5 Qw5
    obtain ⟨pv, nv, cv', hf⟩ := Ow5.out.bytes.form
    subst hf
    have BA := hid (bytes_range HF.out.base (Fn.lt Fw5.out) (strm_base Fw5.out))
    have hle := hid (show (preK s 3).length + s.base.length ≤ 1000000 from by have := HF.out.pre 3; have := HF.out.base; have := HF.out.goal; first | omega | (simp only [List.length_append]; omega))
    go_upto_region 8 with (at_builtin; refine wpList_app rfl (.tmp 25) (.tmp 27) rfl rfl rfl Ow5.out BA.out hle.out Lw5.out.size ?_; intro vw6 w6 O5 M5 _; have Ow6 := hid O5; have Lw6 := hid (M5.own_below Ow5.out Lw5.out.size Lw5.out); have Fw6 := hid (Fw5.out.mod M5 (ownsRow_fn Ow5.out Fw5.out (by decide))); clear O5 M5)
    clear BA hle
    obtain ⟨pv, nv, cv', hf⟩ := Ow6.out.bytes.form
    subst hf
    have BA := hid (bytes_range HF.out.goal (Fn.lt Fw6.out) (strm_goal Fw6.out))
    have hle := hid (show (preK s 3 ++ s.base).length + s.goal.length ≤ 1000000 from by have := HF.out.pre 3; have := HF.out.base; have := HF.out.goal; first | omega | (simp only [List.length_append]; omega))
    go_upto_region 9 with (at_builtin; refine wpList_app rfl (.tmp 29) (.tmp 31) rfl rfl rfl Ow6.out BA.out hle.out Lw6.out.size ?_; intro vw7 w7 O5 M5 _; have Ow7 := hid O5; have Lw7 := hid (M5.own_below Ow6.out Lw6.out.size Lw6.out); have Fw7 := hid (Fw6.out.mod M5 (ownsRow_fn Ow6.out Fw6.out (by decide))); clear O5 M5)
    clear BA hle
    obtain ⟨n, hn⟩ : ∃ n, n = s.cells.length := ⟨_, rfl⟩
    have hn' := hid hn
    rw [← hn] at Fw7
    have d68 := (strm_cells Fw7.out).2.2.2.2
    have hn100 : n ≤ 100 := by rw [hn]; exact HF.out.cells
    have CP := hid (rput_c Ow7.out.bytes (by have := HF.out.pre 3; have := HF.out.base; have := HF.out.goal; simp only [List.length_append]; omega) n (by omega))
    rw [← hn] at hm hC6
    clear hn
    go_upto_region 10 with (go_at_call 41; refine CP.out.mono ?_; rintro e w8 ⟨v8, rfl, O8, l8⟩; have P8 := hid O8; have Q8 := hid l8; clear O8 l8)
    have L8 := hid (show Below w.heap.size w w8 from Lw7.out.trans (Q8.out.mono Lw7.out.size))
    have F8 := hid (Fw7.out.below Q8.out (Fn.lt Fw7.out))
    have O8 := hid (show Ow w8 w.heap.size v8 (headB s) from by
      have := P8.out.lower (base' := w.heap.size) Lw7.out.size
      rw [← cat3_head, ← hn'.out]
      simpa [flat, cat3] using this)
    have hhl := hid (show (headB s).length ≤ 4100 from by rw [← cat3_head]; have := cat3_len HF.out; have := lebF_length 10 s.cells.length; unfold leb; simp; omega)
    clear CP P8 Q8 d68
    go_upto_block 0 with fail
    go_upto_region 11 with fail
    go_loopg [3, 4] n (fun g v3 v4 wr => ∃ i : Nat, v4 = .int .i64 i ∧ g = n - i ∧ i ≤ n ∧ Hid (Ow wr w.heap.size v3 (headB s ++ cellsB (s.cells.take i))) ∧ Hid (Below w.heap.size w wr) ∧ Hid (Fn wr w.heap.size 35 69 (sf s (.slice p n cap))))
    case atStart => exact ⟨0, rfl, rfl, Nat.zero_le _, hid (by simpa [cellsB] using O8.out), L8, F8⟩
    case round =>
      obtain ⟨i, rfl, hg, hi, O, L, FR⟩ := hrel
      have d68 := (strm_cells FR.out).2.2.2.2
      by_cases hlt : i < n
      · have hlti : (i : Int) < (n : Int) := by omega
        obtain ⟨b, off, e, hbl, hcap, hcell⟩ := hC6.out (by omega)
        cases e
        obtain ⟨vb, k1, k2, k3⟩ := hcell i hlt
        obtain ⟨ha0, ha1, hal⟩ := HF.out.each i (by rw [← hn'.out]; exact hlt)
        obtain ⟨x, hx⟩ : ∃ x : W8, x = BitVec.ofInt 8 (cellAt s.cells i).1 := ⟨_, rfl⟩
        have hxa : (cellAt s.cells i).1 = ub x := by rw [hx]; unfold ub; rw [BitVec.toNat_ofInt]; omega
        obtain ⟨Bc, hBc⟩ : ∃ Bc, Bc = (cellAt s.cells i).2 := ⟨_, rfl⟩
        rw [hxa] at k1
        rw [← hBc] at k3 hal
        obtain ⟨pb, cb, rfl⟩ := k3.len
        obtain ⟨l, hl⟩ : ∃ l, l = Bc.length := ⟨_, rfl⟩
        have hnext := hid (show cellsB (s.cells.take (i + 1)) = cellsB (s.cells.take i) ++ ([x, if Bc.length = 0 then 72 else 67] ++ Bc) from by
          have hi' : i < s.cells.length := by rw [← hn'.out]; exact hlt
          rw [List.take_succ_eq_append_getElem hi', cellsB_append]
          have : s.cells[i] = cellAt s.cells i := by unfold cellAt; rw [List.getD_eq_getElem?_getD, List.getElem?_eq_getElem hi']; rfl
          rw [this, hx, hBc]
          show _ ++ (cellB _ ++ []) = _
          rw [List.append_nil]; rfl)
        have hlenT := hid (show (headB s ++ cellsB (s.cells.take i)).length ≤ 50000 from by
          have := cellsB_le HF.out i (by rw [← hn'.out]; omega)
          have := hhl.out
          rw [List.length_append]; omega)
        have d1 : wr.cell? ⟨b, off + i * 2, none⟩ = some (.int .i64 (ub x)) := (L.out.cell (p := ⟨b, off + i * 2, none⟩) hbl).trans k1
        have d2 : wr.cell? ⟨b, off + i * 2 + 1, none⟩ = some (.slice pb Bc.length cb) := (L.out.cell (p := ⟨b, off + i * 2 + 1, none⟩) hbl).trans k2
        rw [← hl] at d2 hnext
        have KB := hid (hl ▸ k3 : Bytes w (.slice pb l cb) Bc)
        have hal' := hid (hl ▸ hal : l ≤ 300)
        have hl' := hid hl
        obtain ⟨hx0, hx1⟩ := ub_bd x
        have hwx : IntKind.u8.wrap (ub x) = ub x := by simp [IntKind.wrap, IntKind.bits, IntKind.signed]; omega
        have hcapi : (n : Int) ≤ (cap : Int) := by omega
        obtain ⟨W0, hW0⟩ : ∃ W0, W0 = wr.alloc (.cells #[.int .i64 (ub x), .slice pb l cb] 50) := ⟨_, rfl⟩
        have B7 := hid (show Blk W0 wr.heap.size #[.int .i64 (ub x), .slice pb l cb] 50 by rw [hW0]; exact Blk.new wr _ _)
        have L0 := hid (show Below w.heap.size w W0 by rw [hW0]; exact L.out.alloc L.out.size _)
        have hb7 := hid (show w.heap.size ≤ wr.heap.size ∧ ∀ k, u3.ownBlock = some k → k < wr.heap.size from ⟨L.out.size, fun k hk => (O.out.lt k hk).2⟩)
        have OA := hid (fun m : W8 => show Ow (W0.alloc (.cells #[.int .u8 (ub x), .int .u8 (ub m)] 5)) w.heap.size u3 (headB s ++ cellsB (s.cells.take i)) by rw [hW0]; exact Ow.alloc (O.out.alloc _) _)
        have LA := hid (fun m : W8 => show Below w.heap.size w (W0.alloc (.cells #[.int .u8 (ub x), .int .u8 (ub m)] 5)) from L0.out.alloc L0.out.size _)
        have PB := hid (fun m : W8 => Bytes.lit W0 #[.int .u8 (ub x), .int .u8 (ub m)] [x, m] rfl (by simp))
        have FA := hid (fun m : W8 => show Fn (W0.alloc (.cells #[.int .u8 (ub x), .int .u8 (ub m)] 5)) w.heap.size 35 69 (sf s (.slice (some ⟨b, off, none⟩) n cap)) by rw [hW0]; exact (FR.out.alloc _).alloc _)
        have h0 := B7.out.cellv (i := 0) rfl
        have h1 := B7.out.cellv (i := 1) rfl
        clear hx hxa hBc hl k1 k2 k3 hal ha0 ha1 hcell
        by_cases hl0 : l = 0
        · have hl0i : ((l : Int) == 0) = true := by rw [hl0]; rfl
          have hnx := hid (show cellsB (s.cells.take (i + 1)) = cellsB (s.cells.take i) ++ [x, 72] from by
            have hB0 : Bc = [] := List.eq_nil_of_length_eq_zero (by rw [← hl'.out]; exact hl0)
            rw [hnext.out, if_pos hl0, hB0]; simp)
          clear hl0 hnext
          go_upto_region 14 with fail
          rw [← hW0]
          clear hW0
          have e72 : ub (72 : W8) = 72 := rfl
          go_wp2_with (at_builtin; refine wpList_app rfl (.tmp 55) (.tmp 59) rfl rfl rfl (OA.out 72) (PB.out 72) (by have := hlenT.out; simp only [List.length_cons, List.length_nil]; omega) (LA.out 72).size ?_; intro v9 w9 O5 M5 _; have O9 := hid O5; have L9 := hid (M5.own_below (OA.out 72) (LA.out 72).size (LA.out 72)); have F9 := hid ((FA.out 72).mod M5 (ownsRow_fn (OA.out 72) (FA.out 72) (by decide))); clear O5 M5)
          go_roundg (n - (i + 1))
          case measure => omega
          case rel => exact ⟨i + 1, by go_num, rfl, by omega, hid (by rw [hnx.out, ← List.append_assoc]; exact O9.out), L9, F9⟩
        · have hl0i : ((l : Int) == 0) = false := by simp; omega
          have hnx := hid (show headB s ++ cellsB (s.cells.take (i + 1)) = headB s ++ cellsB (s.cells.take i) ++ [x, 67] ++ Bc from by
            rw [hnext.out, if_neg hl0]; simp [List.append_assoc])
          clear hl0 hnext
          go_upto_region 14 with fail
          rw [← hW0]
          clear hW0
          have e67 : ub (67 : W8) = 67 := rfl
          go_upto_region 17 with (at_builtin; refine wpList_app rfl (.tmp 61) (.tmp 65) rfl rfl rfl (OA.out 67) (PB.out 67) (by have := hlenT.out; simp only [List.length_cons, List.length_nil]; omega) (LA.out 67).size ?_; intro v9 w9 O5 M5 e5; have O9 := hid O5; have L9 := hid (M5.own_below (OA.out 67) (LA.out 67).size (LA.out 67)); have F9 := hid ((FA.out 67).mod M5 (ownsRow_fn (OA.out 67) (FA.out 67) (by decide))); have B9 := hid (M5.blk (B7.out.alloc _) (fun e => by have := hb7.out.2 _ e; omega)); clear O5 M5 e5)
          have q1 := B9.out.cellv (i := 1) rfl
          go_wp2_with (at_builtin; refine wpList_app rfl (.tmp 67) (.tmp 69) rfl rfl rfl O9.out (KB.out.below L9.out) (by have h1 := hlenT.out; have h2 := hal'.out; have h3 := hl'.out; simp only [List.length_append, List.length_cons, List.length_nil] at h1 h2 ⊢; omega) L9.out.size ?_; intro v10 w10 O5 M5 _; have O10 := hid O5; have L10 := hid (M5.own_below O9.out L9.out.size L9.out); have F10 := hid (F9.out.mod M5 (ownsRow_fn O9.out F9.out (by decide))); clear O5 M5)
          go_roundg (n - (i + 1))
          case measure => omega
          case rel => exact ⟨i + 1, by go_num, rfl, by omega, hid (by rw [hnx.out]; exact O10.out), L10, F10⟩
      · have hlti : ¬ (i : Int) < (n : Int) := by omega
        have O9 := hid (show Ow wr w.heap.size u3 (aheadS s) from by
          have := O.out
          rw [List.take_of_length_le (by rw [← hn'.out]; omega)] at this
          exact this)
        go_wp2
        go_ret
        exact ⟨_, rfl, O9.out, L.out⟩
end Go.Proofs.Ytpbkdjnogjmfcaa

