/- Both Encodes. -/
import Derived.Test.YtpbkdjnogjmfcaaRAhead
import Derived.Test.YtpbkdjnogjmfcaaRDec
namespace Go.Proofs.Ytpbkdjnogjmfcaa
open Go.RowKit Go.ChangeMaps

/-- A stream that may be is small. -/
theorem may_fit {s : Strm} (h : mayS s) (hb : s.base.length = 32) (hg : s.goal.length = 32) : Fit s := by
  obtain ⟨hc, hset, htil, hfrm⟩ := h
  have nm : ∀ xs, nameOk xs → xs.length ≤ 1000 := fun xs hx => by have := hx.2.2; rw [str_size] at this; omega
  have inc : ∀ i, i < s.cells.length → (i : Int) ≤ (cellAt s.cells i).1 := by
    intro i
    induction i with
    | zero => intro hi; have := (hc 0 hi).1.1; simpa using this
    | succ i ih =>
      intro hi
      have h1 := ih (by omega)
      have h2 := (hc (i + 1) hi).2 (by omega)
      rw [show i + 1 - 1 = i by omega] at h2
      omega
  refine ⟨hb, hg, nm _ hset, ?_, nm _ htil, ?_, fun i hi => ?_⟩
  · split at hfrm
    · exact nm _ hfrm
    · rw [hfrm.1]; exact Nat.zero_le _
  · by_cases h0 : s.cells.length ≤ 100
    · exact h0
    · have h1 := inc 99 (by omega)
      have h2 := (hc 99 (by omega)).1.2.1
      omega
  · obtain ⟨⟨h1, h2, h3⟩, _⟩ := hc i hi
    exact ⟨h1, by omega, by omega⟩
theorem encS_len {s : Strm} (h : Fit s) : (aheadS s).length ≤ 40000 := by
  unfold aheadS
  have := cellsB_le h s.cells.length (Nat.le_refl _)
  rw [List.take_length] at this
  have h2 := h.cells
  have h3 := cat3_len h
  have h4 := lebF_length 10 s.cells.length
  have h5 : (headB s).length ≤ 4100 := by rw [← cat3_head]; unfold leb; simp; omega
  rw [List.length_append]; omega
def EncAns (w : World) (s : Strm) (e : Ending) (w' : World) : Prop :=
  if mayS s then ∃ v, e = .returned (.tuple #[v, .int .i64 0]) ∧ Ow w' w.heap.size v (encS s) else e = .returned (.tuple #[.slice none 0 0, .int .i64 1])
set_option maxRecDepth 100000 in
set_option maxHeartbeats 2000000 in
theorem encode_c {w : World} {s : Strm} {cv : Value} {zs : Array Value} (hzs : zs = strmV s cv) (hb : s.base.length = 32) (hg : s.goal.length = 32) (hC : CellsAt w cv s.cells) :
    Calls Try.prog 9 #[.agg zs] w fun e w' => EncAns w s e w' ∧ Below w.heap.size w w' := by
  obtain ⟨w1, hw1⟩ : ∃ w1, w1 = w.alloc (.cells zs 25) := ⟨_, rfl⟩
  have L1 := hid (show Below w.heap.size w w1 by rw [hw1]; exact (Below.refl _ w).alloc (Nat.le_refl _) _)
  have F1 := hid (show Fn w1 w.heap.size 25 69 (sf s cv) by rw [hw1, hzs]; exact Fn.arr w _ 69 _)
  have hz1 := hid (show zs.size = 69 by rw [hzs]; exact strmV_size _ _)
  have HZ := hid hzs
  have C1 := hid (hC.below L1.out)
  have RS := hid (fun W (h : Below w1.heap.size w1 W) => show W.rangeAt w.heap.size 0 zs.toList from ((F1.out.below h F1.out.lt).range' zs hz1.out (fun j hj => by rw [HZ.out]; exact strmV_get _ _ hj)))
  have hinf := hid (show (Try.prog.info? 25).map (·.size) = some zs.toList.length from by rw [Array.length_toList, hz1.out]; kernel_rfl)
  have CM := hid (may_c HZ.out hb C1.out )
  have RR1 := RS.out w1 (Below.refl _ _)
  clear hzs hC
  by_cases hmay : mayS s
  · have HF := hid (may_fit hmay hb hg)
    rw [decide_eq_true hmay] at CM
    have HM := hid hmay
    have hz22 : ∀ W : World, (zeroValue 22).run Try.prog W = .ok (.agg (hl32 zero32)) W := zero_h32
    clear hmay
    go_enter Try.func9, Try.ntmps9
    go_upto_region 1 with fail
    rw [← hw1]
    clear hw1
    go_upto_region 3 with (first
      | ((with_reducible refine at_op (.load 25 (.tmp 1)) rfl ?_); refine wpList_load_mid rfl 25 (.tmp 1) rfl w.heap.size 0 rfl zs.toList _ RR1 Try.underlying25 rfl hinf.out ?_)
      | (go_at_call 12; refine CM.out.mono ?_; rintro e w2 ⟨rfl, hb2⟩; have B2 := hid hb2; clear hb2))
    have RR2 := RS.out w2 B2.out
    have L2 := hid (L1.out.trans (B2.out.mono L1.out.size))
    have CA := hid (ahead_c HZ.out HF.out (C1.out.below B2.out))
    go_upto_region 4 with (first
      | ((with_reducible refine at_op (.load 25 (.tmp 1)) rfl ?_); refine wpList_load_mid rfl 25 (.tmp 1) rfl w.heap.size 0 rfl zs.toList _ RR2 Try.underlying25 rfl hinf.out ?_)
      | (go_at_call 18; refine CA.out.mono ?_; rintro e w3 ⟨v3, rfl, O3, hb3⟩; have P3 := hid O3; have B3 := hid hb3; clear O3 hb3))
    have L3 := hid (L2.out.trans (B3.out.mono L2.out.size))
    have hlen := hid (encS_len HF.out)
    have CS := hid (shaSum_l P3.out.bytes (by have := hlen.out; omega))
    have h32s := hid (fun ys : List W8 => show (Try.prog.info? 22).map (·.size) = some (hl32 ys).size from by rw [hl32_size]; kernel_rfl)
    go_upto_region 5 with (first
      | ((with_reducible refine at_op (.store 22 (.tmp 5) (.tmp 12)) rfl ?_); refine wpList_store_mid rfl 22 (.tmp 5) (.tmp 12) rfl w4.heap.size 0 (hl32 (shaL (aheadS s))) rfl rfl (by rw [hl32_size]; exact (Fn.new w4 (hl32 zero32) 22 (hl32_size _) (fun j hj => hl32_get _ hj)).there 0 32 (by decide)) (h32s.out _) (hl32_one _) ?_)
      | (go_at_call 17; refine CS.out.mono ?_; rintro e w4 ⟨rfl, hb4⟩; have B4 := hid hb4; clear hb4))
    simp only [Act.put]
    have L4 := hid (L3.out.trans (B4.out.mono L3.out.size))
    have hw2s := hid B2.out.size
    obtain ⟨w5, hw5⟩ : ∃ w5, w5 = (w4.alloc (.cells (hl32 zero32) 22)).setCells w4.heap.size 0 (hl32 (shaL (aheadS s))).toList := ⟨_, rfl⟩
    have F5 := hid (show Fn w5 w4.heap.size 22 32 (fun j => .int .u8 (ub ((shaL (aheadS s)).getD j 0))) from by
      rw [hw5]; exact (Fn.new w4 (hl32 zero32) 22 (hl32_size _) (fun j hj => hl32_get _ hj)).storeAll (fun j => .int .u8 (ub ((shaL (aheadS s)).getD j 0))))
    have M5 := hid (show Mod (fun k => k = w4.heap.size) w4 w5 from by rw [hw5]; exact ((Mod.refl _ w4).alloc _).trans (Mod.cells _ _ _ _))
    have L5 := hid (show Below w.heap.size w w5 from L4.out.trans (M5.out.below L4.out.size (fun k hk e => by have := L4.out.size; omega)))
    have O5 := hid (show Ow w5 w.heap.size v3 (aheadS s) from ((P3.out.below B4.out).mod M5.out (fun k hk e => by have := (P3.out.below B4.out).lt k hk; omega)).lower L2.out.size)
    have Y5 := hid (bytes_range (shaL_length _) (Fn.lt F5.out) (F5.out.range' (hl32 (shaL (aheadS s))) (hl32_size _) (fun j hj => hl32_get _ hj)))
    rw [← hw5]
    clear hw5
    obtain ⟨p3, n3, c3, rfl⟩ := O5.out.bytes.form
    go_wp2_with (at_builtin; refine wpList_app rfl (.tmp 13) (.tmp 14) rfl rfl rfl O5.out Y5.out (by have := hlen.out; rw [shaL_length]; omega) L5.out.size ?_; intro v6 w6 O6 M6 _; have P6 := hid O6; have L6 := hid (M6.own_below O5.out L5.out.size L5.out); clear O6 M6)
    go_ret2
    exact ⟨by unfold EncAns; rw [if_pos HM.out]; exact ⟨_, rfl, P6.out⟩, L6.out⟩
  · rw [decide_eq_false hmay] at CM
    have HM := hid hmay
    clear hmay
    go_enter Try.func9, Try.ntmps9
    go_upto_region 1 with fail
    rw [← hw1]
    clear hw1
    go_wp2_with (first
      | ((with_reducible refine at_op (.load 25 (.tmp 1)) rfl ?_); refine wpList_load_mid rfl 25 (.tmp 1) rfl w.heap.size 0 rfl zs.toList _ RR1 Try.underlying25 rfl hinf.out ?_)
      | (go_at_call 12; refine CM.out.mono ?_; rintro e w2 ⟨rfl, hb2⟩; have B2 := hid hb2; clear hb2))
    go_ret2
    exact ⟨by unfold EncAns; rw [if_neg HM.out]; rfl, L1.out.trans (B2.out.mono L1.out.size)⟩
set_option maxRecDepth 100000 in
set_option maxHeartbeats 2000000 in
theorem rencode_c {w : World} {s : Strm} {cv : Value} {zs : Array Value} (hzs : zs = strmV s cv) (hb : s.base.length = 32) (hg : s.goal.length = 32) (hC : CellsAt w cv s.cells) (hl1 : s.set.length ≤ 1000000) (hl2 : s.frm.length ≤ 1000000) (hl3 : s.til.length ≤ 1000000) :
    Calls Try.prog 10 #[.agg zs] w fun e w' => EncAns w s e w' ∧ Below w.heap.size w w' := by
  obtain ⟨w1, hw1⟩ : ∃ w1, w1 = w.alloc (.cells zs 35) := ⟨_, rfl⟩
  have L1 := hid (show Below w.heap.size w w1 by rw [hw1]; exact (Below.refl _ w).alloc (Nat.le_refl _) _)
  have F1 := hid (show Fn w1 w.heap.size 35 69 (sf s cv) by rw [hw1, hzs]; exact Fn.arr w _ 69 _)
  have hz1 := hid (show zs.size = 69 by rw [hzs]; exact strmV_size _ _)
  have HZ := hid hzs
  have C1 := hid (hC.below L1.out)
  have RS := hid (fun W (h : Below w1.heap.size w1 W) => show W.rangeAt w.heap.size 0 zs.toList from ((F1.out.below h F1.out.lt).range' zs hz1.out (fun j hj => by rw [HZ.out]; exact strmV_get _ _ hj)))
  have hinf := hid (show (Try.prog.info? 35).map (·.size) = some zs.toList.length from by rw [Array.length_toList, hz1.out]; kernel_rfl)
  have CM := hid (rmay_c HZ.out hb C1.out hl1 hl2 hl3)
  have RR1 := RS.out w1 (Below.refl _ _)
  clear hzs hC
  by_cases hmay : mayS s
  · have HF := hid (may_fit hmay hb hg)
    rw [decide_eq_true hmay] at CM
    have HM := hid hmay
    have hz22 : ∀ W : World, (zeroValue 22).run Try.prog W = .ok (.agg (hl32 zero32)) W := zero_h32
    clear hmay
    go_enter Try.func10, Try.ntmps10
    go_upto_region 1 with fail
    rw [← hw1]
    clear hw1
    go_upto_region 3 with (first
      | ((with_reducible refine at_op (.load 35 (.tmp 1)) rfl ?_); refine wpList_load_mid rfl 35 (.tmp 1) rfl w.heap.size 0 rfl zs.toList _ RR1 Try.underlying35 rfl hinf.out ?_)
      | (go_at_call 13; refine CM.out.mono ?_; rintro e w2 ⟨rfl, hb2⟩; have B2 := hid hb2; clear hb2))
    have RR2 := RS.out w2 B2.out
    have L2 := hid (L1.out.trans (B2.out.mono L1.out.size))
    have CA := hid (rahead_c HZ.out HF.out (C1.out.below B2.out))
    go_upto_region 4 with (first
      | ((with_reducible refine at_op (.load 35 (.tmp 1)) rfl ?_); refine wpList_load_mid rfl 35 (.tmp 1) rfl w.heap.size 0 rfl zs.toList _ RR2 Try.underlying35 rfl hinf.out ?_)
      | (go_at_call 19; refine CA.out.mono ?_; rintro e w3 ⟨v3, rfl, O3, hb3⟩; have P3 := hid O3; have B3 := hid hb3; clear O3 hb3))
    have L3 := hid (L2.out.trans (B3.out.mono L2.out.size))
    have hlen := hid (encS_len HF.out)
    have CS := hid (refSum_l P3.out.bytes (by have := hlen.out; omega))
    have h32s := hid (fun ys : List W8 => show (Try.prog.info? 22).map (·.size) = some (hl32 ys).size from by rw [hl32_size]; kernel_rfl)
    go_upto_region 5 with (first
      | ((with_reducible refine at_op (.store 22 (.tmp 5) (.tmp 12)) rfl ?_); refine wpList_store_mid rfl 22 (.tmp 5) (.tmp 12) rfl w4.heap.size 0 (hl32 (shaL (aheadS s))) rfl rfl (by rw [hl32_size]; exact (Fn.new w4 (hl32 zero32) 22 (hl32_size _) (fun j hj => hl32_get _ hj)).there 0 32 (by decide)) (h32s.out _) (hl32_one _) ?_)
      | (go_at_call 20; refine CS.out.mono ?_; rintro e w4 ⟨rfl, hb4⟩; have B4 := hid hb4; clear hb4))
    simp only [Act.put]
    have L4 := hid (L3.out.trans (B4.out.mono L3.out.size))
    have hw2s := hid B2.out.size
    obtain ⟨w5, hw5⟩ : ∃ w5, w5 = (w4.alloc (.cells (hl32 zero32) 22)).setCells w4.heap.size 0 (hl32 (shaL (aheadS s))).toList := ⟨_, rfl⟩
    have F5 := hid (show Fn w5 w4.heap.size 22 32 (fun j => .int .u8 (ub ((shaL (aheadS s)).getD j 0))) from by
      rw [hw5]; exact (Fn.new w4 (hl32 zero32) 22 (hl32_size _) (fun j hj => hl32_get _ hj)).storeAll (fun j => .int .u8 (ub ((shaL (aheadS s)).getD j 0))))
    have M5 := hid (show Mod (fun k => k = w4.heap.size) w4 w5 from by rw [hw5]; exact ((Mod.refl _ w4).alloc _).trans (Mod.cells _ _ _ _))
    have L5 := hid (show Below w.heap.size w w5 from L4.out.trans (M5.out.below L4.out.size (fun k hk e => by have := L4.out.size; omega)))
    have O5 := hid (show Ow w5 w.heap.size v3 (aheadS s) from ((P3.out.below B4.out).mod M5.out (fun k hk e => by have := (P3.out.below B4.out).lt k hk; omega)).lower L2.out.size)
    have Y5 := hid (bytes_range (shaL_length _) (Fn.lt F5.out) (F5.out.range' (hl32 (shaL (aheadS s))) (hl32_size _) (fun j hj => hl32_get _ hj)))
    rw [← hw5]
    clear hw5
    obtain ⟨p3, n3, c3, rfl⟩ := O5.out.bytes.form
    go_wp2_with (at_builtin; refine wpList_app rfl (.tmp 13) (.tmp 14) rfl rfl rfl O5.out Y5.out (by have := hlen.out; rw [shaL_length]; omega) L5.out.size ?_; intro v6 w6 O6 M6 _; have P6 := hid O6; have L6 := hid (M6.own_below O5.out L5.out.size L5.out); clear O6 M6)
    go_ret2
    exact ⟨by unfold EncAns; rw [if_pos HM.out]; exact ⟨_, rfl, P6.out⟩, L6.out⟩
  · rw [decide_eq_false hmay] at CM
    have HM := hid hmay
    clear hmay
    go_enter Try.func10, Try.ntmps10
    go_upto_region 1 with fail
    rw [← hw1]
    clear hw1
    go_wp2_with (first
      | ((with_reducible refine at_op (.load 35 (.tmp 1)) rfl ?_); refine wpList_load_mid rfl 35 (.tmp 1) rfl w.heap.size 0 rfl zs.toList _ RR1 Try.underlying35 rfl hinf.out ?_)
      | (go_at_call 13; refine CM.out.mono ?_; rintro e w2 ⟨rfl, hb2⟩; have B2 := hid hb2; clear hb2))
    go_ret2
    exact ⟨by unfold EncAns; rw [if_neg HM.out]; rfl, L1.out.trans (B2.out.mono L1.out.size)⟩
end Go.Proofs.Ytpbkdjnogjmfcaa

