/- WireEncode: the walk. -/
import Derived.Test.YtpbkdjnogjmfcaaDecW
namespace Go.Proofs.Ytpbkdjnogjmfcaa
open Go.RowKit Go.ChangeMaps

/-- What both Encodes answer. -/
def ansB (s : Strm) : List W8 := if mayS s then encS s else []
def ansC (s : Strm) : Int := if mayS s then 0 else 1
theorem EncAns.got {w w' : World} {s : Strm} {e : Ending} (h : EncAns w s e w') : ∃ p m, e = .returned (.tuple #[.slice p (ansB s).length m, .int .i64 (ansC s)]) ∧ Bytes w' (.slice p (ansB s).length m) (ansB s) := by
  unfold EncAns at h
  by_cases hm : mayS s
  · rw [if_pos hm] at h
    obtain ⟨v, rfl, O⟩ := h
    obtain ⟨p, c, e⟩ := O.slice
    have e1 : ansB s = encS s := if_pos hm
    have e2 : ansC s = 0 := if_pos hm
    rw [e1, e2]
    subst e
    exact ⟨p, c, rfl, O.bytes⟩
  · rw [if_neg hm] at h
    have e1 : ansB s = [] := if_neg hm
    have e2 : ansC s = 1 := if_neg hm
    rw [e1, e2]
    exact ⟨none, 0, h, (Ow.nil w' 0).bytes⟩
set_option maxRecDepth 100000 in
set_option maxHeartbeats 4000000 in
theorem encode_walk {w : World} {s : Strm} {cv : Value} {zs : Array Value} (hzs : zs = strmV s cv) (hC : CellsAt w cv s.cells) (hb : s.base.length = 32) (hg : s.goal.length = 32) :
    Calls Try.prog 3 #[.agg zs] w fun e w' => e = .returned (.bool true) ∧ Below w.heap.size w w' := by
  obtain ⟨w1, hw1⟩ : ∃ w1, w1 = w.alloc (.cells zs 25) := ⟨_, rfl⟩
  have L1 := hid (show Below w.heap.size w w1 by rw [hw1]; exact (Below.refl _ w).alloc (Nat.le_refl _) _)
  have F1 := hid (show Fn w1 w.heap.size 25 69 (sf s cv) by rw [hw1, hzs]; exact Fn.arr w _ 69 _)
  have hz1 := hid (show zs.size = 69 by rw [hzs]; exact strmV_size _ _)
  have HZ := hid hzs
  have C1 := hid (hC.below L1.out)
  have RS := hid (fun W (h : Below w1.heap.size w1 W) => show W.rangeAt w.heap.size 0 zs.toList from ((F1.out.below h F1.out.lt).range' zs hz1.out (fun j hj => by rw [HZ.out]; exact strmV_get _ _ hj)))
  have hinf := hid (info25l hz1.out)
  have CS := hid (fun W (h : Below w1.heap.size w1 W) => small_c HZ.out (C1.out.below h))
  have rs1 := RS.out w1 (Below.refl _ _)
  have hbl := hid hb
  have hgl := hid hg
  clear hzs hC hb hg
  by_cases hsm : smallS s
  · rw [decide_eq_true hsm] at CS
    have HS := hid hsm
    have hl16 := hid (show s.cells.length ≤ 1000 by have := hsm.1.1; omega)
    have hl1 := hid (show s.set.length ≤ 1000000 by have := hsm.2.1; omega)
    have hl2 := hid (show s.frm.length ≤ 1000000 by have := hsm.2.2.1; omega)
    have hl3 := hid (show s.til.length ≤ 1000000 by have := hsm.2.2.2; omega)
    clear hsm
    go_enter Try.func3, Try.ntmps3
    go_upto_region 1 with fail
    rw [← hw1]
    clear hw1
    go_upto_region 3 with (first
      | ((with_reducible refine at_op (.load 25 (.tmp 1)) rfl ?_); refine wpList_load_mid rfl 25 (.tmp 1) rfl w.heap.size 0 rfl zs.toList _ rs1 Try.underlying25 rfl hinf.out ?_)
      | (go_at_call 7; ((with_reducible refine (CS.out _ (Below.refl _ _)).mono ?_); rintro e w2 ⟨rfl, hb2⟩); have B2 := hid hb2; clear hb2))
    have rs2 := RS.out w2 B2.out
    have CE := hid (encode_c HZ.out hbl.out hgl.out (C1.out.below B2.out))
    go_upto_region 4 with (first
      | ((with_reducible refine at_op (.load 25 (.tmp 1)) rfl ?_); refine wpList_load_mid rfl 25 (.tmp 1) rfl w.heap.size 0 rfl zs.toList _ rs2 Try.underlying25 rfl hinf.out ?_)
      | (go_at_call 9; ((with_reducible refine CE.out.mono ?_); rintro e w3 ⟨hE3, hb3⟩; obtain ⟨p3, m3, rfl, hY3⟩ := hE3.got); have Y3 := hid hY3; have B3 := hid (B2.out.trans (hb3.mono B2.out.size)); clear hE3 hY3 hb3))
    have rs3 := RS.out w3 B3.out
    have CP := hid (plain_c HZ.out (C1.out.below B3.out) hl16.out)
    have CR := hid (fun W c (h : CellsAt W c s.cells) => rencode_c (w := W) (s := s) (cv := c) rfl hbl.out hgl.out h hl1.out hl2.out hl3.out)
    go_upto_region 5 with (first
      | ((with_reducible refine at_op (.load 25 (.tmp 1)) rfl ?_); refine wpList_load_mid rfl 25 (.tmp 1) rfl w.heap.size 0 rfl zs.toList _ rs3 Try.underlying25 rfl hinf.out ?_)
      | (go_at_call 11; ((with_reducible refine CP.out.mono ?_); rintro e w4 ⟨c4, rfl, hC4, hb4⟩); have C4 := hid hC4; have B4 := hid hb4; clear hC4 hb4)
      | (go_at_call 10; ((with_reducible refine (CR.out _ _ C4.out).mono ?_); rintro e w5 ⟨hE5, hb5⟩; obtain ⟨p5, m5, rfl, hY5⟩ := hE5.got); have Y5 := hid hY5; have B45 := hid (B4.out.trans (hb5.mono B4.out.size)); clear hE5 hY5 hb5))
    have B5 := hid (B3.out.trans (B45.out.mono B3.out.size))
    have Y3 := hid (Y3.out.below B45.out)
    have C5 := hid (C1.out.below B5.out)
    obtain ⟨M, hM⟩ : ∃ M, M = decide (mayS s) := ⟨_, rfl⟩
    have HM := hid (show Value.bool (decide (mayS s)) = .bool M by rw [hM])
    clear CP CR CE CS rs1 rs2 rs3
    have hrefl : ∀ w : World, Below w.heap.size w w := fun w => Below.refl _ w
    obtain ⟨bw, hbw⟩ : ∃ bw, bw = w.heap.size := ⟨_, rfl⟩
    have RSb := hid (fun (W : World) h => show W.rangeAt bw 0 zs.toList from by rw [hbw]; exact RS.out W h)
    rw [← hbw]
    clear hbw RS
    refine region_rel (n := 43) (B := fun w' => Below w5.heap.size w5 w') (E := fun w w' => Below w.heap.size w w') (φ := (fun (kq : Nat) (v : Value) (w : World) => if kq = 17 then ∃ c, v = .agg (strmV s c) ∧ CellsAt w c s.cells else v = ([.bool true, .bool true, .slice p3 (ansB s).length m3, .string (str (ansB s)), .slice p5 (ansB s).length m5, .string (str (ansB s)), .bool true, .bool true, .bool true, .int .i64 (ansC s), .int .i64 (ansC s), .bool true, .bool true, .bool true, .agg zs, .bool M, .agg zs, undef, .bool M, .bool true, .bool true, .bool true] : List Value).getD kq undef)) (by kernel_rfl) (by kernel_rfl) (by kernel_rfl) (by kernel_rfl) ?mono hrefl ((Below.refl _ _).drew) ?hop ?hend
    case mono =>
      intro j v w w' h hE
      split at h
      · rename_i hj
        subst hj
        obtain ⟨c, h1, h2⟩ := h
        exact ⟨c, h1, h2.below hE⟩
      · rename_i hj
        rw [if_neg hj]
        exact h
    case hop =>
        refine And.intro ?_ ?_
        · intro V ρ w hB hc hf hd hs
          clear hd hs
          refine outcome_enter (w := w) (f := 8) (args := #[]) (by simp [go_sem, hf]) ?_
          refine (alive_c w).mono ?_
          rintro e w' ⟨rfl, Lx⟩
          exact ⟨_, rfl, rfl, hB.trans (Lx.mono hB.size), Lx⟩
        refine And.intro ?_ ?_
        · intro V ρ w hB hc hf hd hs
          have s22 : ρ (.tmp 22) = .bool true := (hd 0 (by kernel_rfl) 22 (by kernel_rfl)).2.trans (hd 0 (by kernel_rfl) 22 (by kernel_rfl)).1
          clear hd hs
          rw [BigFrame.run_move (.tmp 22) rfl]
          exact ⟨s22, hB, hrefl w⟩
        refine And.intro ?_ ?_
        · intro V ρ w hB hc hf hd hs
          have s3 : ρ (.tmp 3) = .slice p3 (ansB s).length m3 := hs 3 (by kernel_rfl)
          refine Or.inl ⟨(hd 1 (by kernel_rfl) 23 (by kernel_rfl)).1, ?_⟩
          clear hd hs
          rw [BigFrame.run_move (.tmp 3) rfl]
          exact ⟨s3, hB, hrefl w⟩
        refine And.intro ?_ ?_
        · intro V ρ w hB hc hf hd hs
          have s24 : ρ (.tmp 24) = .slice p3 (ansB s).length m3 := (hd 2 (by kernel_rfl) 24 (by kernel_rfl)).2.trans (hd 2 (by kernel_rfl) 24 (by kernel_rfl)).1
          refine Or.inl ⟨(hd 1 (by kernel_rfl) 23 (by kernel_rfl)).1, ?_⟩
          clear hd hs
          exact outcome_value (run_conv rfl s24 (conv_str' (Y3.out.below hB))) ⟨rfl, hB, hrefl w⟩
        refine And.intro ?_ ?_
        · intro V ρ w hB hc hf hd hs
          have s5 : ρ (.tmp 5) = .slice p5 (ansB s).length m5 := hs 5 (by kernel_rfl)
          refine Or.inl ⟨(hd 1 (by kernel_rfl) 23 (by kernel_rfl)).1, ?_⟩
          clear hd hs
          rw [BigFrame.run_move (.tmp 5) rfl]
          exact ⟨s5, hB, hrefl w⟩
        refine And.intro ?_ ?_
        · intro V ρ w hB hc hf hd hs
          have s26 : ρ (.tmp 26) = .slice p5 (ansB s).length m5 := (hd 4 (by kernel_rfl) 26 (by kernel_rfl)).2.trans (hd 4 (by kernel_rfl) 26 (by kernel_rfl)).1
          refine Or.inl ⟨(hd 1 (by kernel_rfl) 23 (by kernel_rfl)).1, ?_⟩
          clear hd hs
          exact outcome_value (run_conv rfl s26 (conv_str' (Y5.out.below hB))) ⟨rfl, hB, hrefl w⟩
        refine And.intro ?_ ?_
        · intro V ρ w hB hc hf hd hs
          have s25 : ρ (.tmp 25) = .string (str (ansB s)) := (hd 3 (by kernel_rfl) 25 (by kernel_rfl)).2.trans (hd 3 (by kernel_rfl) 25 (by kernel_rfl)).1
          have s27 : ρ (.tmp 27) = .string (str (ansB s)) := (hd 5 (by kernel_rfl) 27 (by kernel_rfl)).2.trans (hd 5 (by kernel_rfl) 27 (by kernel_rfl)).1
          refine Or.inl ⟨(hd 1 (by kernel_rfl) 23 (by kernel_rfl)).1, ?_⟩
          clear hd hs
          refine outcome_value (v := .bool true) ?_ ⟨rfl, hB, hrefl w⟩
          simp [go_sem, s25, s27]
        refine And.intro ?_ ?_
        · intro V ρ w hB hc hf hd hs
          have s23 : ρ (.tmp 23) = .bool true := (hd 1 (by kernel_rfl) 23 (by kernel_rfl)).2.trans (hd 1 (by kernel_rfl) 23 (by kernel_rfl)).1
          have s28 : ρ (.tmp 28) = .bool true := (hd 6 (by kernel_rfl) 28 (by kernel_rfl)).2.trans (hd 6 (by kernel_rfl) 28 (by kernel_rfl)).1
          clear hd hs
          refine outcome_value (v := .bool true) ?_ ⟨rfl, hB, hrefl w⟩
          simp [go_sem, hc, s23, s28]
        refine And.intro ?_ ?_
        · intro V ρ w hB hc hf hd hs
          have s29 : ρ (.tmp 29) = .bool true := (hd 7 (by kernel_rfl) 29 (by kernel_rfl)).2.trans (hd 7 (by kernel_rfl) 29 (by kernel_rfl)).1
          clear hd hs
          rw [BigFrame.run_move (.tmp 29) rfl]
          exact ⟨s29, hB, hrefl w⟩
        refine And.intro ?_ ?_
        · intro V ρ w hB hc hf hd hs
          have s4 : ρ (.tmp 4) = .int .i64 (ansC s) := hs 4 (by kernel_rfl)
          refine Or.inl ⟨(hd 8 (by kernel_rfl) 30 (by kernel_rfl)).1, ?_⟩
          clear hd hs
          rw [BigFrame.run_move (.tmp 4) rfl]
          exact ⟨s4, hB, hrefl w⟩
        refine And.intro ?_ ?_
        · intro V ρ w hB hc hf hd hs
          have s6 : ρ (.tmp 6) = .int .i64 (ansC s) := hs 6 (by kernel_rfl)
          refine Or.inl ⟨(hd 8 (by kernel_rfl) 30 (by kernel_rfl)).1, ?_⟩
          clear hd hs
          rw [BigFrame.run_move (.tmp 6) rfl]
          exact ⟨s6, hB, hrefl w⟩
        refine And.intro ?_ ?_
        · intro V ρ w hB hc hf hd hs
          have s31 : ρ (.tmp 31) = .int .i64 (ansC s) := (hd 9 (by kernel_rfl) 31 (by kernel_rfl)).2.trans (hd 9 (by kernel_rfl) 31 (by kernel_rfl)).1
          have s32 : ρ (.tmp 32) = .int .i64 (ansC s) := (hd 10 (by kernel_rfl) 32 (by kernel_rfl)).2.trans (hd 10 (by kernel_rfl) 32 (by kernel_rfl)).1
          refine Or.inl ⟨(hd 8 (by kernel_rfl) 30 (by kernel_rfl)).1, ?_⟩
          clear hd hs
          refine outcome_value (v := .bool true) ?_ ⟨rfl, hB, hrefl w⟩
          simp [go_sem, s31, s32]
        refine And.intro ?_ ?_
        · intro V ρ w hB hc hf hd hs
          have s30 : ρ (.tmp 30) = .bool true := (hd 8 (by kernel_rfl) 30 (by kernel_rfl)).2.trans (hd 8 (by kernel_rfl) 30 (by kernel_rfl)).1
          have s33 : ρ (.tmp 33) = .bool true := (hd 11 (by kernel_rfl) 33 (by kernel_rfl)).2.trans (hd 11 (by kernel_rfl) 33 (by kernel_rfl)).1
          clear hd hs
          refine outcome_value (v := .bool true) ?_ ⟨rfl, hB, hrefl w⟩
          simp [go_sem, hc, s30, s33]
        refine And.intro ?_ ?_
        · intro V ρ w hB hc hf hd hs
          have s34 : ρ (.tmp 34) = .bool true := (hd 12 (by kernel_rfl) 34 (by kernel_rfl)).2.trans (hd 12 (by kernel_rfl) 34 (by kernel_rfl)).1
          clear hd hs
          rw [BigFrame.run_move (.tmp 34) rfl]
          exact ⟨s34, hB, hrefl w⟩
        refine And.intro ?_ ?_
        · intro V ρ w hB hc hf hd hs
          have s1 : ρ (.tmp 1) = .pointer (some ⟨bw, 0, none⟩) := hs 1 (by kernel_rfl)
          refine Or.inl ⟨(hd 13 (by kernel_rfl) 35 (by kernel_rfl)).1, ?_⟩
          clear hd hs
          exact outcome_value (v := .agg zs) (run_load_row rfl s1 (RSb.out _ (B5.out.trans (hB.mono B5.out.size))) Try.underlying25 rfl (info25 hz1.out)) ⟨rfl, hB, hrefl w⟩
        refine And.intro ?_ ?_
        · intro V ρ w hB hc hf hd hs
          have s36 : ρ (.tmp 36) = .agg zs := (hd 14 (by kernel_rfl) 36 (by kernel_rfl)).2.trans (hd 14 (by kernel_rfl) 36 (by kernel_rfl)).1
          refine Or.inl ⟨(hd 13 (by kernel_rfl) 35 (by kernel_rfl)).1, ?_⟩
          clear hd hs
          refine outcome_enter (w := w) (f := 12) (args := #[.agg zs]) (by simp [go_sem, hf, s36]) ?_
          refine (may_c HZ.out hbl.out (C5.out.below hB)).mono ?_
          rintro e w' ⟨rfl, Lx⟩
          exact ⟨_, rfl, HM.out, hB.trans (Lx.mono hB.size), Lx⟩
        refine And.intro ?_ ?_
        · intro V ρ w hB hc hf hd hs
          have s1 : ρ (.tmp 1) = .pointer (some ⟨bw, 0, none⟩) := hs 1 (by kernel_rfl)
          refine Or.inl ⟨(hd 13 (by kernel_rfl) 35 (by kernel_rfl)).1, ?_⟩
          clear hd hs
          exact outcome_value (v := .agg zs) (run_load_row rfl s1 (RSb.out _ (B5.out.trans (hB.mono B5.out.size))) Try.underlying25 rfl (info25 hz1.out)) ⟨rfl, hB, hrefl w⟩
        refine And.intro ?_ ?_
        · intro V ρ w hB hc hf hd hs
          have s38 : ρ (.tmp 38) = .agg zs := (hd 16 (by kernel_rfl) 38 (by kernel_rfl)).2.trans (hd 16 (by kernel_rfl) 38 (by kernel_rfl)).1
          refine Or.inl ⟨(hd 13 (by kernel_rfl) 35 (by kernel_rfl)).1, ?_⟩
          clear hd hs
          refine outcome_enter (w := w) (f := 11) (args := #[.agg zs]) (by simp [go_sem, hf, s38]) ?_
          refine (plain_c HZ.out (C5.out.below hB) hl16.out).mono ?_
          rintro e w' ⟨c, rfl, hC, Lx⟩
          exact ⟨_, rfl, Eq.mpr (if_pos rfl) ⟨c, rfl, hC⟩, hB.trans (Lx.mono hB.size), Lx⟩
        refine And.intro ?_ ?_
        · intro V ρ w hB hc hf hd hs
          obtain ⟨f39, s39⟩ := hd 17 (by kernel_rfl) 39 (by kernel_rfl)
          refine Or.inl ⟨(hd 13 (by kernel_rfl) 35 (by kernel_rfl)).1, ?_⟩
          clear hd hs
          obtain ⟨c, hv, hC⟩ := Eq.mp (if_pos rfl) f39
          rw [hv] at s39
          refine outcome_enter (w := w) (f := 13) (args := #[.agg (strmV s c)]) (by simp [go_sem, hf, s39]) ?_
          refine (rmay_c rfl hbl.out hC hl1.out hl2.out hl3.out).mono ?_
          rintro e w' ⟨rfl, Lx⟩
          exact ⟨_, rfl, HM.out, hB.trans (Lx.mono hB.size), Lx⟩
        refine And.intro ?_ ?_
        · intro V ρ w hB hc hf hd hs
          have s37 : ρ (.tmp 37) = .bool M := (hd 15 (by kernel_rfl) 37 (by kernel_rfl)).2.trans (hd 15 (by kernel_rfl) 37 (by kernel_rfl)).1
          have s40 : ρ (.tmp 40) = .bool M := (hd 18 (by kernel_rfl) 40 (by kernel_rfl)).2.trans (hd 18 (by kernel_rfl) 40 (by kernel_rfl)).1
          refine Or.inl ⟨(hd 13 (by kernel_rfl) 35 (by kernel_rfl)).1, ?_⟩
          clear hd hs
          refine outcome_value (v := .bool true) ?_ ⟨rfl, hB, hrefl w⟩
          simp [go_sem, s37, s40]
        refine And.intro ?_ ?_
        · intro V ρ w hB hc hf hd hs
          have s35 : ρ (.tmp 35) = .bool true := (hd 13 (by kernel_rfl) 35 (by kernel_rfl)).2.trans (hd 13 (by kernel_rfl) 35 (by kernel_rfl)).1
          have s41 : ρ (.tmp 41) = .bool true := (hd 19 (by kernel_rfl) 41 (by kernel_rfl)).2.trans (hd 19 (by kernel_rfl) 41 (by kernel_rfl)).1
          clear hd hs
          refine outcome_value (v := .bool true) ?_ ⟨rfl, hB, hrefl w⟩
          simp [go_sem, hc, s35, s41]
        refine And.intro ?_ ?_
        · intro V ρ w hB hc hf hd hs
          have s42 : ρ (.tmp 42) = .bool true := (hd 20 (by kernel_rfl) 42 (by kernel_rfl)).2.trans (hd 20 (by kernel_rfl) 42 (by kernel_rfl)).1
          clear hd hs
          rw [BigFrame.run_assign (.tmp 42) rfl]
          exact ⟨s42, hB, hrefl w⟩
        exact trivial
    case hend =>
      intro V w6 hB6 hV
      have v21 : V 21 = .bool true := hV 21 (by decide)
      simp only [lexF, Act.put, List.setIfInBounds_toArray, List.set_cons_zero, List.set_cons_succ, v21]
      have B6 := hid (B5.out.trans (hB6.mono B5.out.size))
      clear hV hB6 v21 hrefl
      go_wp2
      go_ret
      exact ⟨rfl, L1.out.trans (B6.out.mono L1.out.size)⟩
  · rw [decide_eq_false hsm] at CS
    clear hsm
    go_enter Try.func3, Try.ntmps3
    go_upto_region 1 with fail
    rw [← hw1]
    clear hw1
    go_wp2_with (first
      | ((with_reducible refine at_op (.load 25 (.tmp 1)) rfl ?_); refine wpList_load_mid rfl 25 (.tmp 1) rfl w.heap.size 0 rfl zs.toList _ rs1 Try.underlying25 rfl hinf.out ?_)
      | (go_at_call 7; ((with_reducible refine (CS.out _ (Below.refl _ _)).mono ?_); rintro e w2 ⟨rfl, hb2⟩); have B2 := hid hb2; clear hb2)
      | (go_at_call 8; ((with_reducible refine (alive_c _).mono ?_); rintro e w3 ⟨rfl, hb3⟩); have B3 := hid (B2.out.trans (hb3.mono B2.out.size)); clear hb3))
    go_ret
    exact ⟨rfl, L1.out.trans (B3.out.mono L1.out.size)⟩
end Go.Proofs.Ytpbkdjnogjmfcaa

