/- WireDecode: the walk. -/
import Derived.Test.YtpbkdjnogjmfcaaOnly
import Derived.Test.YtpbkdjnogjmfcaaRel
namespace Go.Proofs.Ytpbkdjnogjmfcaa
open Go.RowKit Go.ChangeMaps

theorem rdecode_l {w : World} {v : Value} {xs : List W8} (hB : Bytes w v xs) (hl : xs.length ≤ 5100) {d : Int × Strm} (hd : d = decS xs) :
    Calls Try.prog 15 #[v] w fun e w' => ∃ cv zs, e = .returned (.tuple #[.agg zs, .int .i64 d.1]) ∧ zs = strmV d.2 cv ∧ zs.size = 69 ∧ zs.all (·.oneCell') = true ∧ CellsAt w' cv d.2.cells ∧ Below w.heap.size w w' := by
  subst hd
  refine (rdecode_c hB hl).mono ?_
  rintro e w' ⟨cv, ts, rfl, hts, hC, hb⟩
  have hlen := (dec_small xs).2.2.1
  have hl2 : ts.length ≤ 1000 := by
    have : (tcs ts).length = ts.length := by unfold tcs; rw [List.length_map]
    rw [hts] at hlen; omega
  refine ⟨cv, _, rfl, rfl, strmV_size _ _, hC.one _, ?_, hb⟩
  rw [hts]
  exact hC.read (fun v xs h => h.1) hl2
theorem run_load_row {ρ : Operand → Value} {o : Oper} {ty : TypeId} {x : Operand} {b : Nat} {cs : Array Value} {w : World} {d : TypeDesc} (ho : o.op = .load ty x) (hx : ρ x = .pointer (some ⟨b, 0, none⟩)) (hr : w.rangeAt b 0 cs.toList)
    (hu : Try.prog.underlying ty = some d) (hd : d.isRow = true) (hi : (Try.prog.info? ty).map (·.size) = some cs.size) : (execOp ρ o).run Try.prog w = .ok (.value (.agg cs)) w := by
  have h := run_loadVar_mid (P := Try.prog) w b 0 ty cs.toList d hr hu hd (by rw [hi, Array.length_toList])
  unfold execOp
  simp only [ho, hx, Instr.loadAt, Instr.sureAddr, Sem.run_bind, Sem.run_pure, Result.andThen_ok, h, Array.toArray_toList]
/-- A byte of one's own is written. -/
theorem Ow.setCell {w : World} {base : Nat} {v : Value} {ys : List W8} (h : Ow w base v ys) (g k : Nat) (x : W8) : ∃ ys' : List W8, ys'.length = ys.length ∧ Ow (w.setCell ⟨g, k, none⟩ (.int .u8 (ub x))) base v ys' := by
  by_cases hg : v.ownBlock = some g
  · have h' := h
    obtain ⟨h0, h⟩ := h
    rcases h with ⟨rfl, _⟩ | ⟨g', cap, cur, rfl, hb, hh, h1, h2, h3, h4⟩
    · cases hg
    · have e : g' = g := Option.some.inj hg
      subst e
      have B : Blk w g' cur 5 := hh
      refine ⟨ys.set k x, List.length_set, ?_⟩
      refine ⟨by rw [byv_length, List.length_set]; omega, Or.inr ⟨g', cap, cur.setIfInBounds k (.int .u8 (ub x)), by rw [List.length_set], hb, B.set k _, by rw [List.length_set]; exact h1, h2, by simp [h3], ?_⟩⟩
      rw [List.length_set, Array.toList_setIfInBounds, List.take_set, h4]
      unfold byv
      rw [List.map_set]
  · exact ⟨ys, rfl, h.mod (Mod.one w g k _) (fun k' hk e => hg (by rw [hk, e]))⟩
theorem Ow.byte {w : World} {base : Nat} {v : Value} {ys : List W8} (h : Ow w base v ys) {k : Nat} (hk : k < ys.length) : ∃ g cap cur y, v = .slice (some ⟨g, 0, none⟩) ys.length cap ∧ base ≤ g ∧ Blk w g cur 5 ∧ ys.length ≤ cap ∧ w.cell? ⟨g, k, none⟩ = some (.int .u8 y) := by
  have hb := h.bytes
  obtain ⟨_, h⟩ := h
  rcases h with ⟨rfl, h0⟩ | ⟨g, cap, cur, rfl, h1, hh, h2, h3, h4, h5⟩
  · omega
  · obtain ⟨p, c, e, hq⟩ := hb
    cases e
    obtain ⟨b, off, e, _, _, _, hS⟩ := hq (by omega)
    cases e
    have := hS k hk
    rw [Nat.zero_add] at this
    exact ⟨g, cap, cur, _, rfl, h1, hh, h2, this⟩
/-- What the walk knows that writes over the stream's bytes. -/
structure LS (w1 : World) (b4 : Nat) (s : Strm) (cv : Value) (ts : List Tr) (wr : World) : Prop where
  below : Below w1.heap.size w1 wr
  f4 : Fn wr b4 25 69 (sf s cv)
  rows : wr.ownsRow w1.heap.size 44 2 cv ts.length (flatC ts)
  bys : ∀ t ∈ ts, ∃ ys : List W8, ys.length = t.2.1.length ∧ Ow wr w1.heap.size t.2.2 ys
section
variable {w1 : World} {b4 : Nat} {s : Strm} {cv : Value} {ts : List Tr} {wr w' : World}
theorem LS.put (h : LS w1 b4 s cv ts wr) {g k : Nat} {cur : Array Value} (x : W8) (hg : Blk wr g cur 5) (hge : w1.heap.size ≤ g) : LS w1 b4 s cv ts (wr.setCell ⟨g, k, none⟩ (.int .u8 (ub x))) := by
  refine ⟨h.below.trans ((Mod.one wr g k _).below h.below.size (fun k hk e => by omega)), ?_, (Mod.one wr g k _).row h.rows (fun j hj e => ?_), fun t ht => ?_⟩
  · refine h.f4.mod (Mod.one wr g k _) (fun e => ?_)
    obtain ⟨cs, hb, _⟩ := h.f4
    rw [e] at hb
    exact absurd (Blk.inj hb hg).2 (by decide)
  · subst e; exact ownsRow_blk h.rows hg (by decide) hj
  · obtain ⟨ys, h1, h2⟩ := h.bys t ht
    obtain ⟨ys', h3, h4⟩ := h2.setCell g k x
    exact ⟨ys', h3.trans h1, h4⟩
theorem LS.quiet (h : LS w1 b4 s cv ts wr) (hb : Below wr.heap.size wr w') : LS w1 b4 s cv ts w' :=
  ⟨h.below.trans (hb.mono h.below.size), h.f4.below hb h.f4.lt, (Mod.of_below hb (fun _ => False)).row h.rows (fun _ _ h => h), fun t ht => by
    obtain ⟨ys, h1, h2⟩ := h.bys t ht
    exact ⟨ys, h1, h2.below hb⟩⟩
theorem LS.row (h : LS w1 b4 s cv ts wr) {i : Nat} (hi : i < ts.length) : ∃ g cap, cv = .slice (some ⟨g, 0, none⟩) ts.length cap ∧ ts.length ≤ cap ∧ wr.cell? ⟨g, i * 2 + 1, none⟩ = some ts[i].2.2 := by
  rcases h.rows.2 with ⟨_, h0⟩ | ⟨g, cap, cur, rfl, _, h2, h3, h4, h5, h6⟩
  · omega
  · refine ⟨g, cap, rfl, h3, ?_⟩
    have hb : Blk wr g cur 44 := h2
    refine hb.cellv ?_
    rw [← Array.getElem?_toList, ← List.getElem?_take_of_lt (show i * 2 + 1 < ts.length * 2 by omega), h6]
    exact (flatC_get ts i hi).2
end
set_option maxRecDepth 100000 in
set_option maxHeartbeats 4000000 in
theorem decode_walk {w : World} {v : Value} {xs : List W8} (hB : Bytes w v xs) (hm : xs.length ≤ maxLen) :
    Calls Try.prog 4 #[v] w fun e w' => e = .returned (.bool true) ∧ Below w.heap.size w w' := by
  have HB := hid hB
  obtain ⟨p, cap, rfl, _⟩ := hB
  unfold maxLen at hm
  by_cases h5 : 5100 < xs.length
  · have h5' : (5100 : Int) < (xs.length : Int) := by omega
    go_enter Try.func4, Try.ntmps4
    go_wp2_with (go_at_call 8; ((with_reducible refine (alive_c _).mono ?_); rintro e w1 ⟨rfl, hb1⟩); have B1 := hid hb1; clear hb1)
    go_ret
    exact ⟨rfl, B1.out⟩
  · have h5' : ¬ (5100 : Int) < (xs.length : Int) := by omega
    obtain ⟨zs, hzs⟩ : ∃ zs, zs = strmV Strm.zero (.slice none 0 0) := ⟨_, rfl⟩
    have hz : ∀ W : World, (zeroValue 25).run Try.prog W = .ok (.agg zs) W := by rw [hzs]; exact strm_zero
    have hz' : ∀ W : World, (zeroValue 35).run Try.prog W = .ok (.agg zs) W := by rw [hzs]; exact (fun W => rfl)
    have HZ := hid hzs
    obtain ⟨d, hd⟩ : ∃ d, d = decS xs := ⟨_, rfl⟩
    have HD := hid hd
    have DS := hid (dec_small xs)
    rw [← hd] at DS
    have O0 := hid (Ow.empty w (Nat.le_refl w.heap.size))
    have L0 := hid ((Below.refl w.heap.size w).alloc (Nat.le_refl _) (.cells #[] 5))
    have H5 := hid h5
    clear hzs hd
    go_enter Try.func4, Try.ntmps4
    go_upto_region 4 with (at_builtin; refine wpList_app rfl (.tmp 15) (.tmp 16) rfl rfl rfl O0.out (HB.out.below L0.out) (by have := H5.out; simp only [List.length_nil]; omega) L0.out.size ?_; intro v1 w1 O1 M1 _; have P1 := hid O1; have L1 := hid (M1.own_below O0.out L0.out.size L0.out); clear O1 M1)
    have P1 : Hid (Ow w1 w.heap.size v1 xs) := P1
    obtain ⟨p1, c1, rfl⟩ := P1.out.slice
    have CD : Hid _ := hid (decode_c P1.out.bytes (by have := H5.out; omega))
    rw [← HD.out] at CD
    go_upto_region 5 with (first
      | (go_at_call 14; ((with_reducible refine CD.out.mono ?_); rintro e w2 ⟨cv, ts, rfl, hts, hC, hb2⟩); have HTS := hid hts; have CC := hid hC; have B2 := hid hb2; clear hts hC hb2; (obtain ⟨z2, hz2⟩ : ∃ z2, z2 = strmV d.2 cv := ⟨_, rfl⟩); rw [← hz2]; have HZ2 := hid hz2; have S2 := hid (hz2 ▸ strmV_size _ _ : z2.size = 69); have O2 := hid (hz2 ▸ CC.out.one _ : z2.all (·.oneCell') = true); clear hz2)
      | ((with_reducible refine at_op (.store 25 (.tmp 4) (.tmp 21)) rfl ?_); refine wpList_store_mid rfl 25 (.tmp 4) (.tmp 21) rfl w2.heap.size 0 z2 rfl rfl (lay_there HZ.out S2.out) (info25 S2.out) O2.out ?_))
    clear CD
    have F3 := hid (fn_lay (W := w2) (T := 25) HZ.out HZ2.out)
    have L3 := hid (below_lay w2 25 zs z2 (Nat.le_refl _))
    obtain ⟨w3, hw3⟩ : ∃ w3, w3 = (w2.alloc (.cells zs 25)).setCells w2.heap.size 0 z2.toList := ⟨_, rfl⟩
    rw [← hw3] at F3 L3
    rw [← hw3]
    clear hw3
    obtain ⟨b4, hb4⟩ : ∃ b4, b4 = w2.heap.size := ⟨_, rfl⟩
    rw [← hb4] at F3
    rw [← hb4]
    have hlt4 := hid (show w1.heap.size ≤ b4 from by rw [hb4]; exact B2.out.size)
    clear hb4
    have B3 := hid (B2.out.trans (L3.out.mono B2.out.size))
    have hl16 := hid (show ts.length ≤ 1000 from by
      have h := DS.out.2.2.1
      rw [HTS.out] at h
      unfold tcs at h
      rw [List.length_map] at h; omega)
    have HTL := hl16
    have hl17 := hid (show d.2.cells.length ≤ 1000 from by have h := DS.out.2.2.1; omega)
    have C2 := hid (show CellsAt w3 cv d.2.cells from by
      have := CC.out.read (fun v xs h => h.bytes) hl16.out
      rw [← HTS.out] at this
      exact this.below L3.out)
    have LS3 := hid (show LS w1 b4 d.2 cv ts w3 from
      ⟨B3.out, F3.out, (Mod.of_below L3.out (fun _ => False)).row CC.out.1 (fun _ _ h => h), fun t ht => ⟨t.2.1, rfl, (CC.out.2 t ht).1.below L3.out⟩⟩)
    have HB3 := hid (HB.out.below (L1.out.trans (B3.out.mono L1.out.size)))
    have CR := hid (rdecode_l HB3.out (by have := H5.out; omega) HD.out)
    clear CC F3
    go_upto_region 6 with (first
      | (go_at_call 15; ((with_reducible refine CR.out.mono ?_); rintro e w4 ⟨cv4, z4, rfl, hz4, hs4, ho4, hC4, hb4⟩); have B4 := hid hb4; have HZ4 := hid hz4; have S4 := hid hs4; have O4 := hid ho4; have C4 := hid hC4; clear hz4 hs4 ho4 hC4 hb4)
      | ((with_reducible refine at_op (.store 35 (.tmp 6) (.tmp 26)) rfl ?_); refine wpList_store_mid rfl 35 (.tmp 6) (.tmp 26) rfl w4.heap.size 0 z4 rfl rfl (lay_there HZ.out S4.out) (info35 S4.out) O4.out ?_))
    clear CR
    have F5 := hid (fn_lay (W := w4) (T := 35) HZ.out HZ4.out)
    have L5 := hid (below_lay w4 35 zs z4 (Nat.le_refl _))
    obtain ⟨w5, hw5⟩ : ∃ w5, w5 = (w4.alloc (.cells zs 35)).setCells w4.heap.size 0 z4.toList := ⟨_, rfl⟩
    rw [← hw5] at F5 L5
    rw [← hw5]
    clear hw5
    obtain ⟨b6, hb6⟩ : ∃ b6, b6 = w4.heap.size := ⟨_, rfl⟩
    rw [← hb6] at F5
    rw [← hb6]
    clear hb6
    have B5 := hid (B4.out.trans (L5.out.mono B4.out.size))
    have LS5 := hid (LS3.out.quiet B5.out)
    have C2 := hid (C2.out.below B5.out)
    have C4 := hid (C4.out.below L5.out)
    have R4 := hid (fun (W : World) (h : Below w5.heap.size w5 W) => show W.rangeAt b4 0 z2.toList from (LS5.out.f4.below h LS5.out.f4.lt).range' z2 S2.out (fun j hj => by rw [HZ2.out]; exact strmV_get _ _ hj))
    have R6 := hid (fun (W : World) (h : Below w5.heap.size w5 W) => show W.rangeAt b6 0 z4.toList from (F5.out.below h F5.out.lt).range' z4 S4.out (fun j hj => by rw [HZ4.out]; exact strmV_get _ _ hj))
    have hl16 := hl17
    clear LS3 B3 B4 L3 L5 F5 hl17
    have hrefl : ∀ w : World, Below w.heap.size w w := fun w => Below.refl _ w
    refine region_rel (n := 74) (B := fun w' => Below w5.heap.size w5 w') (E := fun w w' => Below w.heap.size w w') (φ := (fun (kq : Nat) (v : Value) (w : World) => if kq = 1 then ∃ c, v = .agg (strmV d.2 c) ∧ CellsAt w c d.2.cells else v = ([.agg z2, undef, .agg z4, .bool true, .bool true, .int .i64 d.1, .int .i64 d.1, .bool true, .bool true, .bool true] : List Value).getD kq undef)) (by kernel_rfl) (by kernel_rfl) (by kernel_rfl) (by kernel_rfl) ?mono hrefl ((Below.refl _ _).drew) ?hop ?hend
    case mono =>
      intro j v w w' h hE
      split at h
      · rename_i hj
        subst hj
        obtain ⟨c, h1, h2⟩ := h
        exact ⟨c, h1, h2.below hE⟩
      · rename_i hj
        rw [if_neg hj]
        exact h
    case hop =>
        refine And.intro ?_ ?_
        · intro V ρ w hB hc hf hd hs
          have s4 : ρ (.tmp 4) = .pointer (some ⟨b4, 0, none⟩) := hs 4 (by kernel_rfl)
          clear hd hs
          exact outcome_value (v := .agg z2) (run_load_row rfl s4 (R4.out _ hB) Try.underlying25 rfl (info25 S2.out)) ⟨rfl, hB, hrefl w⟩
        refine And.intro ?_ ?_
        · intro V ρ w hB hc hf hd hs
          have s28 : ρ (.tmp 28) = .agg z2 := (hd 0 (by kernel_rfl) 28 (by kernel_rfl)).2.trans (hd 0 (by kernel_rfl) 28 (by kernel_rfl)).1
          clear hd hs
          refine outcome_enter (w := w) (f := 11) (args := #[.agg z2]) (by simp [go_sem, hf, s28]) ?_
          refine (plain_c HZ2.out (C2.out.below hB) hl16.out).mono ?_
          rintro e w' ⟨c, rfl, hC, Lx⟩
          exact ⟨_, rfl, Eq.mpr (if_pos rfl) ⟨c, rfl, hC⟩, hB.trans (Lx.mono hB.size), Lx⟩
        refine And.intro ?_ ?_
        · intro V ρ w hB hc hf hd hs
          have s6 : ρ (.tmp 6) = .pointer (some ⟨b6, 0, none⟩) := hs 6 (by kernel_rfl)
          clear hd hs
          exact outcome_value (v := .agg z4) (run_load_row rfl s6 (R6.out _ hB) Try.underlying35 rfl (info35 S4.out)) ⟨rfl, hB, hrefl w⟩
        refine And.intro ?_ ?_
        · intro V ρ w hB hc hf hd hs
          obtain ⟨f29, s29⟩ := hd 1 (by kernel_rfl) 29 (by kernel_rfl)
          have s30 : ρ (.tmp 30) = .agg z4 := (hd 2 (by kernel_rfl) 30 (by kernel_rfl)).2.trans (hd 2 (by kernel_rfl) 30 (by kernel_rfl)).1
          clear hd hs
          obtain ⟨c, hv, hC⟩ := Eq.mp (if_pos rfl) f29
          rw [hv] at s29
          refine outcome_enter (w := w) (f := 16) (args := #[.agg (strmV d.2 c), .agg z4]) (by simp [go_sem, hf, s29, s30]) ?_
          refine (same_c rfl HZ4.out DS.out.1 DS.out.2.1 hC (C4.out.below hB)).mono ?_
          rintro e w' ⟨rfl, Lx⟩
          exact ⟨_, rfl, rfl, hB.trans (Lx.mono hB.size), Lx⟩
        refine And.intro ?_ ?_
        · intro V ρ w hB hc hf hd hs
          have s31 : ρ (.tmp 31) = .bool true := (hd 3 (by kernel_rfl) 31 (by kernel_rfl)).2.trans (hd 3 (by kernel_rfl) 31 (by kernel_rfl)).1
          clear hd hs
          rw [BigFrame.run_move (.tmp 31) rfl]
          exact ⟨s31, hB, hrefl w⟩
        refine And.intro ?_ ?_
        · intro V ρ w hB hc hf hd hs
          have s5 : ρ (.tmp 5) = .int .i64 d.1 := hs 5 (by kernel_rfl)
          refine Or.inl ⟨(hd 4 (by kernel_rfl) 32 (by kernel_rfl)).1, ?_⟩
          clear hd hs
          rw [BigFrame.run_move (.tmp 5) rfl]
          exact ⟨s5, hB, hrefl w⟩
        refine And.intro ?_ ?_
        · intro V ρ w hB hc hf hd hs
          have s7 : ρ (.tmp 7) = .int .i64 d.1 := hs 7 (by kernel_rfl)
          refine Or.inl ⟨(hd 4 (by kernel_rfl) 32 (by kernel_rfl)).1, ?_⟩
          clear hd hs
          rw [BigFrame.run_move (.tmp 7) rfl]
          exact ⟨s7, hB, hrefl w⟩
        refine And.intro ?_ ?_
        · intro V ρ w hB hc hf hd hs
          have s33 : ρ (.tmp 33) = .int .i64 d.1 := (hd 5 (by kernel_rfl) 33 (by kernel_rfl)).2.trans (hd 5 (by kernel_rfl) 33 (by kernel_rfl)).1
          have s34 : ρ (.tmp 34) = .int .i64 d.1 := (hd 6 (by kernel_rfl) 34 (by kernel_rfl)).2.trans (hd 6 (by kernel_rfl) 34 (by kernel_rfl)).1
          refine Or.inl ⟨(hd 4 (by kernel_rfl) 32 (by kernel_rfl)).1, ?_⟩
          clear hd hs
          refine outcome_value (v := .bool true) ?_ ⟨rfl, hB, hrefl w⟩
          simp [go_sem, s33, s34]
        refine And.intro ?_ ?_
        · intro V ρ w hB hc hf hd hs
          have s32 : ρ (.tmp 32) = .bool true := (hd 4 (by kernel_rfl) 32 (by kernel_rfl)).2.trans (hd 4 (by kernel_rfl) 32 (by kernel_rfl)).1
          have s35 : ρ (.tmp 35) = .bool true := (hd 7 (by kernel_rfl) 35 (by kernel_rfl)).2.trans (hd 7 (by kernel_rfl) 35 (by kernel_rfl)).1
          clear hd hs
          refine outcome_value (v := .bool true) ?_ ⟨rfl, hB, hrefl w⟩
          simp [go_sem, hc, s32, s35]
        refine And.intro ?_ ?_
        · intro V ρ w hB hc hf hd hs
          have s36 : ρ (.tmp 36) = .bool true := (hd 8 (by kernel_rfl) 36 (by kernel_rfl)).2.trans (hd 8 (by kernel_rfl) 36 (by kernel_rfl)).1
          clear hd hs
          rw [BigFrame.run_assign (.tmp 36) rfl]
          exact ⟨s36, hB, hrefl w⟩
        exact trivial
    case hend =>
      intro V w6 hB6 hV
      have v9 : V 9 = .bool true := hV 9 (by decide)
      have LS6 := hid (LS5.out.quiet hB6)
      simp only [lexF, Act.put, List.setIfInBounds_toArray, List.set_cons_zero, List.set_cons_succ, v9]
      clear hV hB6 v9 LS5 C2 C4 R4 R6 hrefl
      obtain ⟨pc, cc, rfl, _⟩ := ownsRow_form LS6.out.rows
      obtain ⟨n, hn⟩ : ∃ n, n = ts.length := ⟨_, rfl⟩
      have HN := hid hn
      rw [← hn] at LS6
      have hn1000 : n ≤ 1000 := by rw [hn]; have h := HTL.out; omega
      clear hn
      go_upto_region 8 with fail
      go_loopg [9] n (fun g v9 wr => ∃ i : Nat, v9 = .int .i64 i ∧ g = n - i ∧ i ≤ n ∧ Hid (LS w1 b4 d.2 (.slice pc n cc) ts wr))
      case atStart => exact ⟨0, rfl, rfl, Nat.zero_le _, LS6⟩
      case round =>
        obtain ⟨i, rfl, hg, hi, DD⟩ := hrel
        have c68 : wr.cell? ⟨b4, 68, none⟩ = some (.slice pc n cc) := DD.out.f4.cell (j := 68) (by decide)
        by_cases hlt : i < n
        · have hlti : (i : Int) < (n : Int) := by omega
          have hit : i < ts.length := by have := HN.out; omega
          obtain ⟨g9, cap9, e, hle, crow⟩ := DD.out.row hit
          rw [← HN.out] at e hle
          cases e
          obtain ⟨t, ht⟩ : ∃ t, t = ts[i] := ⟨_, rfl⟩
          have htm := hid (show t ∈ ts by rw [ht]; exact List.getElem_mem _)
          have HTI := hid ht
          rw [← ht] at crow
          obtain ⟨ys, hy, Oy⟩ := DD.out.bys t htm.out
          obtain ⟨pb, cb, hvb⟩ := Oy.slice
          obtain ⟨m, hm⟩ : ∃ m, m = t.2.1.length := ⟨_, rfl⟩
          rw [hy, ← hm] at hvb
          have HM := hid hm
          have HVB := hid hvb
          clear ht hy Oy hm hvb crow
          go_upto_region 11 with fail
          go_loopg [10] m (fun g v10 wr' => ∃ k : Nat, v10 = .int .i64 k ∧ g = m - k ∧ k ≤ m ∧ Hid (LS w1 b4 d.2 (.slice (some ⟨g9, 0, none⟩) n cc) ts wr'))
          case atStart => exact ⟨0, rfl, rfl, Nat.zero_le _, DD⟩
          case round =>
            clear c68
            rename_i wr0 _
            obtain ⟨k, rfl, hg2, hk, D2⟩ := hrel
            have c68 : wr.cell? ⟨b4, 68, none⟩ = some (.slice (some ⟨g9, 0, none⟩) n cc) := D2.out.f4.cell (j := 68) (by decide)
            obtain ⟨g8, cap8, e8, hle8, crow⟩ := D2.out.row hit
            rw [← HN.out] at e8
            cases e8
            rw [← HTI.out, HVB.out] at crow
            by_cases hkm : k < m
            · have hkmi : (k : Int) < (m : Int) := by omega
              obtain ⟨ys2, hy2, O2⟩ := D2.out.bys t htm.out
              rw [HVB.out] at O2
              rw [← HM.out] at hy2
              obtain ⟨g3, cap3, cur, y, e3, hge, B3, hle3, cb3⟩ := O2.byte (k := k) (by omega)
              rw [hy2] at e3 hle3
              cases e3
              have fr := B3.frozen k
              have LP := hid (show LS w1 b4 d.2 (.slice (some ⟨g9, 0, none⟩) n cc) ts (_ : World) from D2.out.put (k := k) 13 B3 hge)
              have hmx : m ≤ 9223372036854775807 := by
                obtain ⟨p', c', _, hq⟩ := O2.bytes
                obtain ⟨_, _, _, _, h1, h2, _⟩ := hq (by omega)
                unfold maxLen at h2; omega
              have hk1 : k + 1 ≤ m := by omega
              have HK1 := hid hk1
              have HI1 := hid (show i < n by omega)
              clear O2 B3 hge hy2
              go_wp2
              go_roundg (m - (k + 1))
              case measure => omega
              case rel => exact ⟨k + 1, by go_num, rfl, HK1.out, LP⟩
            · have hkmi : ¬ (k : Int) < (m : Int) := by omega
              go_wp2
              go_roundg (n - (i + 1))
              case measure => omega
              case rel => exact ⟨i + 1, by go_num, rfl, by omega, D2⟩
        · have hlti : ¬ (i : Int) < (n : Int) := by omega
          have BA := hid (P1.out.bytes.below DD.out.below)
          have BO := hid (HB.out.below (L1.out.trans (DD.out.below.mono L1.out.size)))
          go_wp2_with (go_at_call 8; ((with_reducible refine (alive_c _).mono ?_); rintro e w9 ⟨rfl, hb9⟩); have cv1 := conv_str' (BA.out.below hb9); have cv2 := conv_str' (BO.out.below hb9); have B9 := hid hb9; clear hb9)
          go_ret
          exact ⟨rfl, (L1.out.trans (DD.out.below.mono L1.out.size)).trans (B9.out.mono (Nat.le_trans L1.out.size DD.out.below.size))⟩
end Go.Proofs.Ytpbkdjnogjmfcaa

