/- The law's act: an answer or a frame that was sent comes. -/
import Derived.Test.YtkehejkjifgieaaEnL
import Derived.Test.YtkehejkjifgieaaOnceP
import Derived.Test.YtkehejkjifgieaaAliveW
namespace Go.Proofs.Ytkehejkjifgieaa
open Go.RowKit Go.ChangeMaps

set_option maxRecDepth 100000 in
set_option maxHeartbeats 4000000 in
theorem act3_w {w : World} {base x i : Nat} {e : ES} {wh : Int} {nw : Nat} {vB : Value} {xs : List W8} (h : EC w base x i e) (hX : Bytes w vB xs) (hlow : ∀ k, vB.ownBlock = some k → 0 < xs.length → k < base) (hi : i < 80) (hl : xs.length ≤ 700) :
    Calls Try.prog 16 #[.pointer (some ⟨x, 0, none⟩), .agg #[.int .i64 3, .int .i64 wh, .int .u64 (nw : Int), vB]] w fun r w' => ActP w base x i r w' := by
  obtain ⟨pB, cB, hv, hq⟩ := hX
  subst hv
  have HX := hid (show Bytes w (.slice pB xs.length cB) xs from ⟨pB, cB, rfl, hq⟩)
  have H := hid h
  have HL := hid hl
  have hbs := hid h.p.size
  obtain ⟨wA, hwA⟩ : ∃ wA, wA = w.alloc (.cells #[.int .i64 3, .int .i64 wh, .int .u64 (nw : Int), .slice pB xs.length cB] 52) := ⟨_, rfl⟩
  have BA := hid (show Below w.heap.size w wA by rw [hwA]; exact (Below.refl _ _).alloc (Nat.le_refl _) _)
  have KA := hid (show Blk wA w.heap.size #[.int .i64 3, .int .i64 wh, .int .u64 (nw : Int), .slice pB xs.length cB] 52 by rw [hwA]; exact Blk.new w _ _)
  obtain ⟨nb, hnb⟩ : ∃ nb, nb = xs.length := ⟨_, rfl⟩
  have HNB := hid hnb
  have HLOW := hid (show ∀ k, (Value.slice pB nb cB).ownBlock = some k → 0 < xs.length → k < base by rw [hnb]; exact hlow)
  rw [← hnb] at KA HX hwA ⊢
  clear hq h hlow hnb hl
  have c0 : wA.cell? ⟨w.heap.size, 0, none⟩ = some (.int .i64 3) := KA.out.cellv rfl
  have c1 : wA.cell? ⟨w.heap.size, 1, none⟩ = some (.int .i64 wh) := KA.out.cellv rfl
  have hla : w.heap.size < wA.heap.size := KA.out.lt
  have EA := hid (H.out.below BA.out)
  obtain ⟨pK, cK, hvK⟩ := EA.out.x.k.slice
  have cx : wA.cell? ⟨x, 24, none⟩ = some (.slice pK e.K.length cK) := by rw [← hvK]; exact EA.out.x.k24
  obtain ⟨nK, hnK⟩ : ∃ nK, nK = e.K.length := ⟨_, rfl⟩
  rw [← hnK] at cx
  have HNK := hid hnK
  have hxl : x < wA.heap.size := EA.out.x.fn.lt
  clear hnK
  go_enter Try.func16, Try.ntmps16
  go_upto_region 1 with fail
  rw [← hwA]
  clear hwA
  by_cases h0 : 0 ≤ wh
  · by_cases h1 : wh < (nK : Int)
    · obtain ⟨j, hj⟩ : ∃ j : Nat, wh = (j : Int) := ⟨wh.toNat, by omega⟩
      subst hj
      have hjl := hid (show j < e.K.length by have := HNK.out; omega)
      obtain ⟨gK, cK', eK, hcK, cellK⟩ := EA.out.x.k.cell hjl.out
      rw [hvK] at eK
      cases eK
      obtain ⟨d, hd0⟩ : ∃ d, d = e.K.getD j [] := ⟨_, rfl⟩
      rw [← hd0] at cellK
      have HD := hid (show d.length ≤ 5000 from H.out.i.kl d (by rw [hd0, List.getD_eq_getElem?_getD, List.getElem?_eq_getElem hjl.out]; exact List.getElem_mem _))
      have HVK := hid hvK
      have hgK := cell_lt cellK
      have CK := hid cellK
      have CX := hid cx
      have C1 := hid c1
      rw [← HNK.out] at hcK
      have hjn : j < nK := by omega
      clear hd0 hvK
      go_upto_region 23 with go_region
      have BD := hid (show Below w.heap.size w wA.drew from BA.out.drew)
      have KD := hid (show Blk wA.drew w.heap.size _ _ from KA.out)
      have ED := hid (H.out.below BD.out)
      have CKD := hid (show wA.drew.cell? ⟨gK, j, none⟩ = _ from CK.out)
      have CXD := hid (show wA.drew.cell? ⟨x, 24, none⟩ = _ from CX.out)
      have C1D := hid (show wA.drew.cell? ⟨w.heap.size, 1, none⟩ = _ from C1.out)
      obtain ⟨wD, hwD⟩ : ∃ wD, wD = wA.drew := ⟨_, rfl⟩
      rw [← hwD] at BD KD ED CKD CXD C1D
      rw [← hwD]
      clear c0 c1 cx hla hxl hgK cellK hwD BA KA EA CK CX C1
      have LM := lsP.mono (vals := [.pointer (some ⟨x, 0, none⟩), .pointer (some ⟨x, 0, none⟩), .pointer (some ⟨x, 0, none⟩), .pointer (some ⟨x, 24, none⟩), .slice (some ⟨gK, 0, none⟩) nK cK, .pointer (some ⟨w.heap.size, 1, none⟩), .int .i64 (j : Int), .pointer (some ⟨gK, j, none⟩), .string (str d)]) (q := 9) (Q := fun v W => Byf w W base v d) (fun v W W' h hb => h.below hb)
      refine region_inv (n := 174) (I := Ls [[], [], [1], [2], [3], [], [5], [4, 6], [7], [8], [0, 9]] wD 10 (lsP [.pointer (some ⟨x, 0, none⟩), .pointer (some ⟨x, 0, none⟩), .pointer (some ⟨x, 0, none⟩), .pointer (some ⟨x, 24, none⟩), .slice (some ⟨gK, 0, none⟩) nK cK, .pointer (some ⟨w.heap.size, 1, none⟩), .int .i64 (j : Int), .pointer (some ⟨gK, j, none⟩), .string (str d)] 9 (fun v W => Byf w W base v d)) (fun v W => v = .bool true ∧ (∃ e', EC W base x i e') ∧ Kp kinds7 base w W)) (by kernel_rfl) (by kernel_rfl) (by kernel_rfl) (by kernel_rfl) Ls.start ?hop ?hend
      case hop =>
        refine And.intro ?_ ?_
        · intro L V ρ w' hI hk hc hf hd hs
          have s0 : ρ (.tmp 0) = .pointer (some ⟨x, 0, none⟩) := hs 0 (by kernel_rfl)
          clear hd hs
          rw [BigFrame.run_move (.tmp 0) rfl]
          exact hI.val LM hk (by decide) (Below.refl _ _) (lsP.mk (by decide) s0) all0
        refine And.intro ?_ ?_
        · intro L V ρ w' hI hk hc hf hd hs
          have s0 : ρ (.tmp 0) = .pointer (some ⟨x, 0, none⟩) := hs 0 (by kernel_rfl)
          clear hd hs
          rw [BigFrame.run_move (.tmp 0) rfl]
          exact hI.val LM hk (by decide) (Below.refl _ _) (lsP.mk (by decide) s0) all0
        refine And.intro ?_ ?_
        · intro L V ρ w' hI hk hc hf hd hs
          have s116 : ρ (.tmp 116) = .pointer (some ⟨x, 0, none⟩) := ((hd 1 (by kernel_rfl)).2 116 (by kernel_rfl)).trans ((hI.at hk (by decide) (by decide) (hd 1 (by kernel_rfl)).1).fix (by decide))
          have hal := hid ((all1 (hd 1 (by kernel_rfl)).1) : ∀ i ∈ [1], L i = true)
          have hb5 := hI.below hk (by decide)
          clear hd hs
          exact outcome_value (v := .pointer (some ⟨x, 0, none⟩)) (by simp [go_sem, s116]) (hI.val LM hk (by decide) (Below.refl _ _) (lsP.mk (by decide) rfl) hal.out)
        refine And.intro ?_ ?_
        · intro L V ρ w' hI hk hc hf hd hs
          have s117 : ρ (.tmp 117) = .pointer (some ⟨x, 0, none⟩) := ((hd 2 (by kernel_rfl)).2 117 (by kernel_rfl)).trans ((hI.at hk (by decide) (by decide) (hd 2 (by kernel_rfl)).1).fix (by decide))
          have hal := hid ((all1 (hd 2 (by kernel_rfl)).1) : ∀ i ∈ [2], L i = true)
          have hb5 := hI.below hk (by decide)
          clear hd hs
          exact outcome_value (v := .pointer (some ⟨x, 24, none⟩)) (by simp [go_sem, s117]) (hI.val LM hk (by decide) (Below.refl _ _) (lsP.mk (by decide) rfl) hal.out)
        refine And.intro ?_ ?_
        · intro L V ρ w' hI hk hc hf hd hs
          have s118 : ρ (.tmp 118) = .pointer (some ⟨x, 24, none⟩) := ((hd 3 (by kernel_rfl)).2 118 (by kernel_rfl)).trans ((hI.at hk (by decide) (by decide) (hd 3 (by kernel_rfl)).1).fix (by decide))
          have hal := hid ((all1 (hd 3 (by kernel_rfl)).1) : ∀ i ∈ [3], L i = true)
          have hb5 := hI.below hk (by decide)
          have hcell : w'.cell? ⟨x, 24, none⟩ = some (.slice (some ⟨gK, 0, none⟩) nK cK) := (hb5.cell (Nat.lt_of_lt_of_le ED.out.x.fn.lt (Nat.le_refl _))).trans CXD.out
          clear hd hs
          exact outcome_value (v := .slice (some ⟨gK, 0, none⟩) nK cK) (by simp [go_sem, s118, hcell]) (hI.val LM hk (by decide) (Below.refl _ _) (lsP.mk (by decide) rfl) hal.out)
        refine And.intro ?_ ?_
        · intro L V ρ w' hI hk hc hf hd hs
          have s3 : ρ (.tmp 3) = .pointer (some ⟨w.heap.size, 0, none⟩) := hs 3 (by kernel_rfl)
          have hal := hid (all0 : ∀ i ∈ [], L i = true)
          have hb5 := hI.below hk (by decide)
          clear hd hs
          exact outcome_value (v := .pointer (some ⟨w.heap.size, 1, none⟩)) (by simp [go_sem, s3]) (hI.val LM hk (by decide) (Below.refl _ _) (lsP.mk (by decide) rfl) hal.out)
        refine And.intro ?_ ?_
        · intro L V ρ w' hI hk hc hf hd hs
          have s120 : ρ (.tmp 120) = .pointer (some ⟨w.heap.size, 1, none⟩) := ((hd 5 (by kernel_rfl)).2 120 (by kernel_rfl)).trans ((hI.at hk (by decide) (by decide) (hd 5 (by kernel_rfl)).1).fix (by decide))
          have hal := hid ((all1 (hd 5 (by kernel_rfl)).1) : ∀ i ∈ [5], L i = true)
          have hb5 := hI.below hk (by decide)
          have hcell : w'.cell? ⟨w.heap.size, 1, none⟩ = some (.int .i64 (j : Int)) := (hb5.cell KD.out.lt).trans C1D.out
          clear hd hs
          exact outcome_value (v := .int .i64 (j : Int)) (by simp [go_sem, s120, hcell]) (hI.val LM hk (by decide) (Below.refl _ _) (lsP.mk (by decide) rfl) hal.out)
        refine And.intro ?_ ?_
        · intro L V ρ w' hI hk hc hf hd hs
          have s119 : ρ (.tmp 119) = .slice (some ⟨gK, 0, none⟩) nK cK := ((hd 4 (by kernel_rfl)).2 119 (by kernel_rfl)).trans ((hI.at hk (by decide) (by decide) (hd 4 (by kernel_rfl)).1).fix (by decide))
          have s121 : ρ (.tmp 121) = .int .i64 (j : Int) := ((hd 6 (by kernel_rfl)).2 121 (by kernel_rfl)).trans ((hI.at hk (by decide) (by decide) (hd 6 (by kernel_rfl)).1).fix (by decide))
          have hal := hid ((all2 (hd 4 (by kernel_rfl)).1 (hd 6 (by kernel_rfl)).1) : ∀ i ∈ [4, 6], L i = true)
          have hb5 := hI.below hk (by decide)
          clear hd hs
          exact outcome_value (v := .pointer (some ⟨gK, j, none⟩)) (by simp [go_sem, s119, s121, hjn]) (hI.val LM hk (by decide) (Below.refl _ _) (lsP.mk (by decide) rfl) hal.out)
        refine And.intro ?_ ?_
        · intro L V ρ w' hI hk hc hf hd hs
          have s122 : ρ (.tmp 122) = .pointer (some ⟨gK, j, none⟩) := ((hd 7 (by kernel_rfl)).2 122 (by kernel_rfl)).trans ((hI.at hk (by decide) (by decide) (hd 7 (by kernel_rfl)).1).fix (by decide))
          have hal := hid ((all1 (hd 7 (by kernel_rfl)).1) : ∀ i ∈ [7], L i = true)
          have hb5 := hI.below hk (by decide)
          have hcell : w'.cell? ⟨gK, j, none⟩ = some (.string (str d)) := (hb5.cell (cell_lt CKD.out)).trans CKD.out
          clear hd hs
          exact outcome_value (v := .string (str d)) (by simp [go_sem, s122, hcell]) (hI.val LM hk (by decide) (Below.refl _ _) (lsP.mk (by decide) rfl) hal.out)
        refine And.intro ?_ ?_
        · intro L V ρ w' hI hk hc hf hd hs
          have s123 : ρ (.tmp 123) = .string (str d) := ((hd 8 (by kernel_rfl)).2 123 (by kernel_rfl)).trans ((hI.at hk (by decide) (by decide) (hd 8 (by kernel_rfl)).1).fix (by decide))
          have hal := hid ((all1 (hd 8 (by kernel_rfl)).1) : ∀ i ∈ [8], L i = true)
          have hb5 := hI.below hk (by decide)
          clear hd hs
          refine outcome_value (run_conv2 rfl s123 (conv_bts w' (str d))) (hI.val LM hk (by decide) (bts_below w' (str d)) (lsP.one ⟨?_, fun k hk _ => Or.inr ?_⟩) hal.out)
          · have := bts_bytes w' (str d) (by rw [str_size]; have := HD.out; omega)
            rwa [unstr_str] at this
          · have e := Option.some.inj hk
            rw [← e]
            exact Nat.le_trans BD.out.size hb5.size
        refine And.intro ?_ ?_
        · intro L V ρ w' hI hk hc hf hd hs
          have s115 : ρ (.tmp 115) = .pointer (some ⟨x, 0, none⟩) := ((hd 0 (by kernel_rfl)).2 115 (by kernel_rfl)).trans ((hI.at hk (by decide) (by decide) (hd 0 (by kernel_rfl)).1).fix (by decide))
          have s124 : ρ (.tmp 124) = V 9 := (hd 9 (by kernel_rfl)).2 124 (by kernel_rfl)
          have hP : Byf w w' base (V 9) d := (hI.at hk (by decide) (by decide) (hd 9 (by kernel_rfl)).1).hit
          have hal := hid ((all2 (hd 0 (by kernel_rfl)).1 (hd 9 (by kernel_rfl)).1) : ∀ i ∈ [0, 9], L i = true)
          have hb5 := BD.out.trans ((hI.below hk (by decide)).mono BD.out.size)
          clear hd hs
          refine outcome_enter (w := w') (f := 33) (args := #[.pointer (some ⟨x, 0, none⟩), V 9]) (by simp [go_sem, hf, s115, s124]) ?_
          refine (hear_w H.out hb5 hP (by omega) HD.out).mono ?_
          rintro r1 w1 ⟨rfl, hE1, hK1⟩
          exact ⟨_, rfl, hI.call hk hal.out (by decide) ⟨rfl, hE1, (Kp.of_below hb5).trans hK1⟩⟩
        refine And.intro ?_ ?_
        · intro L V ρ w' hI hk hc hf hd hs
          have s125 : ρ (.tmp 125) = V 10 := (hd 10 (by kernel_rfl)).2 125 (by kernel_rfl)
          have h10 := (hd 10 (by kernel_rfl)).1
          clear hd hs
          rw [BigFrame.run_assign (.tmp 125) rfl]
          exact hI.last h10 s125
        exact trivial
      case hend =>
        intro L V w13 hL hI
        obtain ⟨⟨e1, e2, e3⟩, e4⟩ := hI.end (hL 10 (by decide)) (hL 11 (by decide))
        have E5 := hid (And.intro (e4.trans e1) (And.intro e2 e3))
        simp only [lexF, Act.put, List.setIfInBounds_toArray, List.set_cons_zero, List.set_cons_succ]
        clear hI hL e1 e2 e3 e4
        obtain ⟨v11, hv11⟩ : ∃ v, v = V 11 := ⟨_, rfl⟩
        have ev := hv11.trans E5.out.1
        rw [← hv11]
        clear hv11
        subst ev
        go_wp2
        go_ret
        obtain ⟨e', hE⟩ := E5.out.2.1
        exact ⟨rfl, ⟨e', hE.x, hE.p, hE.i.up (Nat.le_succ i)⟩, E5.out.2.2⟩
    · go_upto_region 31 with go_region
      go_wp2
      go_ret
      exact ActP.same H.out BA.out.drew
  · go_upto_region 31 with go_region
    go_wp2
    go_ret
    exact ActP.same H.out BA.out.drew
set_option maxRecDepth 100000 in
set_option maxHeartbeats 4000000 in
theorem act4_w {w : World} {base x i : Nat} {e : ES} {wh : Int} {nw : Nat} {vB : Value} {xs : List W8} (h : EC w base x i e) (hX : Bytes w vB xs) (hlow : ∀ k, vB.ownBlock = some k → 0 < xs.length → k < base) (hi : i < 80) (hl : xs.length ≤ 700) :
    Calls Try.prog 16 #[.pointer (some ⟨x, 0, none⟩), .agg #[.int .i64 4, .int .i64 wh, .int .u64 (nw : Int), vB]] w fun r w' => ActP w base x i r w' := by
  obtain ⟨pB, cB, hv, hq⟩ := hX
  subst hv
  have HX := hid (show Bytes w (.slice pB xs.length cB) xs from ⟨pB, cB, rfl, hq⟩)
  have H := hid h
  have HL := hid hl
  have hbs := hid h.p.size
  obtain ⟨wA, hwA⟩ : ∃ wA, wA = w.alloc (.cells #[.int .i64 4, .int .i64 wh, .int .u64 (nw : Int), .slice pB xs.length cB] 52) := ⟨_, rfl⟩
  have BA := hid (show Below w.heap.size w wA by rw [hwA]; exact (Below.refl _ _).alloc (Nat.le_refl _) _)
  have KA := hid (show Blk wA w.heap.size #[.int .i64 4, .int .i64 wh, .int .u64 (nw : Int), .slice pB xs.length cB] 52 by rw [hwA]; exact Blk.new w _ _)
  obtain ⟨nb, hnb⟩ : ∃ nb, nb = xs.length := ⟨_, rfl⟩
  have HNB := hid hnb
  have HLOW := hid (show ∀ k, (Value.slice pB nb cB).ownBlock = some k → 0 < xs.length → k < base by rw [hnb]; exact hlow)
  rw [← hnb] at KA HX hwA ⊢
  clear hq h hlow hnb hl
  have c0 : wA.cell? ⟨w.heap.size, 0, none⟩ = some (.int .i64 4) := KA.out.cellv rfl
  have c1 : wA.cell? ⟨w.heap.size, 1, none⟩ = some (.int .i64 wh) := KA.out.cellv rfl
  have hla : w.heap.size < wA.heap.size := KA.out.lt
  have EA := hid (H.out.below BA.out)
  obtain ⟨pK, cK, hvK⟩ := EA.out.x.d.slice
  have cx : wA.cell? ⟨x, 23, none⟩ = some (.slice pK e.D.length cK) := by rw [← hvK]; exact EA.out.x.d23
  obtain ⟨nK, hnK⟩ : ∃ nK, nK = e.D.length := ⟨_, rfl⟩
  rw [← hnK] at cx
  have HNK := hid hnK
  have hxl : x < wA.heap.size := EA.out.x.fn.lt
  clear hnK
  go_enter Try.func16, Try.ntmps16
  go_upto_region 1 with fail
  rw [← hwA]
  clear hwA
  by_cases h0 : 0 ≤ wh
  · by_cases h1 : wh < (nK : Int)
    · obtain ⟨j, hj⟩ : ∃ j : Nat, wh = (j : Int) := ⟨wh.toNat, by omega⟩
      subst hj
      have hjl := hid (show j < e.D.length by have := HNK.out; omega)
      obtain ⟨gK, cK', eK, hcK, cellK⟩ := EA.out.x.d.cell hjl.out
      rw [hvK] at eK
      cases eK
      obtain ⟨d, hd0⟩ : ∃ d, d = e.D.getD j [] := ⟨_, rfl⟩
      rw [← hd0] at cellK
      have HD := hid (show d.length ≤ 5000 from H.out.i.dl d (by rw [hd0, List.getD_eq_getElem?_getD, List.getElem?_eq_getElem hjl.out]; exact List.getElem_mem _))
      have HVK := hid hvK
      have hgK := cell_lt cellK
      have CK := hid cellK
      have CX := hid cx
      have C1 := hid c1
      rw [← HNK.out] at hcK
      have hjn : j < nK := by omega
      clear hd0 hvK
      go_upto_region 26 with go_region
      have BD := hid (show Below w.heap.size w wA.drew from BA.out.drew)
      have KD := hid (show Blk wA.drew w.heap.size _ _ from KA.out)
      have ED := hid (H.out.below BD.out)
      have CKD := hid (show wA.drew.cell? ⟨gK, j, none⟩ = _ from CK.out)
      have CXD := hid (show wA.drew.cell? ⟨x, 23, none⟩ = _ from CX.out)
      have C1D := hid (show wA.drew.cell? ⟨w.heap.size, 1, none⟩ = _ from C1.out)
      obtain ⟨wD, hwD⟩ : ∃ wD, wD = wA.drew := ⟨_, rfl⟩
      rw [← hwD] at BD KD ED CKD CXD C1D
      rw [← hwD]
      clear c0 c1 cx hla hxl hgK cellK hwD BA KA EA CK CX C1
      have LM := lsP.mono (vals := [.pointer (some ⟨x, 0, none⟩), .pointer (some ⟨x, 0, none⟩), .pointer (some ⟨x, 0, none⟩), .pointer (some ⟨x, 23, none⟩), .slice (some ⟨gK, 0, none⟩) nK cK, .pointer (some ⟨w.heap.size, 1, none⟩), .int .i64 (j : Int), .pointer (some ⟨gK, j, none⟩), .string (str d)]) (q := 9) (Q := fun v W => Byf w W base v d) (fun v W W' h hb => h.below hb)
      refine region_inv (n := 174) (I := Ls [[], [], [1], [2], [3], [], [5], [4, 6], [7], [8], [0, 9]] wD 10 (lsP [.pointer (some ⟨x, 0, none⟩), .pointer (some ⟨x, 0, none⟩), .pointer (some ⟨x, 0, none⟩), .pointer (some ⟨x, 23, none⟩), .slice (some ⟨gK, 0, none⟩) nK cK, .pointer (some ⟨w.heap.size, 1, none⟩), .int .i64 (j : Int), .pointer (some ⟨gK, j, none⟩), .string (str d)] 9 (fun v W => Byf w W base v d)) (fun v W => v = .bool true ∧ (∃ e', EC W base x (i + 1) e') ∧ Kp kinds7 base w W)) (by kernel_rfl) (by kernel_rfl) (by kernel_rfl) (by kernel_rfl) Ls.start ?hop ?hend
      case hop =>
        refine And.intro ?_ ?_
        · intro L V ρ w' hI hk hc hf hd hs
          have s0 : ρ (.tmp 0) = .pointer (some ⟨x, 0, none⟩) := hs 0 (by kernel_rfl)
          clear hd hs
          rw [BigFrame.run_move (.tmp 0) rfl]
          exact hI.val LM hk (by decide) (Below.refl _ _) (lsP.mk (by decide) s0) all0
        refine And.intro ?_ ?_
        · intro L V ρ w' hI hk hc hf hd hs
          have s0 : ρ (.tmp 0) = .pointer (some ⟨x, 0, none⟩) := hs 0 (by kernel_rfl)
          clear hd hs
          rw [BigFrame.run_move (.tmp 0) rfl]
          exact hI.val LM hk (by decide) (Below.refl _ _) (lsP.mk (by decide) s0) all0
        refine And.intro ?_ ?_
        · intro L V ρ w' hI hk hc hf hd hs
          have s142 : ρ (.tmp 142) = .pointer (some ⟨x, 0, none⟩) := ((hd 1 (by kernel_rfl)).2 142 (by kernel_rfl)).trans ((hI.at hk (by decide) (by decide) (hd 1 (by kernel_rfl)).1).fix (by decide))
          have hal := hid ((all1 (hd 1 (by kernel_rfl)).1) : ∀ i ∈ [1], L i = true)
          have hb5 := hI.below hk (by decide)
          clear hd hs
          exact outcome_value (v := .pointer (some ⟨x, 0, none⟩)) (by simp [go_sem, s142]) (hI.val LM hk (by decide) (Below.refl _ _) (lsP.mk (by decide) rfl) hal.out)
        refine And.intro ?_ ?_
        · intro L V ρ w' hI hk hc hf hd hs
          have s143 : ρ (.tmp 143) = .pointer (some ⟨x, 0, none⟩) := ((hd 2 (by kernel_rfl)).2 143 (by kernel_rfl)).trans ((hI.at hk (by decide) (by decide) (hd 2 (by kernel_rfl)).1).fix (by decide))
          have hal := hid ((all1 (hd 2 (by kernel_rfl)).1) : ∀ i ∈ [2], L i = true)
          have hb5 := hI.below hk (by decide)
          clear hd hs
          exact outcome_value (v := .pointer (some ⟨x, 23, none⟩)) (by simp [go_sem, s143]) (hI.val LM hk (by decide) (Below.refl _ _) (lsP.mk (by decide) rfl) hal.out)
        refine And.intro ?_ ?_
        · intro L V ρ w' hI hk hc hf hd hs
          have s144 : ρ (.tmp 144) = .pointer (some ⟨x, 23, none⟩) := ((hd 3 (by kernel_rfl)).2 144 (by kernel_rfl)).trans ((hI.at hk (by decide) (by decide) (hd 3 (by kernel_rfl)).1).fix (by decide))
          have hal := hid ((all1 (hd 3 (by kernel_rfl)).1) : ∀ i ∈ [3], L i = true)
          have hb5 := hI.below hk (by decide)
          have hcell : w'.cell? ⟨x, 23, none⟩ = some (.slice (some ⟨gK, 0, none⟩) nK cK) := (hb5.cell (Nat.lt_of_lt_of_le ED.out.x.fn.lt (Nat.le_refl _))).trans CXD.out
          clear hd hs
          exact outcome_value (v := .slice (some ⟨gK, 0, none⟩) nK cK) (by simp [go_sem, s144, hcell]) (hI.val LM hk (by decide) (Below.refl _ _) (lsP.mk (by decide) rfl) hal.out)
        refine And.intro ?_ ?_
        · intro L V ρ w' hI hk hc hf hd hs
          have s3 : ρ (.tmp 3) = .pointer (some ⟨w.heap.size, 0, none⟩) := hs 3 (by kernel_rfl)
          have hal := hid (all0 : ∀ i ∈ [], L i = true)
          have hb5 := hI.below hk (by decide)
          clear hd hs
          exact outcome_value (v := .pointer (some ⟨w.heap.size, 1, none⟩)) (by simp [go_sem, s3]) (hI.val LM hk (by decide) (Below.refl _ _) (lsP.mk (by decide) rfl) hal.out)
        refine And.intro ?_ ?_
        · intro L V ρ w' hI hk hc hf hd hs
          have s146 : ρ (.tmp 146) = .pointer (some ⟨w.heap.size, 1, none⟩) := ((hd 5 (by kernel_rfl)).2 146 (by kernel_rfl)).trans ((hI.at hk (by decide) (by decide) (hd 5 (by kernel_rfl)).1).fix (by decide))
          have hal := hid ((all1 (hd 5 (by kernel_rfl)).1) : ∀ i ∈ [5], L i = true)
          have hb5 := hI.below hk (by decide)
          have hcell : w'.cell? ⟨w.heap.size, 1, none⟩ = some (.int .i64 (j : Int)) := (hb5.cell KD.out.lt).trans C1D.out
          clear hd hs
          exact outcome_value (v := .int .i64 (j : Int)) (by simp [go_sem, s146, hcell]) (hI.val LM hk (by decide) (Below.refl _ _) (lsP.mk (by decide) rfl) hal.out)
        refine And.intro ?_ ?_
        · intro L V ρ w' hI hk hc hf hd hs
          have s145 : ρ (.tmp 145) = .slice (some ⟨gK, 0, none⟩) nK cK := ((hd 4 (by kernel_rfl)).2 145 (by kernel_rfl)).trans ((hI.at hk (by decide) (by decide) (hd 4 (by kernel_rfl)).1).fix (by decide))
          have s147 : ρ (.tmp 147) = .int .i64 (j : Int) := ((hd 6 (by kernel_rfl)).2 147 (by kernel_rfl)).trans ((hI.at hk (by decide) (by decide) (hd 6 (by kernel_rfl)).1).fix (by decide))
          have hal := hid ((all2 (hd 4 (by kernel_rfl)).1 (hd 6 (by kernel_rfl)).1) : ∀ i ∈ [4, 6], L i = true)
          have hb5 := hI.below hk (by decide)
          clear hd hs
          exact outcome_value (v := .pointer (some ⟨gK, j, none⟩)) (by simp [go_sem, s145, s147, hjn]) (hI.val LM hk (by decide) (Below.refl _ _) (lsP.mk (by decide) rfl) hal.out)
        refine And.intro ?_ ?_
        · intro L V ρ w' hI hk hc hf hd hs
          have s148 : ρ (.tmp 148) = .pointer (some ⟨gK, j, none⟩) := ((hd 7 (by kernel_rfl)).2 148 (by kernel_rfl)).trans ((hI.at hk (by decide) (by decide) (hd 7 (by kernel_rfl)).1).fix (by decide))
          have hal := hid ((all1 (hd 7 (by kernel_rfl)).1) : ∀ i ∈ [7], L i = true)
          have hb5 := hI.below hk (by decide)
          have hcell : w'.cell? ⟨gK, j, none⟩ = some (.string (str d)) := (hb5.cell (cell_lt CKD.out)).trans CKD.out
          clear hd hs
          exact outcome_value (v := .string (str d)) (by simp [go_sem, s148, hcell]) (hI.val LM hk (by decide) (Below.refl _ _) (lsP.mk (by decide) rfl) hal.out)
        refine And.intro ?_ ?_
        · intro L V ρ w' hI hk hc hf hd hs
          have s149 : ρ (.tmp 149) = .string (str d) := ((hd 8 (by kernel_rfl)).2 149 (by kernel_rfl)).trans ((hI.at hk (by decide) (by decide) (hd 8 (by kernel_rfl)).1).fix (by decide))
          have hal := hid ((all1 (hd 8 (by kernel_rfl)).1) : ∀ i ∈ [8], L i = true)
          have hb5 := hI.below hk (by decide)
          clear hd hs
          refine outcome_value (run_conv2 rfl s149 (conv_bts w' (str d))) (hI.val LM hk (by decide) (bts_below w' (str d)) (lsP.one ⟨?_, fun k hk _ => Or.inr ?_⟩) hal.out)
          · have := bts_bytes w' (str d) (by rw [str_size]; have := HD.out; omega)
            rwa [unstr_str] at this
          · have e := Option.some.inj hk
            rw [← e]
            exact Nat.le_trans BD.out.size hb5.size
        refine And.intro ?_ ?_
        · intro L V ρ w' hI hk hc hf hd hs
          have s141 : ρ (.tmp 141) = .pointer (some ⟨x, 0, none⟩) := ((hd 0 (by kernel_rfl)).2 141 (by kernel_rfl)).trans ((hI.at hk (by decide) (by decide) (hd 0 (by kernel_rfl)).1).fix (by decide))
          have s150 : ρ (.tmp 150) = V 9 := (hd 9 (by kernel_rfl)).2 150 (by kernel_rfl)
          have hP : Byf w w' base (V 9) d := (hI.at hk (by decide) (by decide) (hd 9 (by kernel_rfl)).1).hit
          have hal := hid ((all2 (hd 0 (by kernel_rfl)).1 (hd 9 (by kernel_rfl)).1) : ∀ i ∈ [0, 9], L i = true)
          have hb5 := BD.out.trans ((hI.below hk (by decide)).mono BD.out.size)
          clear hd hs
          refine outcome_enter (w := w') (f := 34) (args := #[.pointer (some ⟨x, 0, none⟩), V 9]) (by simp [go_sem, hf, s141, s150]) ?_
          refine (take_w H.out hb5 hP (by omega) HD.out).mono ?_
          rintro r1 w1 ⟨rfl, hE1, hK1⟩
          exact ⟨_, rfl, hI.call hk hal.out (by decide) ⟨rfl, hE1, (Kp.of_below hb5).trans hK1⟩⟩
        refine And.intro ?_ ?_
        · intro L V ρ w' hI hk hc hf hd hs
          have s151 : ρ (.tmp 151) = V 10 := (hd 10 (by kernel_rfl)).2 151 (by kernel_rfl)
          have h10 := (hd 10 (by kernel_rfl)).1
          clear hd hs
          rw [BigFrame.run_assign (.tmp 151) rfl]
          exact hI.last h10 s151
        exact trivial
      case hend =>
        intro L V w13 hL hI
        obtain ⟨⟨e1, e2, e3⟩, e4⟩ := hI.end (hL 10 (by decide)) (hL 11 (by decide))
        have E5 := hid (And.intro (e4.trans e1) (And.intro e2 e3))
        simp only [lexF, Act.put, List.setIfInBounds_toArray, List.set_cons_zero, List.set_cons_succ]
        clear hI hL e1 e2 e3 e4
        obtain ⟨v11, hv11⟩ : ∃ v, v = V 11 := ⟨_, rfl⟩
        have ev := hv11.trans E5.out.1
        rw [← hv11]
        clear hv11
        subst ev
        go_wp2
        go_ret
        exact ⟨rfl, E5.out.2.1, E5.out.2.2⟩
    · go_upto_region 31 with go_region
      go_wp2
      go_ret
      exact ActP.same H.out BA.out.drew
  · go_upto_region 31 with go_region
    go_wp2
    go_ret
    exact ActP.same H.out BA.out.drew
end Go.Proofs.Ytkehejkjifgieaa

/- The law's act: what is sent. -/
namespace Go.Proofs.Ytkehejkjifgieaa
open Go.RowKit Go.ChangeMaps

set_option maxRecDepth 100000 in
set_option maxHeartbeats 4000000 in
theorem act2_w {w : World} {base x i : Nat} {e : ES} {wh : Int} {nw : Nat} {vB : Value} {xs : List W8} (h : EC w base x i e) (hX : Bytes w vB xs) (hlow : ∀ k, vB.ownBlock = some k → 0 < xs.length → k < base) (hi : i < 80) (hl : xs.length ≤ 700) (hnw : nw < 18446744073709551616) :
    Calls Try.prog 16 #[.pointer (some ⟨x, 0, none⟩), .agg #[.int .i64 2, .int .i64 wh, .int .u64 (nw : Int), vB]] w fun r w' => ActP w base x i r w' := by
  obtain ⟨pB, cB, hv, hq⟩ := hX
  subst hv
  have HX := hid (show Bytes w (.slice pB xs.length cB) xs from ⟨pB, cB, rfl, hq⟩)
  have H := hid h
  have HL := hid hl
  have hbs := hid h.p.size
  obtain ⟨wA, hwA⟩ : ∃ wA, wA = w.alloc (.cells #[.int .i64 2, .int .i64 wh, .int .u64 (nw : Int), .slice pB xs.length cB] 52) := ⟨_, rfl⟩
  have BA := hid (show Below w.heap.size w wA by rw [hwA]; exact (Below.refl _ _).alloc (Nat.le_refl _) _)
  have KA := hid (show Blk wA w.heap.size #[.int .i64 2, .int .i64 wh, .int .u64 (nw : Int), .slice pB xs.length cB] 52 by rw [hwA]; exact Blk.new w _ _)
  obtain ⟨nb, hnb⟩ : ∃ nb, nb = xs.length := ⟨_, rfl⟩
  have HNB := hid hnb
  have HLOW := hid (show ∀ k, (Value.slice pB nb cB).ownBlock = some k → 0 < xs.length → k < base by rw [hnb]; exact hlow)
  rw [← hnb] at KA HX hwA ⊢
  clear hq h hlow hnb hl
  have c0 : wA.cell? ⟨w.heap.size, 0, none⟩ = some (.int .i64 2) := KA.out.cellv rfl
  have hla : w.heap.size < wA.heap.size := KA.out.lt
  have EA := hid (H.out.below BA.out)
  have HW := hid hnw
  have hz : ∀ W : World, (zeroValue 44).run Try.prog W = .ok (.agg #[.slice none 0 0, .int .i64 0, .slice none 0 0, .slice none 0 0]) W := fun _ => rfl
  go_enter Try.func16, Try.ntmps16
  go_upto_region 1 with fail
  rw [← hwA]
  clear hwA
  go_upto_region 13 with fail
  clear c0 hla hnw
  have LM := lsP.mono (vals := [.pointer (some ⟨x, 0, none⟩), .pointer (some ⟨x, 0, none⟩), .pointer (some ⟨x, 0, none⟩), .pointer (some ⟨e.s, 0, none⟩), .pointer (some ⟨w.heap.size, 2, none⟩), .int .u64 (nw : Int)]) (q := 99) (Q := fun _ _ => True) (fun _ _ _ _ _ => trivial)
  refine region_inv (n := 174) (I := Ls [[], [0], [1], [2], [], [4], [3, 5]] wA 6 (lsP [.pointer (some ⟨x, 0, none⟩), .pointer (some ⟨x, 0, none⟩), .pointer (some ⟨x, 0, none⟩), .pointer (some ⟨e.s, 0, none⟩), .pointer (some ⟨w.heap.size, 2, none⟩), .int .u64 (nw : Int)] 99 (fun _ _ => True)) (fun v W => ∃ (bu : Option Addr × Nat) (us : List (Value × List W8)), v = .slice bu.1 us.length bu.2 ∧ (∃ b', Us W b' v us) ∧ us.map (·.2) = (outL nw e.b ((e.L.drop e.b).take 8) 0 e.m).1 ∧ PR W base e.s e.t e.mb e.r e.mc (e.L.drop e.b) e.b (outL nw e.b ((e.L.drop e.b).take 8) 0 e.m).2 e.N e.Ar ∧ Kp kinds4 base wA W)) (by kernel_rfl) (by kernel_rfl) (by kernel_rfl) (by kernel_rfl) Ls.start ?hop ?hend
  case hop =>
    refine And.intro ?_ ?_
    · intro L V ρ w' hI hk hc hf hd hs
      have s0 : ρ (.tmp 0) = .pointer (some ⟨x, 0, none⟩) := hs 0 (by kernel_rfl)
      clear hd hs
      rw [BigFrame.run_move (.tmp 0) rfl]
      exact hI.val LM hk (by decide) (Below.refl _ _) (lsP.mk (by decide) s0) all0
    refine And.intro ?_ ?_
    · intro L V ρ w' hI hk hc hf hd hs
      have s56 : ρ (.tmp 56) = .pointer (some ⟨x, 0, none⟩) := ((hd 0 (by kernel_rfl)).2 56 (by kernel_rfl)).trans ((hI.at hk (by decide) (by decide) (hd 0 (by kernel_rfl)).1).fix (by decide))
      have hal := hid ((all1 (hd 0 (by kernel_rfl)).1) : ∀ i ∈ [0], L i = true)
      have hb5 := hI.below hk (by decide)
      clear hd hs
      exact outcome_value (v := .pointer (some ⟨x, 0, none⟩)) (by simp [go_sem, s56]) (hI.val LM hk (by decide) (Below.refl _ _) (lsP.mk (by decide) rfl) hal.out)
    refine And.intro ?_ ?_
    · intro L V ρ w' hI hk hc hf hd hs
      have s57 : ρ (.tmp 57) = .pointer (some ⟨x, 0, none⟩) := ((hd 1 (by kernel_rfl)).2 57 (by kernel_rfl)).trans ((hI.at hk (by decide) (by decide) (hd 1 (by kernel_rfl)).1).fix (by decide))
      have hal := hid ((all1 (hd 1 (by kernel_rfl)).1) : ∀ i ∈ [1], L i = true)
      have hb5 := hI.below hk (by decide)
      clear hd hs
      exact outcome_value (v := .pointer (some ⟨x, 0, none⟩)) (by simp [go_sem, s57]) (hI.val LM hk (by decide) (Below.refl _ _) (lsP.mk (by decide) rfl) hal.out)
    refine And.intro ?_ ?_
    · intro L V ρ w' hI hk hc hf hd hs
      have s58 : ρ (.tmp 58) = .pointer (some ⟨x, 0, none⟩) := ((hd 2 (by kernel_rfl)).2 58 (by kernel_rfl)).trans ((hI.at hk (by decide) (by decide) (hd 2 (by kernel_rfl)).1).fix (by decide))
      have hal := hid ((all1 (hd 2 (by kernel_rfl)).1) : ∀ i ∈ [2], L i = true)
      have hb5 := hI.below hk (by decide)
      have hcell : w'.cell? ⟨x, 0, none⟩ = some (.pointer (some ⟨e.s, 0, none⟩)) := (EA.out.x.below hb5).s0
      clear hd hs
      exact outcome_value (v := .pointer (some ⟨e.s, 0, none⟩)) (by simp [go_sem, s58, hcell]) (hI.val LM hk (by decide) (Below.refl _ _) (lsP.mk (by decide) rfl) hal.out)
    refine And.intro ?_ ?_
    · intro L V ρ w' hI hk hc hf hd hs
      have s3 : ρ (.tmp 3) = .pointer (some ⟨w.heap.size, 0, none⟩) := hs 3 (by kernel_rfl)
      have hal := hid (all0 : ∀ i ∈ [], L i = true)
      have hb5 := hI.below hk (by decide)
      clear hd hs
      exact outcome_value (v := .pointer (some ⟨w.heap.size, 2, none⟩)) (by simp [go_sem, s3]) (hI.val LM hk (by decide) (Below.refl _ _) (lsP.mk (by decide) rfl) hal.out)
    refine And.intro ?_ ?_
    · intro L V ρ w' hI hk hc hf hd hs
      have s60 : ρ (.tmp 60) = .pointer (some ⟨w.heap.size, 2, none⟩) := ((hd 4 (by kernel_rfl)).2 60 (by kernel_rfl)).trans ((hI.at hk (by decide) (by decide) (hd 4 (by kernel_rfl)).1).fix (by decide))
      have hal := hid ((all1 (hd 4 (by kernel_rfl)).1) : ∀ i ∈ [4], L i = true)
      have hb5 := hI.below hk (by decide)
      have hcell : w'.cell? ⟨w.heap.size, 2, none⟩ = some (.int .u64 (nw : Int)) := (KA.out.below hb5).cellv rfl
      clear hd hs
      exact outcome_value (v := .int .u64 (nw : Int)) (by simp [go_sem, s60, hcell]) (hI.val LM hk (by decide) (Below.refl _ _) (lsP.mk (by decide) rfl) hal.out)
    refine And.intro ?_ ?_
    · intro L V ρ w' hI hk hc hf hd hs
      have s59 : ρ (.tmp 59) = .pointer (some ⟨e.s, 0, none⟩) := ((hd 3 (by kernel_rfl)).2 59 (by kernel_rfl)).trans ((hI.at hk (by decide) (by decide) (hd 3 (by kernel_rfl)).1).fix (by decide))
      have s61 : ρ (.tmp 61) = .int .u64 (nw : Int) := ((hd 5 (by kernel_rfl)).2 61 (by kernel_rfl)).trans ((hI.at hk (by decide) (by decide) (hd 5 (by kernel_rfl)).1).fix (by decide))
      have hal := hid ((all2 (hd 3 (by kernel_rfl)).1 (hd 5 (by kernel_rfl)).1) : ∀ i ∈ [3, 5], L i = true)
      have hb5 := hI.below hk (by decide)
      clear hd hs
      refine outcome_enter (w := w') (f := 10) (args := #[.pointer (some ⟨e.s, 0, none⟩), .int .u64 (nw : Int)]) (by simp [go_sem, hf, s59, s61]) ?_
      refine (out_p (EA.out.p.below hb5) nw HW.out).mono ?_
      rintro r1 w1 ⟨v, us, rfl, hU, hm, hP, hK⟩
      obtain ⟨pu, cu, hv⟩ := hU.1.slice
      rw [List.length_map] at hv
      exact ⟨_, rfl, hI.call hk hal.out (by decide) ⟨(pu, cu), us, hv, ⟨_, hU⟩, hm, hP, (Kp.of_below hb5).trans hK⟩⟩
    refine And.intro ?_ ?_
    · intro L V ρ w' hI hk hc hf hd hs
      have s62 : ρ (.tmp 62) = V 6 := (hd 6 (by kernel_rfl)).2 62 (by kernel_rfl)
      have h10 := (hd 6 (by kernel_rfl)).1
      clear hd hs
      rw [BigFrame.run_assign (.tmp 62) rfl]
      exact hI.last h10 s62
    exact trivial
  case hend =>
    intro L V w1 hL hI
    obtain ⟨⟨⟨pu, cu⟩, us, e1, ⟨bu, hU⟩, hm, hP, hK⟩, e4⟩ := hI.end (hL 6 (by decide)) (hL 7 (by decide))
    rw [e1] at hU
    have ev := hid (e4.trans e1)
    have U1 := hid hU; have M1 := hid hm; have P1 := hid hP; have K1 := hid hK
    simp only [lexF, Act.put, List.setIfInBounds_toArray, List.set_cons_zero, List.set_cons_succ]
    clear hI hL e1 e4 hU hm hP hK LM
    rw [ev.out]
    dsimp only at U1 ev
    clear ev
    have KAw := hid (K1.out.blk KA.out (by decide))
    have X1 := hid (EA.out.x.kp (kinds45 K1.out))
    have RF := hid (Ref.out (now := nw) 8 0 H.out.i.ref)
    rw [Nat.add_zero] at RF
    rw [← M1.out] at RF
    obtain ⟨r, hr⟩ : ∃ r, r = outR nw e.L 8 e.b e.H e.T := ⟨_, rfl⟩
    have HR := hid hr
    rw [← hr] at RF
    obtain ⟨F, H', T'⟩ := r
    dsimp only at RF
    obtain ⟨m', hm'⟩ : ∃ m', m' = (outL nw e.b ((e.L.drop e.b).take 8) 0 e.m).2 := ⟨_, rfl⟩
    rw [← hm'] at RF P1
    have HM := hid hm'
    clear hr hm'
    go_upto_region 14 with fail
    have HA : ∀ dw W W', Kp [44] 0 W W' → (fun (dw : Array Value) (W : World) => ∃ (vH vT : Value), dw = dsV e.vL vH vT e.b ∧ DS W base e.vL vH vT e.L H' T') dw W → (fun (dw : Array Value) (W : World) => ∃ (vH vT : Value), dw = dsV e.vL vH vT e.b ∧ DS W base e.vL vH vT e.L H' T') dw W' := fun dw W W' K ⟨vH, vT, h1, h2⟩ => ⟨vH, vT, h1, h2.kp K (by decide) (by decide) (by decide)⟩
    have HB : ∀ v W W', Kp [44] 0 W W' → (fun (v : Value) (W : World) => ∃ (bz : Option Addr × Nat) (zs : List (Value × List W8)), v = .slice bz.1 zs.length bz.2 ∧ (∃ b', Us W b' v zs) ∧ zs.map (·.2) = F) v W → (fun (v : Value) (W : World) => ∃ (bz : Option Addr × Nat) (zs : List (Value × List W8)), v = .slice bz.1 zs.length bz.2 ∧ (∃ b', Us W b' v zs) ∧ zs.map (·.2) = F) v W' := fun v W W' K ⟨bz, zs, h1, ⟨b', h2⟩, h3⟩ => ⟨bz, zs, h1, ⟨b', h2.kp K (by decide) (by decide)⟩, h3⟩
    have HD4 : ∀ dw W, (fun (dw : Array Value) (W : World) => ∃ (vH vT : Value), dw = dsV e.vL vH vT e.b ∧ DS W base e.vL vH vT e.L H' T') dw W → dw.size = 4 ∧ dw.all (·.oneCell') = true ∧ (Try.prog.info? 44).map (·.size) = some dw.size := fun dw W ⟨vH, vT, h1, h2⟩ => by
      subst h1
      exact ⟨h2.one.1, h2.one.2, info44 _ _ _ _⟩
    refine region_inv (n := 174) (I := Sto 44 w1 [.pointer (some ⟨x, 0, none⟩), .pointer (some ⟨x, 0, none⟩), .pointer (some ⟨x, 2, none⟩), .agg (dsV e.vL e.vH e.vT e.b), .pointer (some ⟨w.heap.size, 2, none⟩), .int .u64 (nw : Int)] (fun (dw : Array Value) (W : World) => ∃ (vH vT : Value), dw = dsV e.vL vH vT e.b ∧ DS W base e.vL vH vT e.L H' T') (fun (v : Value) (W : World) => ∃ (bz : Option Addr × Nat) (zs : List (Value × List W8)), v = .slice bz.1 zs.length bz.2 ∧ (∃ b', Us W b' v zs) ∧ zs.map (·.2) = F)) (by kernel_rfl) (by kernel_rfl) (by kernel_rfl) (by kernel_rfl) Sto.start ?hop ?hend
    case hop =>
      refine And.intro ?_ ?_
      · intro L V ρ w' hI hk hc hf hd hs
        have s0 : ρ (.tmp 0) = .pointer (some ⟨x, 0, none⟩) := hs 0 (by kernel_rfl)
        clear hd hs
        rw [BigFrame.run_move (.tmp 0) rfl]
        exact hI.val HA HB hk (by decide) (Below.refl _ _) (stoP.mk (by decide) s0)
      refine And.intro ?_ ?_
      · intro L V ρ w' hI hk hc hf hd hs
        have s64 : ρ (.tmp 64) = .pointer (some ⟨x, 0, none⟩) := ((hd 0 (by kernel_rfl)).2 64 (by kernel_rfl)).trans (hI.fix (by decide) (hd 0 (by kernel_rfl)).1)
        have hb5 := hI.1
        clear hd hs
        exact outcome_value (v := .pointer (some ⟨x, 0, none⟩)) (by simp [go_sem, s64]) (hI.val HA HB hk (by decide) (Below.refl _ _) (stoP.mk (by decide) rfl))
      refine And.intro ?_ ?_
      · intro L V ρ w' hI hk hc hf hd hs
        have s65 : ρ (.tmp 65) = .pointer (some ⟨x, 0, none⟩) := ((hd 1 (by kernel_rfl)).2 65 (by kernel_rfl)).trans (hI.fix (by decide) (hd 1 (by kernel_rfl)).1)
        have hb5 := hI.1
        clear hd hs
        exact outcome_value (v := .pointer (some ⟨x, 2, none⟩)) (by simp [go_sem, s65]) (hI.val HA HB hk (by decide) (Below.refl _ _) (stoP.mk (by decide) rfl))
      refine And.intro ?_ ?_
      · intro L V ρ w' hI hk hc hf hd hs
        have s66 : ρ (.tmp 66) = .pointer (some ⟨x, 2, none⟩) := ((hd 2 (by kernel_rfl)).2 66 (by kernel_rfl)).trans (hI.fix (by decide) (hd 2 (by kernel_rfl)).1)
        have hb5 := hI.1
        clear hd hs
        exact outcome_value (v := .agg (dsV e.vL e.vH e.vT e.b)) (run_load_in rfl s66 (X1.out.below hb5).rangeM Try.underlying44 rfl (info44 _ _ _ _)) (hI.val HA HB hk (by decide) (Below.refl _ _) (stoP.mk (by decide) rfl))
      refine And.intro ?_ ?_
      · intro L V ρ w' hI hk hc hf hd hs
        have s3 : ρ (.tmp 3) = .pointer (some ⟨w.heap.size, 0, none⟩) := hs 3 (by kernel_rfl)
        have hb5 := hI.1
        clear hd hs
        exact outcome_value (v := .pointer (some ⟨w.heap.size, 2, none⟩)) (by simp [go_sem, s3]) (hI.val HA HB hk (by decide) (Below.refl _ _) (stoP.mk (by decide) rfl))
      refine And.intro ?_ ?_
      · intro L V ρ w' hI hk hc hf hd hs
        have s68 : ρ (.tmp 68) = .pointer (some ⟨w.heap.size, 2, none⟩) := ((hd 4 (by kernel_rfl)).2 68 (by kernel_rfl)).trans (hI.fix (by decide) (hd 4 (by kernel_rfl)).1)
        have hb5 := hI.1
        have hcell : w'.cell? ⟨w.heap.size, 2, none⟩ = some (.int .u64 (nw : Int)) := (KAw.out.below hb5).cellv rfl
        clear hd hs
        exact outcome_value (v := .int .u64 (nw : Int)) (by simp [go_sem, s68, hcell]) (hI.val HA HB hk (by decide) (Below.refl _ _) (stoP.mk (by decide) rfl))
      refine And.intro ?_ ?_
      · intro L V ρ w' hI hk hc hf hd hs
        have s67 : ρ (.tmp 67) = .agg (dsV e.vL e.vH e.vT e.b) := ((hd 3 (by kernel_rfl)).2 67 (by kernel_rfl)).trans (hI.fix (by decide) (hd 3 (by kernel_rfl)).1)
        have s69 : ρ (.tmp 69) = .int .u64 (nw : Int) := ((hd 5 (by kernel_rfl)).2 69 (by kernel_rfl)).trans (hI.fix (by decide) (hd 5 (by kernel_rfl)).1)
        have hb5 := hI.1
        clear hd hs
        refine outcome_enter (w := w') (f := 31) (args := #[.agg (dsV e.vL e.vH e.vT e.b), .int .u64 (nw : Int)]) (by simp [go_sem, hf, s67, s69]) ?_
        have hX := X1.out.below hb5
        have hi8 := H.out.i
        refine (routm_c hX.ds (by have := hi8.nL; omega) hi8.ref.lh hi8.ref.lt hi8.l5 hi8.bb nw HW.out).mono ?_
        rw [← HR.out]
        rintro r1 W1 ⟨⟨vH', vT', v, zs, rfl, hU, hm, h1, h2⟩, hb1⟩
        have hbw : base ≤ w'.heap.size := Nat.le_trans (Nat.le_trans hbs.out BA.out.size) (Nat.le_trans K1.out.size hb5.size)
        obtain ⟨pz, cz, hv⟩ := hU.1.slice
        rw [List.length_map] at hv
        exact ⟨_, rfl, hI.val HA HB hk (by decide) hb1 ⟨_, v, rfl, ⟨vH', vT', rfl, ⟨hX.ds.l.below hb1, h1.low' hbw, h2.low' hbw⟩⟩, ⟨(pz, cz), zs, hv, ⟨_, hU⟩, hm⟩⟩⟩
      refine And.intro ?_ ?_
      · intro L V ρ w' hI hk hc hf hd hs
        have s70 : ρ (.tmp 70) = V 6 := (hd 6 (by kernel_rfl)).2 70 (by kernel_rfl)
        have h6 := (hd 6 (by kernel_rfl)).1
        clear hd hs
        rw [BigFrame.run_move (.tmp 70) rfl]
        exact hI.val HA HB hk (by decide) (Below.refl _ _) (by rw [s70]; exact hI.at h6)
      refine And.intro ?_ ?_
      · intro L V ρ w' hI hk hc hf hd hs
        obtain ⟨dw, v2, e, ha, hb⟩ : ∃ dw v2, V 7 = .tuple #[.agg dw, v2] ∧ (fun (dw : Array Value) (W : World) => ∃ (vH vT : Value), dw = dsV e.vL vH vT e.b ∧ DS W base e.vL vH vT e.L H' T') dw w' ∧ (fun (v : Value) (W : World) => ∃ (bz : Option Addr × Nat) (zs : List (Value × List W8)), v = .slice bz.1 zs.length bz.2 ∧ (∃ b', Us W b' v zs) ∧ zs.map (·.2) = F) v2 w' := hI.at (hd 7 (by kernel_rfl)).1
        have s63 : ρ (.tmp 63) = .tuple #[.agg dw, v2] := ((hd 7 (by kernel_rfl)).2 63 (by kernel_rfl)).trans e
        clear hd hs
        exact outcome_value (v := .agg dw) (by simp [go_sem, s63]) (hI.val HA HB hk (by decide) (Below.refl _ _) ⟨dw, rfl, ha⟩)
      refine And.intro ?_ ?_
      · intro L V ρ w' hI hk hc hf hd hs
        obtain ⟨dw, v2, e, ha, hb⟩ : ∃ dw v2, V 7 = .tuple #[.agg dw, v2] ∧ (fun (dw : Array Value) (W : World) => ∃ (vH vT : Value), dw = dsV e.vL vH vT e.b ∧ DS W base e.vL vH vT e.L H' T') dw w' ∧ (fun (v : Value) (W : World) => ∃ (bz : Option Addr × Nat) (zs : List (Value × List W8)), v = .slice bz.1 zs.length bz.2 ∧ (∃ b', Us W b' v zs) ∧ zs.map (·.2) = F) v2 w' := hI.at (hd 7 (by kernel_rfl)).1
        have s63 : ρ (.tmp 63) = .tuple #[.agg dw, v2] := ((hd 7 (by kernel_rfl)).2 63 (by kernel_rfl)).trans e
        clear hd hs
        exact outcome_value (v := v2) (by simp [go_sem, s63]) (hI.val HA HB hk (by decide) (Below.refl _ _) hb)
      refine And.intro ?_ ?_
      · intro L V ρ w' hI hk hc hf hd hs
        have hb5 := hI.1
        clear hd hs
        exact outcome_value (v := .pointer (some ⟨w'.heap.size, 0, none⟩)) (w := w'.alloc (.cells #[.slice none 0 0, .int .i64 0, .slice none 0 0, .slice none 0 0] 44)) (by simp [go_sem, hz]) (hI.val HA HB hk (by decide) ((Below.refl _ _).alloc (Nat.le_refl _) _) ⟨w'.heap.size, _, rfl, hb5.size, Blk.new w' _ _, rfl⟩)
      refine And.intro ?_ ?_
      · intro L V ρ w' hI hk hc hf hd hs
        have h8 := (hd 8 (by kernel_rfl)).1
        have h10 := (hd 10 (by kernel_rfl)).1
        obtain ⟨dw, e, ha⟩ : ∃ dw, V 8 = .agg dw ∧ (fun (dw : Array Value) (W : World) => ∃ (vH vT : Value), dw = dsV e.vL vH vT e.b ∧ DS W base e.vL vH vT e.L H' T') dw w' := hI.at h8
        obtain ⟨g, cs, e2, hg, hbk, hcs⟩ : ∃ g cs, V 10 = .pointer (some ⟨g, 0, none⟩) ∧ w1.heap.size ≤ g ∧ Blk w' g cs 44 ∧ cs.size = 4 := hI.at h10
        have s71 : ρ (.tmp 71) = .agg dw := ((hd 8 (by kernel_rfl)).2 71 (by kernel_rfl)).trans e
        have s11 : ρ (.tmp 11) = .pointer (some ⟨g, 0, none⟩) := ((hd 10 (by kernel_rfl)).2 11 (by kernel_rfl)).trans e2
        clear hd hs
        obtain ⟨d4, d1, d44⟩ := HD4 dw w' ha
        exact outcome_skip (run_store_blk rfl s11 s71 hbk d44 (hcs.trans d4.symm) d1) (hI.put HA HB h8 h10 e2 e hg hbk d4 _)
      refine And.intro ?_ ?_
      · intro L V ρ w' hI hk hc hf hd hs
        have s72 : ρ (.tmp 72) = V 9 := (hd 9 (by kernel_rfl)).2 72 (by kernel_rfl)
        have h9 := (hd 9 (by kernel_rfl)).1
        clear hd hs
        rw [BigFrame.run_assign (.tmp 72) rfl]
        exact hI.val HA HB hk (by decide) (Below.refl _ _) (by rw [s72]; exact hI.at h9)
      exact trivial
    case hend =>
      intro L V w2 hL hI
      obtain ⟨g, dw, e10, hbk, ⟨vH, vT, hdw, hds⟩, ⟨⟨pz, cz⟩, zs, e12, ⟨bz, hZ⟩, hzm⟩, hb2, hg⟩ := hI.end hL
      rw [e12] at hZ
      have DS2 := hid hds; have Z2 := hid hZ; have ZM := hid hzm; have B2 := hid hb2; have KG := hid hbk; have HDW := hid hdw
      have E10 := hid e10; have E12 := hid e12
      simp only [lexF, Act.put, List.setIfInBounds_toArray, List.set_cons_zero, List.set_cons_succ]
      clear hI hL e10 e12 hds hZ hzm hb2 hbk HA HB
      rw [E10.out, E12.out]
      dsimp only at Z2 E12
      clear E10 E12
      have X2 := hid (X1.out.below B2.out)
      have P2 := hid (P1.out.below B2.out)
      have U2 := hid (U1.out.below B2.out)
      obtain ⟨d4, d1, d44⟩ := HD4 dw w2 ⟨vH, vT, HDW.out, DS2.out⟩
      have D4 := hid d4; have D1 := hid d1; have D44 := hid d44
      clear d4 d1 d44 HD4 hdw
      have TH := hid (show w2.there x 2 dw.size from X2.out.there (by rw [D4.out]; decide))
      have MX := hid (Mod.cells w2 x 2 dw.toList)
      have hxl : x < w2.heap.size := X2.out.fn.lt
      go_upto_region 16 with (first
        | ((with_reducible refine at_op (.load 44 (.tmp 11)) rfl ?_); refine wpList_load_blk rfl 44 (.tmp 11) rfl g rfl (cs := dw) KG.out Try.underlying44 rfl D44.out ?_)
        | ((with_reducible refine at_op (.store 44 (.tmp 76) (.tmp 74)) rfl ?_); refine wpList_store_mid rfl 44 (.tmp 76) (.tmp 74) rfl x 2 dw rfl rfl TH.out D44.out D1.out ?_))
      obtain ⟨w3, hw3⟩ : ∃ w3, w3 = w2.setCells x 2 dw.toList := ⟨_, rfl⟩
      have C3 := hid (show EC w3 base x (i + 1) { e with vL := e.vL, vH := vH, vT := vT, b := e.b, L := e.L, H := H', T := T', m := m', Ar := e.Ar } from by
        have hX := (X2.out.setM DS2.out X2.out.dLD X2.out.dLK (b := e.b)).rest m' e.Ar
        have hP := X2.out.pr P2.out MX.out
        rw [← HDW.out, ← hw3] at hX
        rw [← hw3] at hP
        have hI := H.out.i
        exact ⟨hX, hP, ⟨RF.out.2, hI.rr, hI.bb, hI.l5, hI.dl, hI.kl, by have := hI.nL; show e.L.length ≤ _; omega, by have := hI.nN; show e.N ≤ _; omega, by have := hI.nD; show e.D.length ≤ _; omega, by have := hI.nK; show e.K.length ≤ _; omega⟩⟩)
      have KK := hid (show Kp kinds7 base w w3 from by rw [hw3]; exact ((((Kp.of_below BA.out).trans (kinds47 K1.out)).trans (Kp.of_below B2.out)).trans (X2.out.kpX MX.out)))
      have U3 := hid (show Ut w3 bu bu (.slice pu us.length cu) us from by rw [hw3]; exact ut_modX X2.out MX.out U2.out)
      have Z3 := hid (show Ut w3 bz bz (.slice pz zs.length cz) zs from by rw [hw3]; exact ut_modX X2.out MX.out Z2.out)
      obtain ⟨e2, he2⟩ : ∃ e2 : ES, e2 = { e with vL := e.vL, vH := vH, vT := vT, b := e.b, L := e.L, H := H', T := T', m := m', Ar := e.Ar } := ⟨_, rfl⟩
      have DD := hid (show e2.D.length ≤ 8 * i by rw [he2]; exact H.out.i.nD)
      rw [← he2] at C3
      have UL := hid (show us.length ≤ 8 ∧ ∀ y ∈ us.map (·.2), y.length ≤ 5000 from by
        constructor
        · have h1 := congrArg List.length M1.out
          have h2 := outL_len (now := nw) (b := e.b) ((e.L.drop e.b).take 8) 0 e.m
          rw [List.length_map] at h1
          rw [List.length_take] at h2
          omega
        · intro y hy
          rw [M1.out] at hy
          obtain ⟨j, h1, h2⟩ := out_data _ _ _ y hy
          have h3 := dataB_length (e.b + 0 + j) (((e.L.drop e.b).take 8).getD j [])
          have h4 : (((e.L.drop e.b).take 8).getD j []).length ≤ 500 := by
            rw [List.getD_eq_getElem?_getD, List.getElem?_eq_getElem h1]
            exact H.out.i.l5 _ (List.mem_of_mem_drop (List.mem_of_mem_take (List.getElem_mem _)))
          rw [h2]
          omega)
      have EQ := hid (show us.map (·.2) = zs.map (·.2) by rw [RF.out.1, ZM.out])
      rw [← hw3]
      clear hw3 he2 hxl hg MX TH D4 D1 D44 U2 P2 X2 HDW KG B2 ZM Z2 DS2 HM RF HR P1 X1 KAw K1 M1 U1 HW EA HLOW HNB KA BA HX hbs HL H hz
      obtain ⟨q, hq⟩ : ∃ q, q = us.length := ⟨_, rfl⟩
      obtain ⟨nz, hnz⟩ : ∃ nz, nz = zs.length := ⟨_, rfl⟩
      have HQ := hid hq
      rw [← hq] at U3
      rw [← hnz] at Z3
      rw [← hq, ← hnz]
      clear hq hnz
      have hq8 : q ≤ 8 := by rw [HQ.out]; exact UL.out.1
      go_upto_region 17 with fail
      go_loopg [13] q (fun g v13 wr => ∃ (k : Nat) (e' : ES), v13 = .int .i64 k ∧ g = q - k ∧ k ≤ q ∧ Hid (EC wr base x (i + 1) e') ∧ Hid (e'.D.length ≤ 8 * i + k) ∧ Hid (Ut wr bu bu (.slice pu q cu) us) ∧ Hid (Ut wr bz bz (.slice pz nz cz) zs) ∧ Hid (Kp kinds7 base w wr))
      case atStart => exact ⟨0, e2, rfl, rfl, Nat.zero_le _, C3, DD, U3, Z3, KK⟩
      case round =>
        obtain ⟨k, e', rfl, hg, hk, CR, DR, UR, ZR, KR⟩ := hrel
        clear C3 DD U3 Z3 KK
        by_cases hkq : k < q
        · have hki : (k : Int) < (q : Int) := by omega
          obtain ⟨gu, capu, py, cy, eu, hcu, hgl, cU, bU⟩ := UR.out.cell (i := k) (by rw [← HQ.out]; exact hkq)
          rw [← HQ.out] at eu hcu
          cases eu
          obtain ⟨y, hy⟩ : ∃ y, y = (us.map (·.2)).getD k [] := ⟨_, rfl⟩
          rw [← hy] at cU bU
          have HY := hid (show y.length ≤ 5000 from UL.out.2 y (by rw [hy, List.getD_eq_getElem?_getD, List.getElem?_eq_getElem (by rw [List.length_map, ← HQ.out]; exact hkq)]; exact List.getElem_mem _))
          obtain ⟨ny, hny⟩ : ∃ ny, ny = y.length := ⟨_, rfl⟩
          rw [← hny] at cU bU
          obtain ⟨csU, kU⟩ := UR.out.1.kind (k := gu) rfl
          have KU := hid kU; have CU := hid ((kU.cell k).symm.trans cU); have BU := hid bU; have HD1 := hid (show e'.D.length + 1 ≤ 8 * (i + 1) by have := DR.out; omega)
          have hkq' : k < q := hkq
          clear hy hny kU bU cU hgl
          go_upto_region 19 with fail
          refine region_inv (n := 174) (I := Apd [.pointer (some ⟨x, 0, none⟩), .pointer (some ⟨x, 0, none⟩), .pointer (some ⟨x, 0, none⟩), .pointer (some ⟨x, 23, none⟩), e'.vD, .slice (some ⟨gu, 0, none⟩) q cu, .int .i64 (k : Int), .pointer (some ⟨gu, k, none⟩), .slice py ny cy, undef, undef, undef, .pointer (some ⟨x, 0, none⟩), .pointer (some ⟨x, 23, none⟩), undef] 4 9 10 11 14 (fun W => Below wr.heap.size wr W) (PhA wr y) (PhB wr y) (PhC wr base e'.vD e'.D y) (PhD wr base e'.vD e'.D y x 23)) (by kernel_rfl) (by kernel_rfl) (by kernel_rfl) (by kernel_rfl) (Apd.start (Below.refl _ _).drew) ?hop ?hend
          case hop =>
            refine And.intro ?_ ?_
            · intro L V ρ w' hI hk hc hf hd hs
              have s0 : ρ (.tmp 0) = .pointer (some ⟨x, 0, none⟩) := hs 0 (by kernel_rfl)
              clear hd hs
              rw [BigFrame.run_move (.tmp 0) rfl]
              exact hI.val (by decide) (by decide) (by decide) (by decide) s0
            refine And.intro ?_ ?_
            · intro L V ρ w' hI hk hc hf hd hs
              have s0 : ρ (.tmp 0) = .pointer (some ⟨x, 0, none⟩) := hs 0 (by kernel_rfl)
              clear hd hs
              rw [BigFrame.run_move (.tmp 0) rfl]
              exact hI.val (by decide) (by decide) (by decide) (by decide) s0
            refine And.intro ?_ ?_
            · intro L V ρ w' hI hk hc hf hd hs
              have s84 : ρ (.tmp 84) = .pointer (some ⟨x, 0, none⟩) := ((hd 1 (by kernel_rfl)).2 84 (by kernel_rfl)).trans (hI.at (by decide) (by decide) (by decide) (by decide) (hd 1 (by kernel_rfl)).1)
              clear hd hs
              exact outcome_value (v := .pointer (some ⟨x, 0, none⟩)) (by simp [go_sem, s84]) (hI.val (by decide) (by decide) (by decide) (by decide) rfl)
            refine And.intro ?_ ?_
            · intro L V ρ w' hI hk hc hf hd hs
              have s85 : ρ (.tmp 85) = .pointer (some ⟨x, 0, none⟩) := ((hd 2 (by kernel_rfl)).2 85 (by kernel_rfl)).trans (hI.at (by decide) (by decide) (by decide) (by decide) (hd 2 (by kernel_rfl)).1)
              clear hd hs
              exact outcome_value (v := .pointer (some ⟨x, 23, none⟩)) (by simp [go_sem, s85]) (hI.val (by decide) (by decide) (by decide) (by decide) rfl)
            refine And.intro ?_ ?_
            · intro L V ρ w' hI hk hc hf hd hs
              have s86 : ρ (.tmp 86) = .pointer (some ⟨x, 23, none⟩) := ((hd 3 (by kernel_rfl)).2 86 (by kernel_rfl)).trans (hI.at (by decide) (by decide) (by decide) (by decide) (hd 3 (by kernel_rfl)).1)
              have hcell : w'.cell? ⟨x, 23, none⟩ = some e'.vD := hI.cell (C := fun W => W.cell? ⟨x, 23, none⟩ = some e'.vD) (fun W h => (CR.out.x.below h).d23) (fun v W h => (CR.out.x.below h.2).d23) (fun v W h => (CR.out.x.below h.2).d23) hk
              clear hd hs
              exact outcome_value (v := e'.vD) (by simp [go_sem, s86, hcell]) (hI.val (by decide) (by decide) (by decide) (by decide) rfl)
            refine And.intro ?_ ?_
            · intro L V ρ w' hI hk hc hf hd hs
              have s10 : ρ (.tmp 10) = .slice (some ⟨gu, 0, none⟩) q cu := hs 10 (by kernel_rfl)
              clear hd hs
              rw [BigFrame.run_move (.tmp 10) rfl]
              exact hI.val (by decide) (by decide) (by decide) (by decide) s10
            refine And.intro ?_ ?_
            · intro L V ρ w' hI hk hc hf hd hs
              have s13 : ρ (.tmp 13) = .int .i64 (k : Int) := hs 13 (by kernel_rfl)
              clear hd hs
              rw [BigFrame.run_move (.tmp 13) rfl]
              exact hI.val (by decide) (by decide) (by decide) (by decide) s13
            refine And.intro ?_ ?_
            · intro L V ρ w' hI hk hc hf hd hs
              have s88 : ρ (.tmp 88) = .slice (some ⟨gu, 0, none⟩) q cu := ((hd 5 (by kernel_rfl)).2 88 (by kernel_rfl)).trans (hI.at (by decide) (by decide) (by decide) (by decide) (hd 5 (by kernel_rfl)).1)
              have s89 : ρ (.tmp 89) = .int .i64 (k : Int) := ((hd 6 (by kernel_rfl)).2 89 (by kernel_rfl)).trans (hI.at (by decide) (by decide) (by decide) (by decide) (hd 6 (by kernel_rfl)).1)
              clear hd hs
              exact outcome_value (v := .pointer (some ⟨gu, k, none⟩)) (by simp [go_sem, s88, s89, hkq']) (hI.val (by decide) (by decide) (by decide) (by decide) rfl)
            refine And.intro ?_ ?_
            · intro L V ρ w' hI hk hc hf hd hs
              have s90 : ρ (.tmp 90) = .pointer (some ⟨gu, k, none⟩) := ((hd 7 (by kernel_rfl)).2 90 (by kernel_rfl)).trans (hI.at (by decide) (by decide) (by decide) (by decide) (hd 7 (by kernel_rfl)).1)
              have hblk : Blk w' gu csU 29 := hI.any (C := fun W => Blk W gu csU 29) (fun W h => KU.out.below h) (fun v W h => KU.out.below h.2) (fun v W h => KU.out.below h.2) (fun v W h => h.keep CR.out.x.d KU.out (by decide)) (fun W h => h.keep CR.out.x CR.out.x.d KU.out (by decide) (by decide))
              have hcell : w'.cell? ⟨gu, k, none⟩ = some (.slice py ny cy) := hblk.cellv CU.out
              clear hd hs
              exact outcome_value (v := .slice py ny cy) (by simp [go_sem, s90, hcell]) (hI.val (by decide) (by decide) (by decide) (by decide) rfl)
            refine And.intro ?_ ?_
            · intro L V ρ w' hI hk hc hf hd hs
              have s91 : ρ (.tmp 91) = .slice py ny cy := ((hd 8 (by kernel_rfl)).2 91 (by kernel_rfl)).trans (hI.at (by decide) (by decide) (by decide) (by decide) (hd 8 (by kernel_rfl)).1)
              clear hd hs
              have hP := hI.before hk
              exact outcome_value (run_conv rfl s91 (conv_str' (BU.out.below hP))) (hI.call hk (by decide) (by decide) (by decide) ⟨rfl, hP⟩)
            refine And.intro ?_ ?_
            · intro L V ρ w' hI hk hc hf hd hs
              have h92 := (hd 9 (by kernel_rfl)).1
              have s92 : ρ (.tmp 92) = V 9 := (hd 9 (by kernel_rfl)).2 92 (by kernel_rfl)
              clear hd hs
              obtain ⟨⟨hv3, hP⟩, hnext⟩ := hI.build h92 hk (by decide) (by decide) (by decide)
              rw [hv3] at s92
              exact outcome_value (v := .slice (some ⟨w'.heap.size, 0, none⟩) 1 1) (w := w'.alloc (.cells #[.string (str y)] 9)) (by simp [go_sem, s92]) (hnext _ _ ⟨⟨w'.heap.size, rfl, (Blk.new w' _ _).cellv rfl⟩, hP.alloc hP.size _⟩)
            refine And.intro ?_ ?_
            · intro L V ρ w' hI hk hc hf hd hs
              have s87 : ρ (.tmp 87) = e'.vD := ((hd 4 (by kernel_rfl)).2 87 (by kernel_rfl)).trans (hI.at (by decide) (by decide) (by decide) (by decide) (hd 4 (by kernel_rfl)).1)
              have h93 := (hd 10 (by kernel_rfl)).1
              have s93 : ρ (.tmp 93) = V 10 := (hd 10 (by kernel_rfl)).2 93 (by kernel_rfl)
              have h1 := (hd 4 (by kernel_rfl)).1
              clear hd hs
              obtain ⟨⟨⟨g, hv4, hx⟩, hP⟩, hnext⟩ := hI.app h93 h1 hk (by decide) (by decide) (by decide) (by decide)
              rw [hv4] at s93
              refine outcome_push (t := 40) (e := 9) (by rfl) Try.underlying40 info_string rfl (by decide) s87 s93 (Rw.below CR.out.x.d hP) hx rfl (by rw [List.length_map]; have := CR.out.i.nD; omega) (Nat.le_trans CR.out.p.size hP.size) ?_
              intro v5 w5 S5 M5 o5
              exact hnext _ _ ⟨w', hP, S5, M5, o5⟩
            refine And.intro ?_ ?_
            · intro L V ρ w' hI hk hc hf hd hs
              have s83 : ρ (.tmp 83) = .pointer (some ⟨x, 0, none⟩) := ((hd 0 (by kernel_rfl)).2 83 (by kernel_rfl)).trans (hI.at (by decide) (by decide) (by decide) (by decide) (hd 0 (by kernel_rfl)).1)
              clear hd hs
              exact outcome_value (v := .pointer (some ⟨x, 0, none⟩)) (by simp [go_sem, s83]) (hI.val (by decide) (by decide) (by decide) (by decide) rfl)
            refine And.intro ?_ ?_
            · intro L V ρ w' hI hk hc hf hd hs
              have s95 : ρ (.tmp 95) = .pointer (some ⟨x, 0, none⟩) := ((hd 12 (by kernel_rfl)).2 95 (by kernel_rfl)).trans (hI.at (by decide) (by decide) (by decide) (by decide) (hd 12 (by kernel_rfl)).1)
              clear hd hs
              exact outcome_value (v := .pointer (some ⟨x, 23, none⟩)) (by simp [go_sem, s95]) (hI.val (by decide) (by decide) (by decide) (by decide) rfl)
            refine And.intro ?_ ?_
            · intro L V ρ w' hI hk hc hf hd hs
              have s96 : ρ (.tmp 96) = .pointer (some ⟨x, 23, none⟩) := ((hd 13 (by kernel_rfl)).2 96 (by kernel_rfl)).trans (hI.at (by decide) (by decide) (by decide) (by decide) (hd 13 (by kernel_rfl)).1)
              have h94 := (hd 11 (by kernel_rfl)).1
              have s94 : ρ (.tmp 94) = V 11 := (hd 11 (by kernel_rfl)).2 94 (by kernel_rfl)
              clear hd hs
              obtain ⟨hP, hnext⟩ := hI.store h94 hk (by decide) (by decide) (by decide) (by decide)
              obtain ⟨u, d1, d2, d3⟩ := hP.at (j := 23) CR.out.x CR.out.x.d (by decide)
              refine outcome_skip (w := w'.setCell ⟨x, 23, none⟩ (V 11)) ?_ (hnext _ _ ⟨_, w', hP, rfl⟩)
              obtain ⟨p5, c5, e5⟩ := d3
              rw [e5] at s94 ⊢
              simp [go_sem, s94, s96, d1, d2]
            exact trivial
          case hend =>
            intro L V w13 hL hI
            obtain ⟨v, W', ⟨wq, hb, hR, hM, ho⟩, hw⟩ := hI.end (hL 14 (by decide))
            have Cq := CR.out.below hb
            obtain ⟨C5, M5, K5⟩ := Cq.pushD hR hM ho HY.out HD1.out
            rw [← hw] at C5 M5 K5
            have C6 := hid C5
            have U6 := hid (Cq.x.utPush Cq.x.d M5 (fun k hk => hk) (UR.out.below hb))
            have Z6 := hid (Cq.x.utPush Cq.x.d M5 (fun k hk => hk) (ZR.out.below hb))
            have K6 := hid ((KR.out.trans (Kp.of_below hb)).trans K5)
            simp only [lexF, Act.put, List.setIfInBounds_toArray, List.set_cons_zero, List.set_cons_succ]
            clear hI hL hw hb hR hM ho C5 M5 K5 Cq
            go_wp2
            go_roundg (q - (k + 1))
            case measure => omega
            case rel => exact ⟨k + 1, _, by go_num, rfl, by omega, C6, hid (by show (e'.D ++ [y]).length ≤ _; rw [List.length_append]; have := DR.out; simp; omega), U6, Z6, K6⟩
        · have hki : ¬ (k : Int) < (q : Int) := by omega
          have CF := hid (show Calls Try.prog 32 #[.slice pu q cu, .slice pz nz cz] wr fun e w' => e = .returned (.bool true) ∧ Below wr.heap.size wr w' from frames_c UR.out ZR.out EQ.out (by rw [← HQ.out]; omega))
          go_wp2_with (go_at_call 32; refine CF.out.mono ?_; rintro r6 w6 ⟨rfl, hb6⟩; have C6 := hid (CR.out.below hb6); have K6 := hid (KR.out.trans (Kp.of_below hb6)); clear hb6)
          go_ret
          exact ⟨rfl, ⟨e', C6.out⟩, K6.out⟩
end Go.Proofs.Ytkehejkjifgieaa

/- The law's act: a message is put. -/
namespace Go.Proofs.Ytkehejkjifgieaa
open Go.RowKit Go.ChangeMaps

theorem put_p3 {w0 w : World} {base s t mb r mc b0 n k5 x : Nat} {vb : Value} {xs : List W8} {l : List (List W8)} {m : List Ent} {A : Int → Option (List W8)} (h : PR w0 base s t mb r mc l b0 m n A) {cx : Array Value} (hx : Blk w0 x cx 50) (hb : Below w0.heap.size w0 w) (h5 : w0.heap.size ≤ k5) {cs : Array Value} (hB5 : Blk w k5 cs 5) (hX : Bytes w vb xs) (hfew : b0 + l.length < 100000) :
    Calls Try.prog 9 #[.pointer (some ⟨s, 0, none⟩), vb] w fun e w' => e = .returned (.int .i64 (putM l xs).1) ∧ Kp kinds5 base w w' ∧ ∀ (S : Nat → Prop) (W : World), Mod S w' W → (∀ k, S k → k = k5 ∨ k = x) → PR W base s t mb r mc (putM l xs).2 b0 m n A := by
  obtain ⟨sv, lv, ts, hS, rfl⟩ := h.snd
  rw [List.length_map] at hfew
  have hSw := hS.below hb
  refine (sput2_c hSw hX hfew).mono ?_
  rintro e w' ⟨rfl, ⟨lv', ts', h1, h2, h3, h4⟩, M⟩
  have K := (hSw.kp M (fun k hk => hk.elim (fun e => Or.inl (Or.inl e)) Or.inr)).1
  refine ⟨rfl, K, fun S W MW hSW => ?_⟩
  have hB5' : Blk w' k5 cs 5 := K.blk hB5 (by decide)
  have hx' : Blk w' x cx 50 := K.blk (hx.below hb) (by decide)
  refine ⟨⟨sv, lv', ts', h1.mod MW (fun k hk e => ?_), h2⟩, ?_, h.ne⟩
  · rcases hSW k e with e | e
    · have hk2 := hk
      rcases hk with hk | hk | hk | hk | ⟨p, hp, hk⟩
      · rw [hk] at e
        rw [← e] at hB5'
        exact absurd (Blk.inj hB5' h1.blk).2 (by decide)
      · obtain ⟨cs', b1⟩ := h1.row.kind hk
        rw [e] at b1
        exact absurd (Blk.inj hB5' b1).2 (by decide)
      · rw [← e] at hB5'
        exact (h1.due.kind (Or.inl hk) hB5').elim (by decide) (by decide)
      · rw [← e] at hB5'
        exact (h1.due.kind (Or.inr hk) hB5').elim (by decide) (by decide)
      · rcases h4 p hp with h | h
        · have := ((hS.bys p h).lt k hk).2
          omega
        · have h6 := h k hk
          rw [e] at h6
          exact absurd hB5.lt (by omega)
    · rw [← e] at hx'
      rcases h1.kind hk hx' with h | h | h | h | h <;> exact absurd h (by decide)
  · have M' : Mod (fun k => (k = s ∨ lv.ownBlock = some k) ∨ k = x) w0 W := ((Mod.of_below hb _).trans (M.weaken (fun k _ hk => Or.inl hk))).step MW (fun k hk e => by
      rcases hSW k e with e | e
      · omega
      · exact Or.inr e)
    have key : ∀ k, ((k = s ∨ lv.ownBlock = some k) ∨ k = x) → ∃ cs T, Blk w0 k cs T ∧ (T = 65 ∨ T = 29 ∨ T = 50) := by
      rintro k ((rfl | hk) | rfl)
      · exact ⟨_, _, hS.blk, Or.inl rfl⟩
      · obtain ⟨cs', b1⟩ := hS.row.kind hk
        exact ⟨_, _, b1, Or.inr (Or.inl rfl)⟩
      · exact ⟨_, _, hx, Or.inr (Or.inr rfl)⟩
    refine h.rcv.mod M' (fun e => ?_) (fun e => ?_) (fun k cs hb e => ?_)
    · obtain ⟨cs, T, hb, hT⟩ := key r e
      have := (Blk.inj hb h.rcv.blk).2
      rcases hT with e | e | e <;> rw [e] at this <;> exact absurd this (by decide)
    · obtain ⟨cs, T, hb, hT⟩ := key mc e
      exact h.rcv.mbne hb rfl
    · obtain ⟨cs', T, hb', hT⟩ := key k e
      have := (Blk.inj hb' hb).2
      rcases hT with e | e | e <;> rw [e] at this <;> exact absurd this (by decide)
theorem EX.modU {w w' : World} {base x k5 : Nat} {e : ES} {cs : Array Value} (h : EX w base x e) (hB : Blk w k5 cs 5) (M : Mod (fun k => k = k5) w w') : EX w' base x e := by
  obtain ⟨cx, hx⟩ := h.fn.blk
  have key : ∀ {T : TypeId} {v : Value} {xs : List Value}, T ≠ 5 → Rw w base T v xs → Rw w' base T v xs := fun hT hr => hr.mod M (fun k hk e => by
    obtain ⟨cs', hb'⟩ := hr.kind hk
    rw [e] at hb'
    exact hT (Blk.inj hb' hB).2)
  exact ⟨h.fn.mod M (fun e => by rw [e] at hx; exact absurd (Blk.inj hx hB).2 (by decide)), h.hx, ⟨key (by decide) h.ds.l, key (by decide) h.ds.h, key (by decide) h.ds.t⟩, key (by decide) h.d, key (by decide) h.k, h.dLD, h.dLK, h.dDK⟩
theorem Kp.stepNew {Ts : List TypeId} {base k5 : Nat} {w w' w2 : World} (K : Kp Ts base w w') (M : Mod (fun k => k = k5) w' w2) (h : w.heap.size ≤ k5) : Kp Ts base w w2 := by
  obtain ⟨S, M1, hS⟩ := K
  exact ⟨S, M1.step M (fun k hk e => by omega), hS⟩
/-- What the document's Put leaves. -/
theorem putR {i : Nat} {e : ES} (h : EI i e) (xs : List W8) : ∃ (c : Int) (L' : List (List W8)) (H' : List Bool) (T' : List Nat), c = (putM (e.L.drop e.b) xs).1 ∧ ((500 < xs.length ∧ c = 4 ∧ L' = e.L ∧ H' = e.H ∧ T' = e.T) ∨ (¬ 500 < xs.length ∧ 200 ≤ e.L.length - e.b ∧ c = 7 ∧ L' = e.L ∧ H' = e.H ∧ T' = e.T) ∨ (¬ 500 < xs.length ∧ ¬ 200 ≤ e.L.length - e.b ∧ c = 0 ∧ L' = e.L ++ [xs] ∧ H' = e.H ++ [false] ∧ T' = e.T ++ [0])) ∧
    Ref e.m e.b L' H' T' ∧ L'.drop e.b = (putM (e.L.drop e.b) xs).2 ∧ e.b ≤ L'.length ∧ (∀ m ∈ L', m.length ≤ 500) ∧ L'.length ≤ i + 1 := by
  unfold putM
  rw [List.length_drop]
  have h1 := h.nL
  by_cases h5 : 500 < xs.length
  · rw [if_pos h5]
    exact ⟨4, e.L, e.H, e.T, rfl, Or.inl ⟨h5, rfl, rfl, rfl, rfl⟩, h.ref, rfl, h.bb, h.l5, by omega⟩
  · rw [if_neg h5]
    by_cases h2 : 200 ≤ e.L.length - e.b
    · rw [if_pos h2]
      exact ⟨7, e.L, e.H, e.T, rfl, Or.inr (Or.inl ⟨h5, h2, rfl, rfl, rfl, rfl⟩), h.ref, rfl, h.bb, h.l5, by omega⟩
    · rw [if_neg h2]
      refine ⟨0, e.L ++ [xs], e.H ++ [false], e.T ++ [0], rfl, Or.inr (Or.inr ⟨h5, h2, rfl, rfl, rfl, rfl⟩), h.ref.put xs, List.drop_append_of_le_length h.bb, by rw [List.length_append]; have := h.bb; omega, fun m hm => ?_, by rw [List.length_append]; simp; omega⟩
      rcases List.mem_append.1 hm with hm | hm
      · exact h.l5 m hm
      · rw [List.mem_singleton] at hm; rw [hm]; omega
set_option maxRecDepth 100000 in
set_option maxHeartbeats 4000000 in
theorem act1_w {w : World} {base x i : Nat} {e : ES} {wh : Int} {nw : Nat} {vB : Value} {xs : List W8} (h : EC w base x i e) (hX : Bytes w vB xs) (hlow : ∀ k, vB.ownBlock = some k → 0 < xs.length → k < base) (hi : i < 80) (hl : xs.length ≤ 700) :
    Calls Try.prog 16 #[.pointer (some ⟨x, 0, none⟩), .agg #[.int .i64 1, .int .i64 wh, .int .u64 (nw : Int), vB]] w fun r w' => ActP w base x i r w' := by
  obtain ⟨pB, cB, hv, hq⟩ := hX
  subst hv
  have HX := hid (show Bytes w (.slice pB xs.length cB) xs from ⟨pB, cB, rfl, hq⟩)
  have H := hid h
  have HL := hid hl
  have hbs := hid h.p.size
  obtain ⟨wA, hwA⟩ : ∃ wA, wA = w.alloc (.cells #[.int .i64 1, .int .i64 wh, .int .u64 (nw : Int), .slice pB xs.length cB] 52) := ⟨_, rfl⟩
  have BA := hid (show Below w.heap.size w wA by rw [hwA]; exact (Below.refl _ _).alloc (Nat.le_refl _) _)
  have KA := hid (show Blk wA w.heap.size #[.int .i64 1, .int .i64 wh, .int .u64 (nw : Int), .slice pB xs.length cB] 52 by rw [hwA]; exact Blk.new w _ _)
  obtain ⟨nb, hnb⟩ : ∃ nb, nb = xs.length := ⟨_, rfl⟩
  have HNB := hid hnb
  have HLOW := hid (show ∀ k, (Value.slice pB nb cB).ownBlock = some k → 0 < xs.length → k < base by rw [hnb]; exact hlow)
  rw [← hnb] at KA HX hwA ⊢
  clear hq h hlow hnb hl
  have c0 : wA.cell? ⟨w.heap.size, 0, none⟩ = some (.int .i64 1) := KA.out.cellv rfl
  have c3 : wA.cell? ⟨w.heap.size, 3, none⟩ = some (.slice pB nb cB) := KA.out.cellv rfl
  have hla : w.heap.size < wA.heap.size := KA.out.lt
  have hz : ∀ W : World, (zeroValue 44).run Try.prog W = .ok (.agg #[.slice none 0 0, .int .i64 0, .slice none 0 0, .slice none 0 0]) W := fun _ => rfl
  obtain ⟨cx, kx⟩ := H.out.x.fn.blk
  have KX := hid kx
  clear kx
  have AE := hid (show Below wA.heap.size wA (wA.alloc (.cells #[] 5)) from (Below.refl _ _).alloc (Nat.le_refl _) _)
  go_enter Try.func16, Try.ntmps16
  go_upto_region 1 with fail
  rw [← hwA]
  clear hwA
  go_upto_region 4 with (at_builtin; refine wpList_app rfl (.tmp 18) (.tmp 20) rfl rfl rfl (Ow.empty wA (Nat.le_refl _)) ((HX.out.below BA.out).below AE.out) (by have := HL.out; simp; omega) (by simp) ?_; intro v5 w5 O5 M5 o5; have P5 := hid O5; have N5 := hid M5; have Q5 := hid o5; clear O5 M5 o5)
  clear c0 c3 hla
  have P5 : Hid (Ow w5 wA.heap.size v5 xs) := P5
  have B5 := hid (show Below wA.heap.size wA w5 from N5.out.own_below (Ow.empty wA (Nat.le_refl _)) (by simp) AE.out)
  obtain ⟨k5, c5, cur5, hv5, hk5, kb5, hn5⟩ : ∃ k5 c5 cur, v5 = .slice (some ⟨k5, 0, none⟩) xs.length c5 ∧ wA.heap.size ≤ k5 ∧ Blk w5 k5 cur 5 ∧ xs.length ≤ c5 ∧ cur.size = c5 := by
    rcases P5.out.2 with ⟨e, _⟩ | ⟨g, cap, cur, e, h2, h3, h4, h5, h6, h7⟩
    · rcases Q5.out with h | h <;> rw [e] at h <;> cases h
    · exact ⟨g, cap, cur, e, h2, h3, h4, by omega⟩
  subst hv5
  rw [← HNB.out] at hn5 ⊢
  have K5 := hid kb5; have L5 := hid hn5; have G5 := hid hk5
  clear kb5 hn5 hk5 N5 Q5 AE
  have BW := hid (BA.out.trans (B5.out.mono BA.out.size))
  have KA5 := hid (KA.out.below B5.out)
  have X5 := hid (H.out.x.below BW.out)
  have s0 := X5.out.s0
  have hxl : x < w5.heap.size := X5.out.fn.lt
  obtain ⟨c, L', H', T', hc, h3, h4, h5, h6, h7, h8⟩ := putR H.out.i xs
  have CP := hid (put_p3 H.out.p KX.out BW.out (Nat.le_trans BA.out.size G5.out) K5.out P5.out.bytes (by have h9 := H.out.i.nL; have h10 := H.out.i.bb; rw [List.length_drop]; omega))
  rw [← HNB.out, ← hc] at CP
  have PC := hid h3; have RF := hid (And.intro h4 (And.intro h5 (And.intro h6 (And.intro h7 h8))))
  clear hc h3 h4 h5 h6 h7 h8
  go_upto_region 5 with (go_at_call 9; refine CP.out.mono ?_; rintro r6 w6 ⟨rfl, hK6, hP6⟩; have K6 := hid hK6; have P6 := hid hP6; clear hK6 hP6)
  clear CP s0 hxl
  have X6 := hid (X5.out.kp K6.out)
  have KA6 := hid (K6.out.blk KA5.out (by decide))
  have KU6 := hid (K6.out.blk K5.out (by decide))
  have BL6 := hid (show Below base w w6 from ((BW.out).mono hbs.out).trans (K6.out.below (Nat.le_trans hbs.out BW.out.size)))
  have HA : ∀ dw W W', Kp [44] 0 W W' → (fun (dw : Array Value) (W : World) => ∃ (vL vH vT : Value), dw = dsV vL vH vT e.b ∧ DS W base vL vH vT L' H' T' ∧ Dis vL e.vD ∧ Dis vL e.vK) dw W → (fun (dw : Array Value) (W : World) => ∃ (vL vH vT : Value), dw = dsV vL vH vT e.b ∧ DS W base vL vH vT L' H' T' ∧ Dis vL e.vD ∧ Dis vL e.vK) dw W' := fun dw W W' K ⟨vL, vH, vT, h1, h2, h3⟩ => ⟨vL, vH, vT, h1, h2.kp K (by decide) (by decide) (by decide), h3⟩
  have HB : ∀ v W W', Kp [44] 0 W W' → (fun (v : Value) (_ : World) => v = .int .i64 c) v W → (fun (v : Value) (_ : World) => v = .int .i64 c) v W' := fun v W W' _ h => h
  have HD4 : ∀ dw W, (fun (dw : Array Value) (W : World) => ∃ (vL vH vT : Value), dw = dsV vL vH vT e.b ∧ DS W base vL vH vT L' H' T' ∧ Dis vL e.vD ∧ Dis vL e.vK) dw W → dw.size = 4 ∧ dw.all (·.oneCell') = true ∧ (Try.prog.info? 44).map (·.size) = some dw.size := fun dw W ⟨vL, vH, vT, h1, h2, _⟩ => by
    subst h1
    exact ⟨h2.one.1, h2.one.2, info44 _ _ _ _⟩
  refine region_inv (n := 174) (I := Sto 44 w6 [.pointer (some ⟨x, 0, none⟩), .pointer (some ⟨x, 0, none⟩), .pointer (some ⟨x, 2, none⟩), .agg (dsV e.vL e.vH e.vT e.b), .pointer (some ⟨w.heap.size, 3, none⟩), .slice pB nb cB] (fun (dw : Array Value) (W : World) => ∃ (vL vH vT : Value), dw = dsV vL vH vT e.b ∧ DS W base vL vH vT L' H' T' ∧ Dis vL e.vD ∧ Dis vL e.vK) (fun (v : Value) (_ : World) => v = .int .i64 c)) (by kernel_rfl) (by kernel_rfl) (by kernel_rfl) (by kernel_rfl) Sto.start ?hop ?hend
  case hop =>
    refine And.intro ?_ ?_
    · intro L V ρ w' hI hk hc hf hd hs
      have s0 : ρ (.tmp 0) = .pointer (some ⟨x, 0, none⟩) := hs 0 (by kernel_rfl)
      clear hd hs
      rw [BigFrame.run_move (.tmp 0) rfl]
      exact hI.val HA HB hk (by decide) (Below.refl _ _) (stoP.mk (by decide) s0)
    refine And.intro ?_ ?_
    · intro L V ρ w' hI hk hc hf hd hs
      have s29 : ρ (.tmp 29) = .pointer (some ⟨x, 0, none⟩) := ((hd 0 (by kernel_rfl)).2 29 (by kernel_rfl)).trans (hI.fix (by decide) (hd 0 (by kernel_rfl)).1)
      have hb5 := hI.1
      clear hd hs
      exact outcome_value (v := .pointer (some ⟨x, 0, none⟩)) (by simp [go_sem, s29]) (hI.val HA HB hk (by decide) (Below.refl _ _) (stoP.mk (by decide) rfl))
    refine And.intro ?_ ?_
    · intro L V ρ w' hI hk hc hf hd hs
      have s30 : ρ (.tmp 30) = .pointer (some ⟨x, 0, none⟩) := ((hd 1 (by kernel_rfl)).2 30 (by kernel_rfl)).trans (hI.fix (by decide) (hd 1 (by kernel_rfl)).1)
      have hb5 := hI.1
      clear hd hs
      exact outcome_value (v := .pointer (some ⟨x, 2, none⟩)) (by simp [go_sem, s30]) (hI.val HA HB hk (by decide) (Below.refl _ _) (stoP.mk (by decide) rfl))
    refine And.intro ?_ ?_
    · intro L V ρ w' hI hk hc hf hd hs
      have s31 : ρ (.tmp 31) = .pointer (some ⟨x, 2, none⟩) := ((hd 2 (by kernel_rfl)).2 31 (by kernel_rfl)).trans (hI.fix (by decide) (hd 2 (by kernel_rfl)).1)
      have hb5 := hI.1
      clear hd hs
      exact outcome_value (v := .agg (dsV e.vL e.vH e.vT e.b)) (run_load_in rfl s31 (X6.out.below hb5).rangeM Try.underlying44 rfl (info44 _ _ _ _)) (hI.val HA HB hk (by decide) (Below.refl _ _) (stoP.mk (by decide) rfl))
    refine And.intro ?_ ?_
    · intro L V ρ w' hI hk hc hf hd hs
      have s3 : ρ (.tmp 3) = .pointer (some ⟨w.heap.size, 0, none⟩) := hs 3 (by kernel_rfl)
      have hb5 := hI.1
      clear hd hs
      exact outcome_value (v := .pointer (some ⟨w.heap.size, 3, none⟩)) (by simp [go_sem, s3]) (hI.val HA HB hk (by decide) (Below.refl _ _) (stoP.mk (by decide) rfl))
    refine And.intro ?_ ?_
    · intro L V ρ w' hI hk hc hf hd hs
      have s33 : ρ (.tmp 33) = .pointer (some ⟨w.heap.size, 3, none⟩) := ((hd 4 (by kernel_rfl)).2 33 (by kernel_rfl)).trans (hI.fix (by decide) (hd 4 (by kernel_rfl)).1)
      have hb5 := hI.1
      have hcell : w'.cell? ⟨w.heap.size, 3, none⟩ = some (.slice pB nb cB) := (KA6.out.below hb5).cellv rfl
      clear hd hs
      exact outcome_value (v := .slice pB nb cB) (by simp [go_sem, s33, hcell]) (hI.val HA HB hk (by decide) (Below.refl _ _) (stoP.mk (by decide) rfl))
    refine And.intro ?_ ?_
    · intro L V ρ w' hI hk hc hf hd hs
      have s32 : ρ (.tmp 32) = .agg (dsV e.vL e.vH e.vT e.b) := ((hd 3 (by kernel_rfl)).2 32 (by kernel_rfl)).trans (hI.fix (by decide) (hd 3 (by kernel_rfl)).1)
      have s34 : ρ (.tmp 34) = .slice pB nb cB := ((hd 5 (by kernel_rfl)).2 34 (by kernel_rfl)).trans (hI.fix (by decide) (hd 5 (by kernel_rfl)).1)
      have hb5 := hI.1
      clear hd hs
      refine outcome_enter (w := w') (f := 30) (args := #[.agg (dsV e.vL e.vH e.vT e.b), .slice pB nb cB]) (by simp [go_sem, hf, s32, s34]) ?_
      have hX := X6.out.below hb5
      have hi8 := H.out.i
      have hbw : base ≤ w6.heap.size := Nat.le_trans hbs.out (Nat.le_trans BW.out.size K6.out.size)
      have hBy := Byf.low HX.out HLOW.out (BL6.out.trans (hb5.mono hbw))
      have hlh := hi8.ref.lh
      have hlt := hi8.ref.lt
      have hnl := hi8.nL
      refine (rputm_c hX.ds hBy (by omega) (by omega) (by omega) hi8.bb).mono ?_
      rintro r1 W1 ⟨hr, hb1⟩
      rcases PC.out with ⟨a1, rfl, rfl, rfl, rfl⟩ | ⟨a1, a2, rfl, rfl, rfl, rfl⟩ | ⟨a1, a2, rfl, rfl, rfl, rfl⟩
      · rw [if_pos a1] at hr
        subst hr
        exact ⟨_, rfl, hI.val HA HB hk (by decide) hb1 ⟨_, _, rfl, ⟨e.vL, e.vH, e.vT, rfl, hX.ds.below hb1, hX.dLD, hX.dLK⟩, rfl⟩⟩
      · rw [if_neg a1, if_pos a2] at hr
        subst hr
        exact ⟨_, rfl, hI.val HA HB hk (by decide) hb1 ⟨_, _, rfl, ⟨e.vL, e.vH, e.vT, rfl, hX.ds.below hb1, hX.dLD, hX.dLK⟩, rfl⟩⟩
      · rw [if_neg a1, if_neg a2] at hr
        obtain ⟨vL', vH', vT', rfl, hd⟩ := hr
        have dis : ∀ {u : Value} {ls : List (List W8)}, Sr w' base u ls → Dis vL' u := fun hu k h1 h2 => by
          have b1 := (Rw.lt hd.l k h1).1
          have b2 := (Rw.lt hu k h2).2
          omega
        exact ⟨_, rfl, hI.val HA HB hk (by decide) hb1 ⟨_, _, rfl, ⟨vL', vH', vT', rfl, hd.low (Nat.le_trans hbw hb5.size), dis hX.d, dis hX.k⟩, rfl⟩⟩
    refine And.intro ?_ ?_
    · intro L V ρ w' hI hk hc hf hd hs
      have s35 : ρ (.tmp 35) = V 6 := (hd 6 (by kernel_rfl)).2 35 (by kernel_rfl)
      have h6 := (hd 6 (by kernel_rfl)).1
      clear hd hs
      rw [BigFrame.run_move (.tmp 35) rfl]
      exact hI.val HA HB hk (by decide) (Below.refl _ _) (by rw [s35]; exact hI.at h6)
    refine And.intro ?_ ?_
    · intro L V ρ w' hI hk hc hf hd hs
      obtain ⟨dw, v2, e, ha, hb⟩ : ∃ dw v2, V 7 = .tuple #[.agg dw, v2] ∧ (fun (dw : Array Value) (W : World) => ∃ (vL vH vT : Value), dw = dsV vL vH vT e.b ∧ DS W base vL vH vT L' H' T' ∧ Dis vL e.vD ∧ Dis vL e.vK) dw w' ∧ (fun (v : Value) (_ : World) => v = .int .i64 c) v2 w' := hI.at (hd 7 (by kernel_rfl)).1
      have s28 : ρ (.tmp 28) = .tuple #[.agg dw, v2] := ((hd 7 (by kernel_rfl)).2 28 (by kernel_rfl)).trans e
      clear hd hs
      exact outcome_value (v := .agg dw) (by simp [go_sem, s28]) (hI.val HA HB hk (by decide) (Below.refl _ _) ⟨dw, rfl, ha⟩)
    refine And.intro ?_ ?_
    · intro L V ρ w' hI hk hc hf hd hs
      obtain ⟨dw, v2, e, ha, hb⟩ : ∃ dw v2, V 7 = .tuple #[.agg dw, v2] ∧ (fun (dw : Array Value) (W : World) => ∃ (vL vH vT : Value), dw = dsV vL vH vT e.b ∧ DS W base vL vH vT L' H' T' ∧ Dis vL e.vD ∧ Dis vL e.vK) dw w' ∧ (fun (v : Value) (_ : World) => v = .int .i64 c) v2 w' := hI.at (hd 7 (by kernel_rfl)).1
      have s28 : ρ (.tmp 28) = .tuple #[.agg dw, v2] := ((hd 7 (by kernel_rfl)).2 28 (by kernel_rfl)).trans e
      clear hd hs
      exact outcome_value (v := v2) (by simp [go_sem, s28]) (hI.val HA HB hk (by decide) (Below.refl _ _) hb)
    refine And.intro ?_ ?_
    · intro L V ρ w' hI hk hc hf hd hs
      have hb5 := hI.1
      clear hd hs
      exact outcome_value (v := .pointer (some ⟨w'.heap.size, 0, none⟩)) (w := w'.alloc (.cells #[.slice none 0 0, .int .i64 0, .slice none 0 0, .slice none 0 0] 44)) (by simp [go_sem, hz]) (hI.val HA HB hk (by decide) ((Below.refl _ _).alloc (Nat.le_refl _) _) ⟨w'.heap.size, _, rfl, hb5.size, Blk.new w' _ _, rfl⟩)
    refine And.intro ?_ ?_
    · intro L V ρ w' hI hk hc hf hd hs
      have h8 := (hd 8 (by kernel_rfl)).1
      have h10 := (hd 10 (by kernel_rfl)).1
      obtain ⟨dw, e, ha⟩ : ∃ dw, V 8 = .agg dw ∧ (fun (dw : Array Value) (W : World) => ∃ (vL vH vT : Value), dw = dsV vL vH vT e.b ∧ DS W base vL vH vT L' H' T' ∧ Dis vL e.vD ∧ Dis vL e.vK) dw w' := hI.at h8
      obtain ⟨g, cs, e2, hg, hbk, hcs⟩ : ∃ g cs, V 10 = .pointer (some ⟨g, 0, none⟩) ∧ w6.heap.size ≤ g ∧ Blk w' g cs 44 ∧ cs.size = 4 := hI.at h10
      have s36 : ρ (.tmp 36) = .agg dw := ((hd 8 (by kernel_rfl)).2 36 (by kernel_rfl)).trans e
      have s7 : ρ (.tmp 7) = .pointer (some ⟨g, 0, none⟩) := ((hd 10 (by kernel_rfl)).2 7 (by kernel_rfl)).trans e2
      clear hd hs
      obtain ⟨d4, d1, d44⟩ := HD4 dw w' ha
      exact outcome_skip (run_store_blk rfl s7 s36 hbk d44 (hcs.trans d4.symm) d1) (hI.put HA HB h8 h10 e2 e hg hbk d4 _)
    refine And.intro ?_ ?_
    · intro L V ρ w' hI hk hc hf hd hs
      have s37 : ρ (.tmp 37) = V 9 := (hd 9 (by kernel_rfl)).2 37 (by kernel_rfl)
      have h9 := (hd 9 (by kernel_rfl)).1
      clear hd hs
      rw [BigFrame.run_assign (.tmp 37) rfl]
      exact hI.val HA HB hk (by decide) (Below.refl _ _) (by rw [s37]; exact hI.at h9)
    exact trivial
  case hend =>
    intro L V w7 hL hI
    obtain ⟨g, dw, e10, hbk, ⟨vL, vH, vT, hdw, hds, hd1, hd2⟩, e12, hb7, hg⟩ := hI.end hL
    have DS7 := hid hds; have DI7 := hid (And.intro hd1 hd2); have B7 := hid hb7; have KG := hid hbk; have HDW := hid hdw
    have E10 := hid e10; have E12 := hid e12
    simp only [lexF, Act.put, List.setIfInBounds_toArray, List.set_cons_zero, List.set_cons_succ]
    clear hI hL e10 e12 hds hd1 hd2 hb7 hbk HA HB
    rw [E10.out, E12.out]
    clear E10 E12
    have X7 := hid (X6.out.below B7.out)
    obtain ⟨d4, d1, d44⟩ := HD4 dw w7 ⟨vL, vH, vT, HDW.out, DS7.out, DI7.out⟩
    have D4 := hid d4; have D1 := hid d1; have D44 := hid d44
    clear d4 d1 d44 HD4 hdw
    have TH := hid (show w7.there x 2 dw.size from X7.out.there (by rw [D4.out]; decide))
    have MX := hid (Mod.cells w7 x 2 dw.toList)
    have hxl : x < w7.heap.size := X7.out.fn.lt
    go_upto_region 7 with (first
      | ((with_reducible refine at_op (.load 44 (.tmp 7)) rfl ?_); refine wpList_load_blk rfl 44 (.tmp 7) rfl g rfl (cs := dw) KG.out Try.underlying44 rfl D44.out ?_)
      | ((with_reducible refine at_op (.store 44 (.tmp 41) (.tmp 39)) rfl ?_); refine wpList_store_mid rfl 44 (.tmp 41) (.tmp 39) rfl x 2 dw rfl rfl TH.out D44.out D1.out ?_))
    obtain ⟨w8, hw8⟩ : ∃ w8, w8 = w7.setCells x 2 dw.toList := ⟨_, rfl⟩
    have X8 := hid (show EX w8 base x { e with vL := vL, vH := vH, vT := vT, b := e.b, L := L', H := H', T := T' } from by
      have hX := X7.out.setM DS7.out DI7.out.1 DI7.out.2 (b := e.b)
      rw [← HDW.out, ← hw8] at hX
      exact hX)
    have M8 := hid (show Mod (fun k => k = x) w6 w8 from by rw [hw8]; exact (Mod.of_below B7.out _).trans MX.out)
    have KK := hid (show Kp kinds7 base w w8 from by rw [hw8]; exact ((((Kp.of_below BW.out).trans (kinds57 K6.out)).trans (Kp.of_below B7.out)).trans (X7.out.kpX MX.out)))
    have U8 := hid (show Blk w8 k5 cur5 5 from by
      rw [hw8]
      exact MX.out.blk (KU6.out.below B7.out) (fun e => by
        obtain ⟨cx', hx'⟩ := X7.out.fn.blk
        have hu := KU6.out.below B7.out
        rw [e] at hu
        exact absurd (Blk.inj hx' hu).2 (by decide)))
    have FIN := hid (show ∀ W, Mod (fun k => k = k5) w8 W → EC W base x (i + 1) { e with vL := vL, vH := vH, vT := vT, b := e.b, L := L', H := H', T := T' } from fun W MW => by
      have hP := P6.out (fun k => k = k5 ∨ k = x) W ((M8.out.weaken (fun k _ hk => Or.inr hk)).step MW (fun k _ hk => Or.inl hk)) (fun k hk => hk)
      rw [← RF.out.2.1] at hP
      have hI := H.out.i
      exact ⟨X8.out.modU U8.out MW, hP, ⟨RF.out.1, hI.rr, RF.out.2.2.1, RF.out.2.2.2.1, hI.dl, hI.kl, RF.out.2.2.2.2, by have := hI.nN; show e.N ≤ _; omega, by have := hI.nD; show e.D.length ≤ _; omega, by have := hI.nK; show e.K.length ≤ _; omega⟩⟩)
    have GW := hid (show w.heap.size ≤ k5 from Nat.le_trans BA.out.size G5.out)
    have NB := hid (show nb ≤ 700 by rw [HNB.out]; exact HL.out)
    have US := hid (show nb ≤ cur5.size by have := L5.out.1; have := L5.out.2; omega)
    rw [← hw8]
    clear hw8 hxl hg MX TH D4 D1 D44 KG HDW DS7 DI7 X7 M8 X8 B7 X6 KA6 KU6 BL6 K6 P6 RF PC X5 KA5 BW K5 L5 G5 B5 P5 KX hz HLOW HX KA BA HNB HL
    go_upto_region 8 with fail
    go_loopg [9] nb (fun g v9 wr => ∃ (k : Nat) (cs : Array Value), v9 = .int .i64 k ∧ g = nb - k ∧ k ≤ nb ∧ Hid (Blk wr k5 cs 5) ∧ Hid (nb ≤ cs.size) ∧ Hid (Mod (fun k => k = k5) w8 wr))
    case atStart => exact ⟨0, cur5, rfl, rfl, Nat.zero_le _, U8, US, hid (Mod.refl _ _)⟩
    case round =>
      obtain ⟨k, cs, rfl, hg, hk, UB, UN, UM⟩ := hrel
      clear U8 US
      have hnb7 : nb ≤ 700 := NB.out
      by_cases hkn : k < nb
      · have hki : (k : Int) < (nb : Int) := by omega
        have hcell : wr.cell? ⟨k5, k, none⟩ = some (cs[k]'(by have := UN.out; omega)) := UB.out.cellv (Array.getElem?_eq_getElem _)
        have hfr : wr.frozen? ⟨k5, k, none⟩ = false := UB.out.frozen k
        obtain ⟨u, hu⟩ : ∃ u, u = (cs[k]'(by have := UN.out; omega)) := ⟨_, rfl⟩
        rw [← hu] at hcell
        have hlt : k5 < wr.heap.size := UB.out.lt
        have UB2 := hid (UB.out.set k (.int .u8 1))
        have UN2 := hid (show nb ≤ (cs.setIfInBounds k (.int .u8 1)).size by rw [Array.size_setIfInBounds]; exact UN.out)
        have UM2 := hid (UM.out.trans (Mod.cell wr k5 k (.int .u8 1)))
        clear hu
        go_wp2
        go_roundg (nb - (k + 1))
        case measure => omega
        case rel => exact ⟨k + 1, _, by go_num, rfl, by omega, UB2, UN2, UM2⟩
      · have hki : ¬ (k : Int) < (nb : Int) := by omega
        go_wp2
        go_ret
        exact ⟨rfl, ⟨_, FIN.out _ UM.out⟩, KK.out.stepNew UM.out GW.out⟩
end Go.Proofs.Ytkehejkjifgieaa

/- WindowPlays: the walk. -/
namespace Go.Proofs.Ytkehejkjifgieaa
open Go.RowKit Go.ChangeMaps

theorem act_w {w : World} {base x i : Nat} {e : ES} {kd wh : Int} {nw : Nat} {vB : Value} {xs : List W8} (h : EC w base x i e) (hX : Bytes w vB xs) (hlow : ∀ k, vB.ownBlock = some k → 0 < xs.length → k < base) (hi : i < 80) (hl : xs.length ≤ 700) (hnw : nw < 18446744073709551616) :
    Calls Try.prog 16 #[.pointer (some ⟨x, 0, none⟩), .agg #[.int .i64 kd, .int .i64 wh, .int .u64 (nw : Int), vB]] w fun r w' => ActP w base x i r w' := by
  have ne : ∀ {a : Int}, ¬ kd = a → (kd == a) = false := fun h => by simpa using h
  by_cases h1 : kd = 1
  · subst h1; exact act1_w h hX hlow hi hl
  by_cases h2 : kd = 2
  · subst h2; exact act2_w h hX hlow hi hl hnw
  by_cases h3 : kd = 3
  · subst h3; exact act3_w h hX hlow hi hl
  by_cases h4 : kd = 4
  · subst h4; exact act4_w h hX hlow hi hl
  by_cases h5 : kd = 5
  · subst h5; exact act5_w h hX hlow hi hl
  by_cases h6 : kd = 6
  · subst h6; exact act6_w h hX hlow hi hl
  exact act0_w h hX hlow hi hl (ne h1) (ne h2) (ne h3) (ne h4) (ne h5) (ne h6)
/-- The acts' cells. -/
def Acts6 (W : World) (p : Option Addr) (len : Nat) : Prop :=
  ∀ i, i < len → ∃ (b off : Nat) (kd wh : Int) (nw : Nat) (pB : Option Addr) (cB : Nat) (xs : List W8), p = some ⟨b, off, none⟩ ∧ b < W.heap.size ∧ W.cell? ⟨b, off + i * 4, none⟩ = some (.int .i64 kd) ∧ W.cell? ⟨b, off + i * 4 + 1, none⟩ = some (.int .i64 wh) ∧ W.cell? ⟨b, off + i * 4 + 2, none⟩ = some (.int .u64 (nw : Int)) ∧ W.cell? ⟨b, off + i * 4 + 3, none⟩ = some (.slice pB xs.length cB) ∧ nw < 18446744073709551616 ∧ Bytes W (.slice pB xs.length cB) xs
theorem Bytes.blk_lt {W : World} {v : Value} {xs : List W8} (h : Bytes W v xs) : ∀ k, v.ownBlock = some k → 0 < xs.length → k < W.heap.size := by
  intro k hk h0
  obtain ⟨p, c, rfl, hq⟩ := h
  obtain ⟨b, off, rfl, h1, _⟩ := hq h0
  cases hk
  exact h1
theorem range4 {W : World} {b o : Nat} {a1 a2 a3 a4 : Value} (h1 : W.cell? ⟨b, o, none⟩ = some a1) (h2 : W.cell? ⟨b, o + 1, none⟩ = some a2) (h3 : W.cell? ⟨b, o + 2, none⟩ = some a3) (h4 : W.cell? ⟨b, o + 3, none⟩ = some a4) : W.rangeAt b o (#[a1, a2, a3, a4] : Array Value).toList := by
  intro j v hv
  have hj : j < 4 := by
    obtain ⟨h1, _⟩ := List.getElem?_eq_some_iff.1 hv
    exact h1
  have : j = 0 ∨ j = 1 ∨ j = 2 ∨ j = 3 := by omega
  rcases this with rfl | rfl | rfl | rfl <;> cases hv <;> assumption
/-- The region that calls act, then asks both how many. -/
def PlI (D : List (List Nat)) (w0 : World) (vals0 : List Value) (E : World → ES → Prop) (vals1 : ES → List Value) (L : Nat → Bool) (V : Nat → Value) (W : World) : Prop :=
  (L 5 = false → Below w0.heap.size w0 W ∧ (∀ j, j < 5 → L j = true → V j = vals0.getD j undef) ∧ ∀ j, 5 < j → L j = false) ∧
  (L 5 = true → (∀ j, j < 5 → L j = true) ∧ ∃ e', E W e' ∧ V 5 = .bool true ∧ ∀ j, 5 < j → L j = true → V j = (vals1 e').getD j undef) ∧ Dp D 5 L
section
variable {D : List (List Nat)} {w0 : World} {vals0 : List Value} {E : World → ES → Prop} {vals1 : ES → List Value} {L : Nat → Bool} {V : Nat → Value} {w w' : World}
theorem PlI.start : PlI D w vals0 E vals1 (fun _ => false) (fun _ => undef) w.drew := ⟨fun _ => ⟨(Below.refl _ _).drew, fun _ _ h => Bool.noConfusion h, fun _ _ => rfl⟩, fun h => Bool.noConfusion h, fun _ _ h => Bool.noConfusion h⟩
theorem PlI.not (h : PlI D w0 vals0 E vals1 L V w) {k : Nat} (hk : L k = false) (hkm : k ≤ 5) : L 5 = false := by
  by_cases e : k = 5
  · subst e; exact hk
  · cases e : L 5 with
    | false => rfl
    | true => rw [(h.2.1 e).1 k (by omega)] at hk; cases hk
theorem PlI.below (h : PlI D w0 vals0 E vals1 L V w) {k : Nat} (hk : L k = false) (hkm : k ≤ 5) : Below w0.heap.size w0 w := (h.1 (h.not hk hkm)).1
theorem PlI.at (h : PlI D w0 vals0 E vals1 L V w) {k j : Nat} (hk : L k = false) (hkm : k ≤ 5) (hjm : j < 5) (hj : L j = true) : V j = vals0.getD j undef := (h.1 (h.not hk hkm)).2.1 j hjm hj
theorem PlI.val (h : PlI D w0 vals0 E vals1 L V w) {k : Nat} (hk : L k = false) (hkm : k < 5) {v : Value} (hv : v = vals0.getD k undef) (hd : ∀ i ∈ D.getD k [], L i = true) : PlI D w0 vals0 E vals1 (updL L k) (updV V k v) w := by
  have hm := h.not hk (by omega)
  obtain ⟨h1, h2, h3⟩ := h.1 hm
  refine ⟨fun _ => ⟨h1, fun j hj hl => ?_, fun j hj => by rw [updL_ne (by omega)]; exact h3 j hj⟩, fun hl => ?_, h.2.2.upd (fun _ => hd)⟩
  · by_cases e : j = k
    · subst e; rw [updV_same]; exact hv
    · rw [updL_ne e] at hl; rw [updV_ne e]; exact h2 j hj hl
  · rw [updL_ne (by omega), hm] at hl; cases hl
theorem PlI.call (h : PlI D w0 vals0 E vals1 L V w) (hk : L 5 = false) (hd : ∀ i ∈ D.getD 5 [], L i = true) (hc : covB D 5 = true) {e' : ES} (hE : E w' e') : PlI D w0 vals0 E vals1 (updL L 5) (updV V 5 (.bool true)) w' := by
  have hall := h.2.2.all hd hc
  obtain ⟨_, _, h3⟩ := h.1 hk
  refine ⟨fun hl => (by rw [updL_same] at hl; cases hl), fun _ => ⟨fun j hj => by rw [updL_ne (by omega)]; exact hall j hj, e', hE, updV_same _ _ _, fun j hj hl => ?_⟩, h.2.2.upd (fun h => absurd h (by omega))⟩
  rw [updL_ne (by omega), h3 j hj] at hl; cases hl
theorem PlI.after (h : PlI D w0 vals0 E vals1 L V w) {j : Nat} (hj : 5 ≤ j) (hl : L j = true) : L 5 = true := by
  cases e : L 5 with
  | true => rfl
  | false =>
    by_cases e5 : j = 5
    · subst e5; rw [e] at hl; cases hl
    · rw [(h.1 e).2.2 j (by omega)] at hl; cases hl
theorem PlI.get (h : PlI D w0 vals0 E vals1 L V w) (h5 : L 5 = true) : ∃ e', E w e' ∧ V 5 = .bool true ∧ (∀ j, 5 < j → L j = true → V j = (vals1 e').getD j undef) ∧ ∀ (k : Nat) (v : Value), 5 < k → v = (vals1 e').getD k undef → PlI D w0 vals0 E vals1 (updL L k) (updV V k v) w := by
  obtain ⟨h1, e', hE, hv, hV⟩ := h.2.1 h5
  refine ⟨e', hE, hv, hV, fun k v hk hkv => ⟨fun hl => ?_, fun _ => ⟨fun j hj => by rw [updL_ne (by omega)]; exact h1 j hj, e', hE, by rw [updV_ne (by omega)]; exact hv, fun j hj hl => ?_⟩, h.2.2.upd (fun h => absurd h (by omega))⟩⟩
  · rw [updL_ne (by omega), h5] at hl; cases hl
  · by_cases e : j = k
    · subst e; rw [updV_same]; exact hkv
    · rw [updL_ne e] at hl; rw [updV_ne e]; exact hV j hj hl
end
def esL (e : ES) : Nat := e.L.length
def esd (e : ES) : Nat := (e.L.drop e.b).length
theorem es_sub {i : Nat} {e : ES} (h : EI i e) (hi : i ≤ 80) : (esL e : Int) - (e.b : Int) = (esd e : Int) ∧ IntKind.i64.wrap (esd e : Int) = (esd e : Int) := by
  have h1 : esL e ≤ 80 := Nat.le_trans h.nL hi
  have h2 : e.b ≤ esL e := h.bb
  have h3 : esd e = esL e - e.b := List.length_drop
  refine ⟨by omega, ?_⟩
  have h4 : esd e ≤ 80 := by omega
  simp [IntKind.wrap, IntKind.bits, IntKind.signed]
  omega
theorem info_act {a b c d : Value} : (Try.prog.info? 52).map (·.size) = some (#[a, b, c, d] : Array Value).size := by kernel_rfl
set_option maxRecDepth 100000 in
set_option maxHeartbeats 8000000 in
theorem plays_walk {w : World} {p : Option Addr} {n cap : Nat} (hn : n ≤ maxLen) (hA : Acts6 w p n) :
    Calls Try.prog 5 #[.slice p n cap] w fun e w' => e = .returned (.bool true) ∧ Below w.heap.size w w' := by
  have HA := hid hA
  have hn' : n ≤ 9223372036854775807 := by simpa [maxLen] using hn
  clear hA hn
  go_enter Try.func5, Try.ntmps5
  go_upto_region 2 with (first
    | (go_at_call 8; refine (newReceiver_c w1).mono ?_; rintro e w2 ⟨r, mc, rfl, hR, hb2⟩; have P2 := hid (PR.start S1.out hR hb2 B1.out.size); have B2 := hid (B1.out.trans (hb2.mono B1.out.size)); clear hR hb2)
    | (go_at_call 7; refine (newSender_c w).mono ?_; rintro e w1 ⟨s, t, mb, sv, rfl, hS, hb1⟩; have S1 := hid hS; have B1 := hid hb1; clear hS hb1))
  obtain ⟨wX, hwX⟩ : ∃ wX, wX = w2.alloc (.cells #[.pointer (some ⟨s, 0, none⟩), .pointer (some ⟨r, 0, none⟩), .slice none 0 0, .int .i64 0, .slice none 0 0, .slice none 0 0, .int .i64 0, .bool false, .bool false, .bool false, .bool false, .bool false, .bool false, .bool false, .bool false, .string ⟨#[]⟩, .string ⟨#[]⟩, .string ⟨#[]⟩, .string ⟨#[]⟩, .string ⟨#[]⟩, .string ⟨#[]⟩, .string ⟨#[]⟩, .string ⟨#[]⟩, .slice none 0 0, .slice none 0 0] 50) := ⟨_, rfl⟩
  have BN := hid (show Below w2.heap.size w2 wX by rw [hwX]; exact (Below.refl _ _).alloc (Nat.le_refl _) _)
  have C0 := hid (show EC wX w.heap.size w2.heap.size 0 ⟨s, t, mb, r, mc, 0, 0, [], [], [], [], [], [], fun _ => none, fun _ => false, fun _ => [], .slice none 0 0, .slice none 0 0, .slice none 0 0, .slice none 0 0, .slice none 0 0⟩ from by
    have hd : Dis (.slice none 0 0) (.slice none 0 0) := fun k h => by cases h
    refine ⟨⟨?_, B2.out.size, ⟨Rw.nil _ _ _, Rw.nil _ _ _, Rw.nil _ _ _⟩, Rw.nil _ _ _, Rw.nil _ _ _, hd, hd, hd⟩, P2.out.below BN.out, ⟨Ref.start, RefR.start, Nat.le_refl _, fun m hm => (by cases hm), fun m hm => (by cases hm), fun m hm => (by cases hm), Nat.le_refl _, Nat.le_refl _, Nat.le_refl _, Nat.le_refl _⟩⟩
    rw [hwX]
    refine Fn.new w2 _ _ rfl (fun j hj => ?_)
    rcases (show j = 0 ∨ j = 1 ∨ j = 2 ∨ j = 3 ∨ j = 4 ∨ j = 5 ∨ j = 6 ∨ j = 7 ∨ j = 8 ∨ j = 9 ∨ j = 10 ∨ j = 11 ∨ j = 12 ∨ j = 13 ∨ j = 14 ∨ j = 15 ∨ j = 16 ∨ j = 17 ∨ j = 18 ∨ j = 19 ∨ j = 20 ∨ j = 21 ∨ j = 22 ∨ j = 23 ∨ j = 24 by omega) with rfl | rfl | rfl | rfl | rfl | rfl | rfl | rfl | rfl | rfl | rfl | rfl | rfl | rfl | rfl | rfl | rfl | rfl | rfl | rfl | rfl | rfl | rfl | rfl | rfl <;> rfl)
  obtain ⟨x, hx⟩ : ∃ x, x = w2.heap.size := ⟨_, rfl⟩
  have BX := hid (B2.out.trans (BN.out.mono B2.out.size))
  rw [← hwX]
  rw [← hx] at C0 ⊢
  clear hwX hx BN P2 B2 S1 B1
  have s0 := C0.out.x.s0
  have s1 := C0.out.x.r1
  have hxl : x < wX.heap.size := C0.out.x.fn.lt
  dsimp only at s0 s1
  go_upto_region 5 with fail
  clear s0 s1 hxl
  go_loopg [4] 80 (fun g v4 wr => ∃ (k : Nat) (e : ES), v4 = .int .i64 k ∧ g = 80 - k ∧ k ≤ 80 ∧ Hid (EC wr w.heap.size x k e) ∧ Hid (Below w.heap.size w wr))
  case atStart => exact ⟨0, _, rfl, rfl, Nat.zero_le _, C0, BX⟩
  case round =>
    obtain ⟨k, e, rfl, hg, hk, CR, BB⟩ := hrel
    clear C0 BX
    by_cases hkn : k < n ∧ k < 80
    · obtain ⟨hk1, hk2⟩ := hkn
      have hk1i : (k : Int) < (n : Int) := by omega
      have hk2i : (k : Int) < 80 := by omega
      obtain ⟨b, off, kd, wh, nw, pB, cB, xs, rfl, hb, a0, a1, a2, a3, hnw, hBy⟩ := HA.out k hk1
      have HB := hid hb; have A0 := hid a0; have A1 := hid a1; have A2 := hid a2; have A3 := hid a3; have HW := hid hnw; have BY := hid hBy
      have hbr : b < wr.heap.size := Nat.lt_of_lt_of_le hb BB.out.size
      have c3 : wr.cell? ⟨b, off + k * 4 + 3, none⟩ = some (.slice pB xs.length cB) := (BB.out.cell hb).trans a3
      obtain ⟨nb, hnb⟩ : ∃ nb, nb = xs.length := ⟨_, rfl⟩
      rw [← hnb] at c3 A3 BY
      have HNB := hid hnb
      clear hb a0 a1 a2 a3 hnw hBy hnb
      by_cases h7 : 700 < nb
      · have h7i : (700 : Int) < (nb : Int) := by omega
        go_wp2_with fail
        go_roundg (80 - (k + 1))
        case measure => omega
        case rel => exact ⟨k + 1, e, by go_num, rfl, by omega, hid ⟨CR.out.x, CR.out.p, CR.out.i.up (Nat.le_succ k)⟩, BB⟩
      · have h7i : ¬ (700 : Int) < (nb : Int) := by omega
        go_upto_region 8 with fail
        have NB7 := hid (show xs.length ≤ 700 by have := HNB.out; omega)
        clear c3 hbr h7i h7
        refine region_inv (n := 79) (I := PlI [[], [], [], [1, 2], [3], [0, 4]] wr [.pointer (some ⟨x, 0, none⟩), .slice (some ⟨b, off, none⟩) n cap, .int .i64 (k : Int), .pointer (some ⟨b, off + k * 4, none⟩), .agg #[.int .i64 kd, .int .i64 wh, .int .u64 (nw : Int), .slice pB nb cB]] (fun W e' => EC W w.heap.size x (k + 1) e' ∧ Kp kinds7 w.heap.size wr W) (fun (e' : ES) => [undef, undef, undef, undef, undef, undef, .bool false, .bool false, .pointer (some ⟨x, 0, none⟩), .pointer (some ⟨x, 0, none⟩), .pointer (some ⟨x, 0, none⟩), .pointer (some ⟨e'.s, 0, none⟩), .int .i64 (esd e' : Int), .pointer (some ⟨x, 0, none⟩), .pointer (some ⟨x, 0, none⟩), .pointer (some ⟨x, 2, none⟩), .pointer (some ⟨x, 2, none⟩), e'.vL, .int .i64 (esL e' : Int), .pointer (some ⟨x, 0, none⟩), .pointer (some ⟨x, 0, none⟩), .pointer (some ⟨x, 2, none⟩), .pointer (some ⟨x, 3, none⟩), .int .i64 (e'.b : Int), .int .i64 (esd e' : Int), .bool false, .bool false, .bool false, .pointer (some ⟨x, 0, none⟩), .pointer (some ⟨x, 0, none⟩), .pointer (some ⟨x, 1, none⟩), .pointer (some ⟨e'.r, 0, none⟩), .int .i64 (e'.N : Int), .pointer (some ⟨x, 0, none⟩), .pointer (some ⟨x, 0, none⟩), .pointer (some ⟨x, 6, none⟩), .pointer (some ⟨x, 6, none⟩), .int .i64 (e'.N : Int), .bool false, .bool false])) (by kernel_rfl) (by kernel_rfl) (by kernel_rfl) (by kernel_rfl) PlI.start ?hop ?hend
        case hop =>
          refine And.intro ?_ ?_
          · intro L V ρ w' hI hk5 hc hf hd hs
            have s3 : ρ (.tmp 3) = .pointer (some ⟨x, 0, none⟩) := hs 3 (by kernel_rfl)
            clear hd hs
            rw [BigFrame.run_move (.tmp 3) rfl]
            exact hI.val hk5 (by decide) s3 all0
          refine And.intro ?_ ?_
          · intro L V ρ w' hI hk5 hc hf hd hs
            have s0 : ρ (.tmp 0) = .slice (some ⟨b, off, none⟩) n cap := hs 0 (by kernel_rfl)
            clear hd hs
            rw [BigFrame.run_move (.tmp 0) rfl]
            exact hI.val hk5 (by decide) s0 all0
          refine And.intro ?_ ?_
          · intro L V ρ w' hI hk5 hc hf hd hs
            have s4 : ρ (.tmp 4) = .int .i64 (k : Int) := hs 4 (by kernel_rfl)
            clear hd hs
            rw [BigFrame.run_move (.tmp 4) rfl]
            exact hI.val hk5 (by decide) s4 all0
          refine And.intro ?_ ?_
          · intro L V ρ w' hI hk5 hc hf hd hs
            have s39 : ρ (.tmp 39) = .slice (some ⟨b, off, none⟩) n cap := ((hd 1 (by kernel_rfl)).2 39 (by kernel_rfl)).trans (hI.at hk5 (by decide) (by decide) (hd 1 (by kernel_rfl)).1)
            have s40 : ρ (.tmp 40) = .int .i64 (k : Int) := ((hd 2 (by kernel_rfl)).2 40 (by kernel_rfl)).trans (hI.at hk5 (by decide) (by decide) (hd 2 (by kernel_rfl)).1)
            have hal := hid ((all2 (hd 1 (by kernel_rfl)).1 (hd 2 (by kernel_rfl)).1) : ∀ i ∈ [1, 2], L i = true)
            clear hd hs
            exact outcome_value (v := .pointer (some ⟨b, off + k * 4, none⟩)) (by simp [go_sem, s39, s40, hk1]) (hI.val hk5 (by decide) rfl hal.out)
          refine And.intro ?_ ?_
          · intro L V ρ w' hI hk5 hc hf hd hs
            have s41 : ρ (.tmp 41) = .pointer (some ⟨b, off + k * 4, none⟩) := ((hd 3 (by kernel_rfl)).2 41 (by kernel_rfl)).trans (hI.at hk5 (by decide) (by decide) (hd 3 (by kernel_rfl)).1)
            have hal := hid ((all1 (hd 3 (by kernel_rfl)).1) : ∀ i ∈ [3], L i = true)
            have hb5 := hI.below hk5 (by decide)
            clear hd hs
            have hbw := BB.out.trans (hb5.mono BB.out.size)
            exact outcome_value (v := .agg #[.int .i64 kd, .int .i64 wh, .int .u64 (nw : Int), .slice pB nb cB]) (run_load_in rfl s41 (range4 ((hbw.cell HB.out).trans A0.out) ((hbw.cell HB.out).trans A1.out) ((hbw.cell HB.out).trans A2.out) ((hbw.cell HB.out).trans A3.out)) Try.underlying52 rfl info_act) (hI.val hk5 (by decide) rfl hal.out)
          refine And.intro ?_ ?_
          · intro L V ρ w' hI hk5 hc hf hd hs
            have s38 : ρ (.tmp 38) = .pointer (some ⟨x, 0, none⟩) := ((hd 0 (by kernel_rfl)).2 38 (by kernel_rfl)).trans (hI.at hk5 (by decide) (by decide) (hd 0 (by kernel_rfl)).1)
            have s42 : ρ (.tmp 42) = .agg #[.int .i64 kd, .int .i64 wh, .int .u64 (nw : Int), .slice pB nb cB] := ((hd 4 (by kernel_rfl)).2 42 (by kernel_rfl)).trans (hI.at hk5 (by decide) (by decide) (hd 4 (by kernel_rfl)).1)
            have hal := hid ((all2 (hd 0 (by kernel_rfl)).1 (hd 4 (by kernel_rfl)).1) : ∀ i ∈ [0, 4], L i = true)
            have hb5 := hI.below hk5 (by decide)
            clear hd hs
            have hbw := BB.out.trans (hb5.mono BB.out.size)
            refine outcome_enter (w := w') (f := 16) (args := #[.pointer (some ⟨x, 0, none⟩), .agg #[.int .i64 kd, .int .i64 wh, .int .u64 (nw : Int), .slice pB nb cB]]) (by simp [go_sem, hf, s38, s42]) ?_
            refine (act_w (xs := xs) (CR.out.below hb5) (BY.out.below hbw) (fun k' h1 h2 => BY.out.blk_lt k' h1 h2) hk2 NB7.out HW.out).mono ?_
            rintro r1 w5 ⟨rfl, ⟨e', hE⟩, hK⟩
            exact ⟨_, rfl, hI.call hk5 hal.out (by decide) ⟨hE, (Kp.of_below hb5).trans hK⟩⟩
          refine And.intro ?_ ?_
          · intro L V ρ w' hI hk5 hc hf hd hs
            have h5 : L 5 = true := hI.after (j := 5) (by decide) (hd 5 (by kernel_rfl)).1
            obtain ⟨e', ⟨hE, hK⟩, h5v, hV, hn⟩ := hI.get h5
            have s43 : ρ (.tmp 43) = .bool true := ((hd 5 (by kernel_rfl)).2 43 (by kernel_rfl)).trans h5v
            clear hd hs
            exact outcome_value (v := .bool false) (by simp [go_sem, s43]) (hn 6 _ (by decide) rfl)
          refine And.intro ?_ ?_
          · intro L V ρ w' hI hk5 hc hf hd hs
            have h5 : L 5 = true := hI.after (j := 6) (by decide) (hd 6 (by kernel_rfl)).1
            obtain ⟨e', ⟨hE, hK⟩, h5v, hV, hn⟩ := hI.get h5
            have s44 : ρ (.tmp 44) = .bool false := ((hd 6 (by kernel_rfl)).2 44 (by kernel_rfl)).trans (hV 6 (by decide) (hd 6 (by kernel_rfl)).1)
            clear hd hs
            rw [BigFrame.run_move (.tmp 44) rfl]
            exact hn 7 _ (by decide) s44
          refine And.intro ?_ ?_
          · intro L V ρ w' hI hk5 hc hf hd hs
            have h5 : L 5 = true := hI.after (j := 7) (by decide) (hd 7 (by kernel_rfl)).1
            obtain ⟨e', ⟨hE, hK⟩, h5v, hV, hn⟩ := hI.get h5
            have s3 : ρ (.tmp 3) = .pointer (some ⟨x, 0, none⟩) := hs 3 (by kernel_rfl)
            refine Or.inl ⟨hV 7 (by decide) (hd 7 (by kernel_rfl)).1, ?_⟩
            clear hd hs
            rw [BigFrame.run_move (.tmp 3) rfl]
            exact hn 8 _ (by decide) s3
          refine And.intro ?_ ?_
          · intro L V ρ w' hI hk5 hc hf hd hs
            have h5 : L 5 = true := hI.after (j := 8) (by decide) (hd 8 (by kernel_rfl)).1
            obtain ⟨e', ⟨hE, hK⟩, h5v, hV, hn⟩ := hI.get h5
            have s46 : ρ (.tmp 46) = .pointer (some ⟨x, 0, none⟩) := ((hd 8 (by kernel_rfl)).2 46 (by kernel_rfl)).trans (hV 8 (by decide) (hd 8 (by kernel_rfl)).1)
            refine Or.inl ⟨hV 7 (by decide) (hd 7 (by kernel_rfl)).1, ?_⟩
            clear hd hs
            exact outcome_value (v := .pointer (some ⟨x, 0, none⟩)) (by simp [go_sem, s46]) (hn 9 _ (by decide) rfl)
          refine And.intro ?_ ?_
          · intro L V ρ w' hI hk5 hc hf hd hs
            have h5 : L 5 = true := hI.after (j := 9) (by decide) (hd 9 (by kernel_rfl)).1
            obtain ⟨e', ⟨hE, hK⟩, h5v, hV, hn⟩ := hI.get h5
            have s47 : ρ (.tmp 47) = .pointer (some ⟨x, 0, none⟩) := ((hd 9 (by kernel_rfl)).2 47 (by kernel_rfl)).trans (hV 9 (by decide) (hd 9 (by kernel_rfl)).1)
            refine Or.inl ⟨hV 7 (by decide) (hd 7 (by kernel_rfl)).1, ?_⟩
            clear hd hs
            exact outcome_value (v := .pointer (some ⟨x, 0, none⟩)) (by simp [go_sem, s47]) (hn 10 _ (by decide) rfl)
          refine And.intro ?_ ?_
          · intro L V ρ w' hI hk5 hc hf hd hs
            have h5 : L 5 = true := hI.after (j := 10) (by decide) (hd 10 (by kernel_rfl)).1
            obtain ⟨e', ⟨hE, hK⟩, h5v, hV, hn⟩ := hI.get h5
            have s48 : ρ (.tmp 48) = .pointer (some ⟨x, 0, none⟩) := ((hd 10 (by kernel_rfl)).2 48 (by kernel_rfl)).trans (hV 10 (by decide) (hd 10 (by kernel_rfl)).1)
            refine Or.inl ⟨hV 7 (by decide) (hd 7 (by kernel_rfl)).1, ?_⟩
            clear hd hs
            have hcell := hE.x.s0
            exact outcome_value (v := .pointer (some ⟨e'.s, 0, none⟩)) (by simp [go_sem, s48, hcell]) (hn 11 _ (by decide) rfl)
          refine And.intro ?_ ?_
          · intro L V ρ w' hI hk5 hc hf hd hs
            have h5 : L 5 = true := hI.after (j := 11) (by decide) (hd 11 (by kernel_rfl)).1
            obtain ⟨e', ⟨hE, hK⟩, h5v, hV, hn⟩ := hI.get h5
            have s49 : ρ (.tmp 49) = .pointer (some ⟨e'.s, 0, none⟩) := ((hd 11 (by kernel_rfl)).2 49 (by kernel_rfl)).trans (hV 11 (by decide) (hd 11 (by kernel_rfl)).1)
            refine Or.inl ⟨hV 7 (by decide) (hd 7 (by kernel_rfl)).1, ?_⟩
            clear hd hs
            refine outcome_enter (w := w') (f := 15) (args := #[.pointer (some ⟨e'.s, 0, none⟩)]) (by simp [go_sem, hf, s49]) ?_
            refine (left_p hE.p).mono ?_
            rintro r1 w5 ⟨rfl, rfl⟩
            exact ⟨_, rfl, hn 12 _ (by decide) rfl⟩
          refine And.intro ?_ ?_
          · intro L V ρ w' hI hk5 hc hf hd hs
            have h5 : L 5 = true := hI.after (j := 7) (by decide) (hd 7 (by kernel_rfl)).1
            obtain ⟨e', ⟨hE, hK⟩, h5v, hV, hn⟩ := hI.get h5
            have s3 : ρ (.tmp 3) = .pointer (some ⟨x, 0, none⟩) := hs 3 (by kernel_rfl)
            refine Or.inl ⟨hV 7 (by decide) (hd 7 (by kernel_rfl)).1, ?_⟩
            clear hd hs
            rw [BigFrame.run_move (.tmp 3) rfl]
            exact hn 13 _ (by decide) s3
          refine And.intro ?_ ?_
          · intro L V ρ w' hI hk5 hc hf hd hs
            have h5 : L 5 = true := hI.after (j := 13) (by decide) (hd 13 (by kernel_rfl)).1
            obtain ⟨e', ⟨hE, hK⟩, h5v, hV, hn⟩ := hI.get h5
            have s51 : ρ (.tmp 51) = .pointer (some ⟨x, 0, none⟩) := ((hd 13 (by kernel_rfl)).2 51 (by kernel_rfl)).trans (hV 13 (by decide) (hd 13 (by kernel_rfl)).1)
            refine Or.inl ⟨hV 7 (by decide) (hd 7 (by kernel_rfl)).1, ?_⟩
            clear hd hs
            exact outcome_value (v := .pointer (some ⟨x, 0, none⟩)) (by simp [go_sem, s51]) (hn 14 _ (by decide) rfl)
          refine And.intro ?_ ?_
          · intro L V ρ w' hI hk5 hc hf hd hs
            have h5 : L 5 = true := hI.after (j := 14) (by decide) (hd 14 (by kernel_rfl)).1
            obtain ⟨e', ⟨hE, hK⟩, h5v, hV, hn⟩ := hI.get h5
            have s52 : ρ (.tmp 52) = .pointer (some ⟨x, 0, none⟩) := ((hd 14 (by kernel_rfl)).2 52 (by kernel_rfl)).trans (hV 14 (by decide) (hd 14 (by kernel_rfl)).1)
            refine Or.inl ⟨hV 7 (by decide) (hd 7 (by kernel_rfl)).1, ?_⟩
            clear hd hs
            exact outcome_value (v := .pointer (some ⟨x, 2, none⟩)) (by simp [go_sem, s52]) (hn 15 _ (by decide) rfl)
          refine And.intro ?_ ?_
          · intro L V ρ w' hI hk5 hc hf hd hs
            have h5 : L 5 = true := hI.after (j := 15) (by decide) (hd 15 (by kernel_rfl)).1
            obtain ⟨e', ⟨hE, hK⟩, h5v, hV, hn⟩ := hI.get h5
            have s53 : ρ (.tmp 53) = .pointer (some ⟨x, 2, none⟩) := ((hd 15 (by kernel_rfl)).2 53 (by kernel_rfl)).trans (hV 15 (by decide) (hd 15 (by kernel_rfl)).1)
            refine Or.inl ⟨hV 7 (by decide) (hd 7 (by kernel_rfl)).1, ?_⟩
            clear hd hs
            exact outcome_value (v := .pointer (some ⟨x, 2, none⟩)) (by simp [go_sem, s53]) (hn 16 _ (by decide) rfl)
          refine And.intro ?_ ?_
          · intro L V ρ w' hI hk5 hc hf hd hs
            have h5 : L 5 = true := hI.after (j := 16) (by decide) (hd 16 (by kernel_rfl)).1
            obtain ⟨e', ⟨hE, hK⟩, h5v, hV, hn⟩ := hI.get h5
            have s54 : ρ (.tmp 54) = .pointer (some ⟨x, 2, none⟩) := ((hd 16 (by kernel_rfl)).2 54 (by kernel_rfl)).trans (hV 16 (by decide) (hd 16 (by kernel_rfl)).1)
            refine Or.inl ⟨hV 7 (by decide) (hd 7 (by kernel_rfl)).1, ?_⟩
            clear hd hs
            have hcell := hE.x.l2
            exact outcome_value (v := e'.vL) (by simp [go_sem, s54, hcell]) (hn 17 _ (by decide) rfl)
          refine And.intro ?_ ?_
          · intro L V ρ w' hI hk5 hc hf hd hs
            have h5 : L 5 = true := hI.after (j := 17) (by decide) (hd 17 (by kernel_rfl)).1
            obtain ⟨e', ⟨hE, hK⟩, h5v, hV, hn⟩ := hI.get h5
            have s55 : ρ (.tmp 55) = e'.vL := ((hd 17 (by kernel_rfl)).2 55 (by kernel_rfl)).trans (hV 17 (by decide) (hd 17 (by kernel_rfl)).1)
            refine Or.inl ⟨hV 7 (by decide) (hd 7 (by kernel_rfl)).1, ?_⟩
            clear hd hs
            obtain ⟨pL, cL, eL⟩ := hE.x.ds.l.slice
            rw [eL, show e'.L.length = esL e' from rfl] at s55
            exact outcome_value (v := .int .i64 (esL e' : Int)) (by simp [go_sem, s55]) (hn 18 _ (by decide) rfl)
          refine And.intro ?_ ?_
          · intro L V ρ w' hI hk5 hc hf hd hs
            have h5 : L 5 = true := hI.after (j := 7) (by decide) (hd 7 (by kernel_rfl)).1
            obtain ⟨e', ⟨hE, hK⟩, h5v, hV, hn⟩ := hI.get h5
            have s3 : ρ (.tmp 3) = .pointer (some ⟨x, 0, none⟩) := hs 3 (by kernel_rfl)
            refine Or.inl ⟨hV 7 (by decide) (hd 7 (by kernel_rfl)).1, ?_⟩
            clear hd hs
            rw [BigFrame.run_move (.tmp 3) rfl]
            exact hn 19 _ (by decide) s3
          refine And.intro ?_ ?_
          · intro L V ρ w' hI hk5 hc hf hd hs
            have h5 : L 5 = true := hI.after (j := 19) (by decide) (hd 19 (by kernel_rfl)).1
            obtain ⟨e', ⟨hE, hK⟩, h5v, hV, hn⟩ := hI.get h5
            have s57 : ρ (.tmp 57) = .pointer (some ⟨x, 0, none⟩) := ((hd 19 (by kernel_rfl)).2 57 (by kernel_rfl)).trans (hV 19 (by decide) (hd 19 (by kernel_rfl)).1)
            refine Or.inl ⟨hV 7 (by decide) (hd 7 (by kernel_rfl)).1, ?_⟩
            clear hd hs
            exact outcome_value (v := .pointer (some ⟨x, 0, none⟩)) (by simp [go_sem, s57]) (hn 20 _ (by decide) rfl)
          refine And.intro ?_ ?_
          · intro L V ρ w' hI hk5 hc hf hd hs
            have h5 : L 5 = true := hI.after (j := 20) (by decide) (hd 20 (by kernel_rfl)).1
            obtain ⟨e', ⟨hE, hK⟩, h5v, hV, hn⟩ := hI.get h5
            have s58 : ρ (.tmp 58) = .pointer (some ⟨x, 0, none⟩) := ((hd 20 (by kernel_rfl)).2 58 (by kernel_rfl)).trans (hV 20 (by decide) (hd 20 (by kernel_rfl)).1)
            refine Or.inl ⟨hV 7 (by decide) (hd 7 (by kernel_rfl)).1, ?_⟩
            clear hd hs
            exact outcome_value (v := .pointer (some ⟨x, 2, none⟩)) (by simp [go_sem, s58]) (hn 21 _ (by decide) rfl)
          refine And.intro ?_ ?_
          · intro L V ρ w' hI hk5 hc hf hd hs
            have h5 : L 5 = true := hI.after (j := 21) (by decide) (hd 21 (by kernel_rfl)).1
            obtain ⟨e', ⟨hE, hK⟩, h5v, hV, hn⟩ := hI.get h5
            have s59 : ρ (.tmp 59) = .pointer (some ⟨x, 2, none⟩) := ((hd 21 (by kernel_rfl)).2 59 (by kernel_rfl)).trans (hV 21 (by decide) (hd 21 (by kernel_rfl)).1)
            refine Or.inl ⟨hV 7 (by decide) (hd 7 (by kernel_rfl)).1, ?_⟩
            clear hd hs
            exact outcome_value (v := .pointer (some ⟨x, 3, none⟩)) (by simp [go_sem, s59]) (hn 22 _ (by decide) rfl)
          refine And.intro ?_ ?_
          · intro L V ρ w' hI hk5 hc hf hd hs
            have h5 : L 5 = true := hI.after (j := 22) (by decide) (hd 22 (by kernel_rfl)).1
            obtain ⟨e', ⟨hE, hK⟩, h5v, hV, hn⟩ := hI.get h5
            have s60 : ρ (.tmp 60) = .pointer (some ⟨x, 3, none⟩) := ((hd 22 (by kernel_rfl)).2 60 (by kernel_rfl)).trans (hV 22 (by decide) (hd 22 (by kernel_rfl)).1)
            refine Or.inl ⟨hV 7 (by decide) (hd 7 (by kernel_rfl)).1, ?_⟩
            clear hd hs
            have hcell := hE.x.b3
            exact outcome_value (v := .int .i64 (e'.b : Int)) (by simp [go_sem, s60, hcell]) (hn 23 _ (by decide) rfl)
          refine And.intro ?_ ?_
          · intro L V ρ w' hI hk5 hc hf hd hs
            have h5 : L 5 = true := hI.after (j := 18) (by decide) (hd 18 (by kernel_rfl)).1
            obtain ⟨e', ⟨hE, hK⟩, h5v, hV, hn⟩ := hI.get h5
            have s56 : ρ (.tmp 56) = .int .i64 (esL e' : Int) := ((hd 18 (by kernel_rfl)).2 56 (by kernel_rfl)).trans (hV 18 (by decide) (hd 18 (by kernel_rfl)).1)
            have s61 : ρ (.tmp 61) = .int .i64 (e'.b : Int) := ((hd 23 (by kernel_rfl)).2 61 (by kernel_rfl)).trans (hV 23 (by decide) (hd 23 (by kernel_rfl)).1)
            refine Or.inl ⟨hV 7 (by decide) (hd 7 (by kernel_rfl)).1, ?_⟩
            clear hd hs
            obtain ⟨hsub, hwq⟩ := es_sub hE.i (by omega)
            exact outcome_value (v := .int .i64 (esd e' : Int)) (by simp [go_sem, s56, s61, hsub, hwq]) (hn 24 _ (by decide) rfl)
          refine And.intro ?_ ?_
          · intro L V ρ w' hI hk5 hc hf hd hs
            have h5 : L 5 = true := hI.after (j := 24) (by decide) (hd 24 (by kernel_rfl)).1
            obtain ⟨e', ⟨hE, hK⟩, h5v, hV, hn⟩ := hI.get h5
            have s50 : ρ (.tmp 50) = .int .i64 (esd e' : Int) := ((hd 12 (by kernel_rfl)).2 50 (by kernel_rfl)).trans (hV 12 (by decide) (hd 12 (by kernel_rfl)).1)
            have s62 : ρ (.tmp 62) = .int .i64 (esd e' : Int) := ((hd 24 (by kernel_rfl)).2 62 (by kernel_rfl)).trans (hV 24 (by decide) (hd 24 (by kernel_rfl)).1)
            refine Or.inl ⟨hV 7 (by decide) (hd 7 (by kernel_rfl)).1, ?_⟩
            clear hd hs
            exact outcome_value (v := .bool false) (by simp [go_sem, s50, s62]) (hn 25 _ (by decide) rfl)
          refine And.intro ?_ ?_
          · intro L V ρ w' hI hk5 hc hf hd hs
            have h5 : L 5 = true := hI.after (j := 25) (by decide) (hd 25 (by kernel_rfl)).1
            obtain ⟨e', ⟨hE, hK⟩, h5v, hV, hn⟩ := hI.get h5
            have s45 : ρ (.tmp 45) = .bool false := ((hd 7 (by kernel_rfl)).2 45 (by kernel_rfl)).trans (hV 7 (by decide) (hd 7 (by kernel_rfl)).1)
            have s63 : ρ (.tmp 63) = .bool false := ((hd 25 (by kernel_rfl)).2 63 (by kernel_rfl)).trans (hV 25 (by decide) (hd 25 (by kernel_rfl)).1)
            clear hd hs
            exact outcome_value (v := .bool false) (by simp [go_sem, hc, s45, s63]) (hn 26 _ (by decide) rfl)
          refine And.intro ?_ ?_
          · intro L V ρ w' hI hk5 hc hf hd hs
            have h5 : L 5 = true := hI.after (j := 26) (by decide) (hd 26 (by kernel_rfl)).1
            obtain ⟨e', ⟨hE, hK⟩, h5v, hV, hn⟩ := hI.get h5
            have s64 : ρ (.tmp 64) = .bool false := ((hd 26 (by kernel_rfl)).2 64 (by kernel_rfl)).trans (hV 26 (by decide) (hd 26 (by kernel_rfl)).1)
            clear hd hs
            rw [BigFrame.run_move (.tmp 64) rfl]
            exact hn 27 _ (by decide) s64
          refine And.intro ?_ ?_
          · intro L V ρ w' hI hk5 hc hf hd hs
            have h5 : L 5 = true := hI.after (j := 27) (by decide) (hd 27 (by kernel_rfl)).1
            obtain ⟨e', ⟨hE, hK⟩, h5v, hV, hn⟩ := hI.get h5
            have s3 : ρ (.tmp 3) = .pointer (some ⟨x, 0, none⟩) := hs 3 (by kernel_rfl)
            refine Or.inl ⟨hV 27 (by decide) (hd 27 (by kernel_rfl)).1, ?_⟩
            clear hd hs
            rw [BigFrame.run_move (.tmp 3) rfl]
            exact hn 28 _ (by decide) s3
          refine And.intro ?_ ?_
          · intro L V ρ w' hI hk5 hc hf hd hs
            have h5 : L 5 = true := hI.after (j := 28) (by decide) (hd 28 (by kernel_rfl)).1
            obtain ⟨e', ⟨hE, hK⟩, h5v, hV, hn⟩ := hI.get h5
            have s66 : ρ (.tmp 66) = .pointer (some ⟨x, 0, none⟩) := ((hd 28 (by kernel_rfl)).2 66 (by kernel_rfl)).trans (hV 28 (by decide) (hd 28 (by kernel_rfl)).1)
            refine Or.inl ⟨hV 27 (by decide) (hd 27 (by kernel_rfl)).1, ?_⟩
            clear hd hs
            exact outcome_value (v := .pointer (some ⟨x, 0, none⟩)) (by simp [go_sem, s66]) (hn 29 _ (by decide) rfl)
          refine And.intro ?_ ?_
          · intro L V ρ w' hI hk5 hc hf hd hs
            have h5 : L 5 = true := hI.after (j := 29) (by decide) (hd 29 (by kernel_rfl)).1
            obtain ⟨e', ⟨hE, hK⟩, h5v, hV, hn⟩ := hI.get h5
            have s67 : ρ (.tmp 67) = .pointer (some ⟨x, 0, none⟩) := ((hd 29 (by kernel_rfl)).2 67 (by kernel_rfl)).trans (hV 29 (by decide) (hd 29 (by kernel_rfl)).1)
            refine Or.inl ⟨hV 27 (by decide) (hd 27 (by kernel_rfl)).1, ?_⟩
            clear hd hs
            exact outcome_value (v := .pointer (some ⟨x, 1, none⟩)) (by simp [go_sem, s67]) (hn 30 _ (by decide) rfl)
          refine And.intro ?_ ?_
          · intro L V ρ w' hI hk5 hc hf hd hs
            have h5 : L 5 = true := hI.after (j := 30) (by decide) (hd 30 (by kernel_rfl)).1
            obtain ⟨e', ⟨hE, hK⟩, h5v, hV, hn⟩ := hI.get h5
            have s68 : ρ (.tmp 68) = .pointer (some ⟨x, 1, none⟩) := ((hd 30 (by kernel_rfl)).2 68 (by kernel_rfl)).trans (hV 30 (by decide) (hd 30 (by kernel_rfl)).1)
            refine Or.inl ⟨hV 27 (by decide) (hd 27 (by kernel_rfl)).1, ?_⟩
            clear hd hs
            have hcell := hE.x.r1
            exact outcome_value (v := .pointer (some ⟨e'.r, 0, none⟩)) (by simp [go_sem, s68, hcell]) (hn 31 _ (by decide) rfl)
          refine And.intro ?_ ?_
          · intro L V ρ w' hI hk5 hc hf hd hs
            have h5 : L 5 = true := hI.after (j := 31) (by decide) (hd 31 (by kernel_rfl)).1
            obtain ⟨e', ⟨hE, hK⟩, h5v, hV, hn⟩ := hI.get h5
            have s69 : ρ (.tmp 69) = .pointer (some ⟨e'.r, 0, none⟩) := ((hd 31 (by kernel_rfl)).2 69 (by kernel_rfl)).trans (hV 31 (by decide) (hd 31 (by kernel_rfl)).1)
            refine Or.inl ⟨hV 27 (by decide) (hd 27 (by kernel_rfl)).1, ?_⟩
            clear hd hs
            refine outcome_enter (w := w') (f := 14) (args := #[.pointer (some ⟨e'.r, 0, none⟩)]) (by simp [go_sem, hf, s69]) ?_
            refine (came_p hE.p (by have := hE.i.nN; omega)).mono ?_
            rintro r1 w5 ⟨rfl, rfl⟩
            exact ⟨_, rfl, hn 32 _ (by decide) rfl⟩
          refine And.intro ?_ ?_
          · intro L V ρ w' hI hk5 hc hf hd hs
            have h5 : L 5 = true := hI.after (j := 27) (by decide) (hd 27 (by kernel_rfl)).1
            obtain ⟨e', ⟨hE, hK⟩, h5v, hV, hn⟩ := hI.get h5
            have s3 : ρ (.tmp 3) = .pointer (some ⟨x, 0, none⟩) := hs 3 (by kernel_rfl)
            refine Or.inl ⟨hV 27 (by decide) (hd 27 (by kernel_rfl)).1, ?_⟩
            clear hd hs
            rw [BigFrame.run_move (.tmp 3) rfl]
            exact hn 33 _ (by decide) s3
          refine And.intro ?_ ?_
          · intro L V ρ w' hI hk5 hc hf hd hs
            have h5 : L 5 = true := hI.after (j := 33) (by decide) (hd 33 (by kernel_rfl)).1
            obtain ⟨e', ⟨hE, hK⟩, h5v, hV, hn⟩ := hI.get h5
            have s71 : ρ (.tmp 71) = .pointer (some ⟨x, 0, none⟩) := ((hd 33 (by kernel_rfl)).2 71 (by kernel_rfl)).trans (hV 33 (by decide) (hd 33 (by kernel_rfl)).1)
            refine Or.inl ⟨hV 27 (by decide) (hd 27 (by kernel_rfl)).1, ?_⟩
            clear hd hs
            exact outcome_value (v := .pointer (some ⟨x, 0, none⟩)) (by simp [go_sem, s71]) (hn 34 _ (by decide) rfl)
          refine And.intro ?_ ?_
          · intro L V ρ w' hI hk5 hc hf hd hs
            have h5 : L 5 = true := hI.after (j := 34) (by decide) (hd 34 (by kernel_rfl)).1
            obtain ⟨e', ⟨hE, hK⟩, h5v, hV, hn⟩ := hI.get h5
            have s72 : ρ (.tmp 72) = .pointer (some ⟨x, 0, none⟩) := ((hd 34 (by kernel_rfl)).2 72 (by kernel_rfl)).trans (hV 34 (by decide) (hd 34 (by kernel_rfl)).1)
            refine Or.inl ⟨hV 27 (by decide) (hd 27 (by kernel_rfl)).1, ?_⟩
            clear hd hs
            exact outcome_value (v := .pointer (some ⟨x, 6, none⟩)) (by simp [go_sem, s72]) (hn 35 _ (by decide) rfl)
          refine And.intro ?_ ?_
          · intro L V ρ w' hI hk5 hc hf hd hs
            have h5 : L 5 = true := hI.after (j := 35) (by decide) (hd 35 (by kernel_rfl)).1
            obtain ⟨e', ⟨hE, hK⟩, h5v, hV, hn⟩ := hI.get h5
            have s73 : ρ (.tmp 73) = .pointer (some ⟨x, 6, none⟩) := ((hd 35 (by kernel_rfl)).2 73 (by kernel_rfl)).trans (hV 35 (by decide) (hd 35 (by kernel_rfl)).1)
            refine Or.inl ⟨hV 27 (by decide) (hd 27 (by kernel_rfl)).1, ?_⟩
            clear hd hs
            exact outcome_value (v := .pointer (some ⟨x, 6, none⟩)) (by simp [go_sem, s73]) (hn 36 _ (by decide) rfl)
          refine And.intro ?_ ?_
          · intro L V ρ w' hI hk5 hc hf hd hs
            have h5 : L 5 = true := hI.after (j := 36) (by decide) (hd 36 (by kernel_rfl)).1
            obtain ⟨e', ⟨hE, hK⟩, h5v, hV, hn⟩ := hI.get h5
            have s74 : ρ (.tmp 74) = .pointer (some ⟨x, 6, none⟩) := ((hd 36 (by kernel_rfl)).2 74 (by kernel_rfl)).trans (hV 36 (by decide) (hd 36 (by kernel_rfl)).1)
            refine Or.inl ⟨hV 27 (by decide) (hd 27 (by kernel_rfl)).1, ?_⟩
            clear hd hs
            have hcell := hE.x.n6
            exact outcome_value (v := .int .i64 (e'.N : Int)) (by simp [go_sem, s74, hcell]) (hn 37 _ (by decide) rfl)
          refine And.intro ?_ ?_
          · intro L V ρ w' hI hk5 hc hf hd hs
            have h5 : L 5 = true := hI.after (j := 37) (by decide) (hd 37 (by kernel_rfl)).1
            obtain ⟨e', ⟨hE, hK⟩, h5v, hV, hn⟩ := hI.get h5
            have s70 : ρ (.tmp 70) = .int .i64 (e'.N : Int) := ((hd 32 (by kernel_rfl)).2 70 (by kernel_rfl)).trans (hV 32 (by decide) (hd 32 (by kernel_rfl)).1)
            have s75 : ρ (.tmp 75) = .int .i64 (e'.N : Int) := ((hd 37 (by kernel_rfl)).2 75 (by kernel_rfl)).trans (hV 37 (by decide) (hd 37 (by kernel_rfl)).1)
            refine Or.inl ⟨hV 27 (by decide) (hd 27 (by kernel_rfl)).1, ?_⟩
            clear hd hs
            exact outcome_value (v := .bool false) (by simp [go_sem, s70, s75]) (hn 38 _ (by decide) rfl)
          refine And.intro ?_ ?_
          · intro L V ρ w' hI hk5 hc hf hd hs
            have h5 : L 5 = true := hI.after (j := 38) (by decide) (hd 38 (by kernel_rfl)).1
            obtain ⟨e', ⟨hE, hK⟩, h5v, hV, hn⟩ := hI.get h5
            have s65 : ρ (.tmp 65) = .bool false := ((hd 27 (by kernel_rfl)).2 65 (by kernel_rfl)).trans (hV 27 (by decide) (hd 27 (by kernel_rfl)).1)
            have s76 : ρ (.tmp 76) = .bool false := ((hd 38 (by kernel_rfl)).2 76 (by kernel_rfl)).trans (hV 38 (by decide) (hd 38 (by kernel_rfl)).1)
            clear hd hs
            exact outcome_value (v := .bool false) (by simp [go_sem, hc, s65, s76]) (hn 39 _ (by decide) rfl)
          exact trivial
        case hend =>
          intro L V w13 hL hI
          obtain ⟨e', ⟨hE, hK⟩, _, hV, _⟩ := hI.get (hL 5 (by decide))
          have v39 : V 39 = .bool false := hV 39 (by decide) (hL 39 (by decide))
          have E5 := hid hE
          have B5 := hid (BB.out.trans (hK.below BB.out.size))
          simp only [lexF, Act.put, List.setIfInBounds_toArray, List.set_cons_zero, List.set_cons_succ]
          clear hI hL hE hK hV
          rw [v39]
          clear v39
          go_wp2
          go_roundg (80 - (k + 1))
          case measure => omega
          case rel => exact ⟨k + 1, e', by go_num, rfl, by omega, E5, B5⟩
    · by_cases hk1 : k < n
      · have hk1i : (k : Int) < (n : Int) := by omega
        have hk2i : ¬ (k : Int) < 80 := by omega
        go_wp2_with (go_at_call 13; refine (alive_c _).mono ?_; rintro e w8 ⟨rfl, hb8⟩; have B8 := hid hb8; clear hb8)
        go_ret
        exact ⟨rfl, BB.out.trans (B8.out.mono BB.out.size)⟩
      · have hk1i : ¬ (k : Int) < (n : Int) := by omega
        go_wp2_with (go_at_call 13; refine (alive_c _).mono ?_; rintro e w8 ⟨rfl, hb8⟩; have B8 := hid hb8; clear hb8)
        go_ret
        exact ⟨rfl, BB.out.trans (B8.out.mono BB.out.size)⟩
end Go.Proofs.Ytkehejkjifgieaa
