/- WindowOnce: the walk. -/
import Derived.Test.YtkehejkjifgieaaPick
namespace Go.Proofs.Ytkehejkjifgieaa
open Go.RowKit Go.ChangeMaps

set_option maxRecDepth 100000 in
set_option maxHeartbeats 4000000 in
theorem once_walk {w : World} {p : Option Addr} {n cap : Nat} {X : Nat → List W8} {pf : Option Addr} {nf cf : Nat} (hn : n ≤ maxLen) (hP : Parts w p n X) (hnf : nf ≤ maxLen) (hF : Fates w pf nf) :
    Calls Try.prog 6 #[.slice p n cap, .slice pf nf cf] w fun e w' => e = .returned (.bool true) ∧ Below w.heap.size w w' := by
  have HP := hid hP
  have HF := hid hF
  have hn' : n ≤ 9223372036854775807 := by simpa [maxLen] using hn
  have hnf' : nf ≤ 9223372036854775807 := by simpa [maxLen] using hnf
  clear hP hn hF hnf
  go_enter Try.func6, Try.ntmps6
  go_upto_region 4 with (first
    | (go_at_call 8; refine (newReceiver_c w1).mono ?_; rintro e w2 ⟨r, mc, rfl, hR, hb2⟩; have P2 := hid (PR.start S1.out hR hb2 B1.out.size); have B2 := hid (B1.out.trans (hb2.mono B1.out.size)); clear hR hb2)
    | (go_at_call 7; refine (newSender_c w).mono ?_; rintro e w1 ⟨s, t, mb, sv, rfl, hS, hb1⟩; have S1 := hid hS; have B1 := hid hb1; clear hS hb1))
  go_upto_region 5 with fail
  have R0 := hid (R4.start w2 P2.out.size)
  have LZ := hid (show Below w2.heap.size w2 ((((w2.alloc (.cells #[] 9)).alloc (.cells #[] 9)).alloc (.cells #[] 9)).alloc (.cells #[] 9)) from ((((Below.refl _ _).alloc (Nat.le_refl _) _).alloc (by simp) _).alloc (by simp; omega) _).alloc (by simp; omega) _)
  have PZ := hid (P2.out.below LZ.out)
  have BZ := hid (B2.out.trans (LZ.out.mono B2.out.size))
  obtain ⟨wz, hwz⟩ : ∃ wz, wz = (((w2.alloc (.cells #[] 9)).alloc (.cells #[] 9)).alloc (.cells #[] 9)).alloc (.cells #[] 9) := ⟨_, rfl⟩
  rw [← hwz] at R0 LZ PZ BZ
  rw [← hwz]
  clear hwz
  obtain ⟨ga, hga⟩ : ∃ g, g = w2.heap.size + 1 + 1 + 1 := ⟨_, rfl⟩
  rw [← hga] at R0
  rw [← hga]
  clear hga
  obtain ⟨g9, hg9⟩ : ∃ g, g = w2.heap.size + 1 + 1 := ⟨_, rfl⟩
  rw [← hg9] at R0
  rw [← hg9]
  clear hg9
  obtain ⟨g8, hg8⟩ : ∃ g, g = w2.heap.size + 1 := ⟨_, rfl⟩
  rw [← hg8] at R0
  rw [← hg8]
  clear hg8
  obtain ⟨g7, hg7⟩ : ∃ g, g = w2.heap.size := ⟨_, rfl⟩
  rw [← hg7] at R0
  rw [← hg7]
  clear hg7
  go_upto_block 0 with fail
  go_cut [7] from 11 to 60 (fun v7 wr => ∃ P : List (List W8), P.length ≤ 60 ∧ Hid (∀ m ∈ P, m.length ≤ 500) ∧ Hid (R4 wr w.heap.size v7 (.slice (some ⟨g8, 0, none⟩) 0 0) (.slice (some ⟨g9, 0, none⟩) 0 0) (.slice (some ⟨ga, 0, none⟩) 0 0) P [] [] []) ∧ Hid (PR wr w.heap.size s t mb r mc P 0 [] 0 (fun _ => none)) ∧ Hid (Below w.heap.size w wr))
  case first =>
    go_wp2_with fail
    go_loopg [7, 11] 60 (fun g v7 v11 wr => ∃ (k : Nat) (P : List (List W8)), v11 = .int .i64 k ∧ g = 60 - k ∧ k ≤ 60 ∧ P.length ≤ k ∧ Hid (∀ m ∈ P, m.length ≤ 500) ∧ Hid (R4 wr w.heap.size v7 (.slice (some ⟨g8, 0, none⟩) 0 0) (.slice (some ⟨g9, 0, none⟩) 0 0) (.slice (some ⟨ga, 0, none⟩) 0 0) P [] [] []) ∧ Hid (PR wr w.heap.size s t mb r mc P 0 [] 0 (fun _ => none)) ∧ Hid (Below w.heap.size w wr))
    case atStart => exact ⟨0, [], rfl, rfl, by omega, Nat.le_refl _, hid (fun m hm => by cases hm), R0, PZ, BZ⟩
    case round =>
      obtain ⟨k, P, rfl, hg, hk, hPk, HL, HR4, HR, HB⟩ := hrel
      by_cases hkn : k < n ∧ k < 60
      · obtain ⟨hk1, hk2⟩ := hkn
        have hk1i : (k : Int) < (n : Int) := by omega
        have hk2i : (k : Int) < 60 := by omega
        obtain ⟨b, off, pv, nv, cv, rfl, hc, hB⟩ := parts_cell1 (HP.out.below HB.out) hk1
        have CP := hid (put_p HR.out hB (by omega))
        have hbl := (by obtain ⟨b', off', V, e1, e2, _⟩ := (HP.out.below HB.out) k hk1; cases e1; exact e2 : b < wr.heap.size)
        clear hB
        by_cases h5 : 500 < (X k).length
        · rw [show putM P (X k) = (4, P) from if_pos h5] at CP
          dsimp only at CP
          go_wp2_with (go_at_call 9; refine CP.out.mono ?_; rintro e w3 ⟨rfl, hP3, hK3⟩; have P3 := hid hP3; have B3 := hid (HB.out.trans (hK3.below HR.out.size)); have R3 := hid (HR4.out.kp hK3 (by decide)); clear hP3 hK3)
          go_roundg (60 - (k + 1))
          case measure => omega
          case rel => exact ⟨k + 1, P, by go_num, rfl, by omega, by omega, HL, R3, P3, B3⟩
        · rw [show putM P (X k) = (0, P ++ [X k]) from (if_neg h5).trans (if_neg (by omega))] at CP
          dsimp only at CP
          have HL' := hid (show ∀ m ∈ P ++ [X k], m.length ≤ 500 from fun m hm => by
            rcases List.mem_append.1 hm with hm | hm
            · exact HL.out m hm
            · rw [List.mem_singleton] at hm; rw [hm]; omega)
          go_upto_region 9 with (go_at_call 9; refine CP.out.mono ?_; rintro e w3 ⟨rfl, hP3, hK3⟩; have P3 := hid hP3; have B3 := hid (HB.out.trans (hK3.below HR.out.size)); have R3 := hid (HR4.out.kp hK3 (by decide)); clear hP3 hK3)
          clear CP hc
          obtain ⟨b3, off3, pv3, nv3, cv3, e3, hc3, hB3⟩ := parts_cell1 (HP.out.below B3.out) hk1
          cases e3
          have hcv := conv_str' hB3
          have hbl3 := (by obtain ⟨b', off', V, e1, e2, _⟩ := (HP.out.below B3.out) k hk1; cases e1; exact e2 : b < w3.heap.size)
          clear hB3
          obtain ⟨p7, c7, h7⟩ := R3.out.r7.slice
          subst h7
          go_wp2_with (at_builtin; refine wpList_push rfl (.tmp 53) (.tmp 59) 40 9 rfl Try.underlying40 info_string rfl (by decide) rfl rfl (Rw.alloc R3.out.r7 _) ((Blk.new _ _ _).cellv rfl) rfl (by rw [List.length_map]; omega) (by have := B3.out.size; simp; omega) ?_; intro v6 w6 R6 N6 o6; have P6 := hid R6; have N6' := hid N6; have O6 := hid o6; clear R6 N6 o6)
          have LA := hid (show Below w3.heap.size w3 (w3.alloc (.cells #[.string (str (X k))] 9)) from (Below.refl _ _).alloc (Nat.le_refl _) _)
          have RA3 := hid (R3.out.below LA.out)
          have R6 := hid (RA3.out.push7 P6.out N6'.out O6.out)
          have PR6 := hid ((P3.out.below LA.out).strings RA3.out.r7 N6'.out)
          have B6 := hid ((B3.out.trans (LA.out.mono B3.out.size)).trans (Mod.strings RA3.out.r7 N6'.out (Nat.le_refl _) (by have := B3.out.size; have := LA.out.size; omega)))
          go_roundg (60 - (k + 1))
          case measure => omega
          case rel => exact ⟨k + 1, P ++ [X k], by go_num, rfl, by omega, by rw [List.length_append]; simp; omega, HL', R6, PR6, B6⟩
      · by_cases hk1 : k < n
        · have hk1i : (k : Int) < (n : Int) := by omega
          have hk2i : ¬ (k : Int) < 60 := by omega
          go_wp2_with fail
          go_meet
          case rel => exact ⟨P, by omega, HL, HR4, HR, HB⟩
        · have hk1i : ¬ (k : Int) < (n : Int) := by omega
          go_wp2_with fail
          go_meet
          case rel => exact ⟨P, by omega, HL, HR4, HR, HB⟩
  case rest =>
    obtain ⟨P, hP60, HL, HR4, HR, HB⟩ := hcut
    clear HP hn' R0 PZ BZ
    obtain ⟨p7, c7, h7⟩ := HR4.out.r7.slice
    subst h7
    go_upto_block 2 with fail
    go_cut [8] from 9 to 169 (fun v8 wr => ∃ (n : Nat) (v9 va : Value) (D K : List (List W8)), n ≤ P.length ∧ Hid (R4 wr w.heap.size (.slice p7 P.length c7) v8 v9 va P (P.take n) D K) ∧ Hid (Below w.heap.size w wr))
    case first =>
      go_wp2_with fail
      go_loopg [8, 9, 10, 12] 60 (fun g v8 v9 va v12 wr => ∃ i : Nat, v12 = .int .i64 i ∧ g = 60 - i ∧ i ≤ 60 ∧ Hid (OR wr w.heap.size s t mb r mc P (.slice p7 P.length c7) v8 v9 va i) ∧ Hid (Below w.heap.size w wr))
      case atStart => exact ⟨0, rfl, rfl, by omega, hid ⟨0, 0, [], _, [], [], HR.out, HR4.out, (fun x l h => by cases h), Nat.le_refl _, Nat.zero_le _, (fun d hd => by cases hd), (fun d hd => by cases hd), Nat.zero_le _, Nat.zero_le _⟩, HB⟩
      case round =>
        obtain ⟨i, rfl, hg, hi, OO, BB⟩ := hrel
        obtain ⟨b, n, m, A, D, K, hPR, hR4, hRA, hbn, hnP, hD, hK, hDl, hKl⟩ := OO.out
        have QP := hid hPR; have QR := hid hR4; have QA := hid hRA; have QD := hid hD; have QK := hid hK; have QDl := hid hDl; have QKl := hid hKl; have QN := hid (And.intro hbn hnP)
        clear hPR hRA hD hK hDl hKl hbn hnP
        obtain ⟨G, hG⟩ : ∃ G, G = P.take n := ⟨_, rfl⟩
        rw [← hG] at hR4 QR
        have HG := hid hG
        clear hG
        obtain ⟨p8, c8, h8⟩ := hR4.r8.slice
        subst h8
        obtain ⟨p9, c9, h9⟩ := hR4.r9.slice
        subst h9
        obtain ⟨pa, ca, ha⟩ := hR4.ra.slice
        subst ha
        clear hR4
        by_cases hc : i < nf ∧ i < 60
        · obtain ⟨hc1, hc2⟩ := hc
          have hc1i : (i : Int) < (nf : Int) := by omega
          have hc2i : (i : Int) < 60 := by omega
          obtain ⟨bf, off, fd, fa, nw, e0, hbf, f0, f1, f2, hnw⟩ := (HF.out.below BB.out) i hc1
          subst e0
          have CO := hid (out_p QP.out nw hnw)
          have HF2 := hid (fun (W : World) (h : Below w.heap.size w W) => (HF.out.below h) i hc1)
          go_upto_region 14 with (go_at_call 10; refine CO.out.mono ?_; rintro e wo ⟨vo, us, rfl, hU, hm, hPo, hKo⟩; obtain ⟨po, co, hv⟩ := hU.1.slice; rw [List.length_map] at hv; subst hv; have UO := hid hU; have MO := hid hm; have PO := hid hPo; have KO := hid hKo; clear hU hm hPo hKo)
          clear CO f0 f1 f2 hbf
          obtain ⟨m', hm'⟩ : ∃ m', m' = (outL nw b ((P.drop b).take 8) 0 m).2 := ⟨_, rfl⟩
          rw [← hm'] at PO
          clear hm'
          have RO := hid (QR.out.kp KO.out (by decide))
          have BO := hid (BB.out.trans (KO.out.below QP.out.size))
          have DO := hid (show ∀ p ∈ us, isData P p.2 from fun p hp => out_isData (b := b) (now := nw) (m := m) p.2 (by rw [← MO.out]; exact List.mem_map_of_mem hp))
          have LO := hid (show us.length ≤ 8 from by
            have h1 := congrArg List.length MO.out
            rw [List.length_map] at h1
            have h2 := outL_len (now := nw) (b := b) ((P.drop b).take 8) 0 m
            rw [List.length_take] at h2
            omega)
          obtain ⟨q, hq⟩ : ∃ q, q = us.length := ⟨_, rfl⟩
          rw [← hq]
          have HQ := hid hq
          have hq8 : q ≤ 8 := by have := LO.out; omega
          clear hq
          go_wp2_with fail
          go_loopg [9, 14] q (fun g v9 v14 wr' => ∃ (j : Nat) (D' : List (List W8)), v14 = .int .i64 j ∧ g = q - j ∧ j ≤ q ∧ Hid (R4 wr' w.heap.size (.slice p7 P.length c7) (.slice p8 G.length c8) v9 (.slice pa K.length ca) P G D' K) ∧ Hid (∀ d ∈ D', isData P d) ∧ Hid (D'.length ≤ 8 * i + j) ∧ Hid (PR wr' w.heap.size s t mb r mc (P.drop b) b m' n A) ∧ Hid (Us wr' _ (.slice po us.length co) us) ∧ Hid (Below w.heap.size w wr'))
          case atStart => exact ⟨0, D, rfl, rfl, Nat.zero_le _, RO, QD, QDl, PO, UO, BO⟩
          case round =>
            obtain ⟨j, D', rfl, hg2, hj, RJ, DJ, LJ, PJ, UJ, BJ⟩ := hrel
            obtain ⟨p9', c9', h9'⟩ := RJ.out.r9.slice
            subst h9'
            by_cases hjq : j < q
            · have hji : (j : Int) < (q : Int) := by omega
              have hjl : j < us.length := by have := HQ.out; omega
              obtain ⟨gu, capu, eu, hcu, hcell⟩ := UJ.out.1.cell (i := j) (by rw [List.length_map]; exact hjl)
              rw [List.length_map] at eu
              cases eu
              rw [List.getElem_map] at hcell
              have hOx := UJ.out.2 us[j] (List.getElem_mem _)
              obtain ⟨x, hx⟩ : ∃ x, x = us[j] := ⟨_, rfl⟩
              rw [← hx] at hcell hOx
              have hxm := hid (show x ∈ us by rw [hx]; exact List.getElem_mem _)
              obtain ⟨px, cx, hpx⟩ := hOx.slice
              rw [hpx] at hcell hOx
              have hcv := conv_str' hOx.bytes
              have hlen := hid (show (D'.map (fun l => (Value.string (str l)))).length ≤ 1000000 by rw [List.length_map]; have := LJ.out; omega)
              have HJ1 := hid (show j + 1 ≤ q by omega)
              have hgl : gu < wr.heap.size := by obtain ⟨cs, hb⟩ := UJ.out.1.kind (k := gu) rfl; exact hb.lt
              clear hx hOx hpx
              go_wp2_with (at_builtin; refine wpList_push rfl (.tmp 84) (.tmp 90) 40 9 rfl Try.underlying40 info_string rfl (by decide) rfl rfl (Rw.alloc RJ.out.r9 _) ((Blk.new _ _ _).cellv rfl) rfl hlen.out (by have := BJ.out.size; simp; omega) ?_; intro v6 w6 R6 N6 o6; have P6 := hid R6; have N6' := hid N6; have O6 := hid o6; clear R6 N6 o6)
              have LA := hid (show Below wr.heap.size wr (wr.alloc (.cells #[.string (str x.2)] 9)) from (Below.refl _ _).alloc (Nat.le_refl _) _)
              have RA3 := hid (RJ.out.below LA.out)
              have R6 := hid (RA3.out.push9 P6.out N6'.out O6.out)
              have PR6 := hid ((PJ.out.below LA.out).strings RA3.out.r9 N6'.out)
              have U6 := hid ((UJ.out.below LA.out).strings RA3.out.r9 N6'.out)
              have B6 := hid ((BJ.out.trans (LA.out.mono BJ.out.size)).trans (Mod.strings RA3.out.r9 N6'.out (Nat.le_refl _) (by have := BJ.out.size; have := LA.out.size; omega)))
              have D6 := hid (show ∀ d ∈ D' ++ [x.2], isData P d from fun d hd => by
                rcases List.mem_append.1 hd with hd | hd
                · exact DJ.out d hd
                · rw [List.mem_singleton] at hd; rw [hd]; exact DO.out x hxm.out)
              go_roundg (q - (j + 1))
              case measure => omega
              case rel => exact ⟨j + 1, D' ++ [x.2], by go_num, rfl, HJ1.out, R6, D6, hid (by rw [List.length_append]; have := LJ.out; simp; omega), PR6, U6, B6⟩
            · have hji : ¬ (j : Int) < (q : Int) := by omega
              have hjq' : j = q := by omega
              have LD := hid (show D'.length ≤ 8 * (i + 1) by have := LJ.out; omega)
              have HPK := hid (And.intro hc1 hc2)
              obtain ⟨bf2, off2, fd2, fa2, nw2, e2, hbf, f0, f1, f2, hnw2⟩ := HF2.out _ BJ.out
              cases e2
              clear hg2 hj hjq' hjq UJ LJ UO MO RO PO KO DO LO
              have LDD := hid (show ∀ l ∈ D', l.length ≤ 100000 from fun l hl => by
                obtain ⟨k, hk, rfl⟩ := DJ.out l hl
                have h1 := dataB_length k (P.getD k [])
                have h2 : (P.getD k []).length ≤ 500 := by
                  rw [List.getD_eq_getElem?_getD, List.getElem?_eq_getElem hk]
                  exact HL.out _ (List.getElem_mem _)
                omega)
              have CK := hid (pick_any RJ.out.r9 fd2 LDD.out (by have := LD.out; omega))
              go_upto_region 19 with (go_at_call 17; refine CK.out.mono ?_; rintro e w7 ⟨vb, bb, rfl, hd7, hb7⟩; have D7 := hid hd7; have B7 := hid hb7; clear hd7 hb7)
              clear CK f0 f1 f2 hbf
              have R7 := hid (RJ.out.below B7.out)
              have P7 := hid (PJ.out.below B7.out)
              have BB7 := hid (BJ.out.trans (B7.out.mono BJ.out.size))
              clear RJ PJ BJ B7 hnw2
              go_upto_if 102 with fail
              go_cut [8, 10, 17, 18, 19, 20] from 103 to 130 (fun v8 va _ _ _ _ wr => ∃ (n' : Nat) (A' : Int → Option (List W8)) (K' : List (List W8)), Hid (PR wr w.heap.size s t mb r mc (P.drop b) b m' n' A') ∧ Hid (RA P A') ∧ Hid (n ≤ n' ∧ n' ≤ P.length) ∧ Hid (R4 wr w.heap.size (.slice p7 P.length c7) v8 (.slice p9' D'.length c9') va P (P.take n') D' K') ∧ Hid (∀ a ∈ K', isAck n' a) ∧ Hid (K'.length ≤ i + 1) ∧ Hid (Below w.heap.size w wr))
              case first =>
                cases bb with
                | false =>
                  go_wp2_with fail
                  go_meet
                  case rel => exact ⟨n, A, K, P7, QA, hid ⟨Nat.le_refl _, QN.out.2⟩, hid (by rw [← HG.out]; exact R7.out), QK, hid (by have := QKl.out; omega), BB7⟩
                | true =>
                  obtain ⟨d, hdm, hdB⟩ := D7.out rfl
                  obtain ⟨kd, hkd, hde⟩ := DJ.out d hdm
                  have h500 : (P.getD kd []).length ≤ 500 := by
                    rw [List.getD_eq_getElem?_getD, List.getElem?_eq_getElem hkd]
                    exact HL.out _ (List.getElem_mem _)
                  obtain ⟨n', A', e1, e2, e3, e4, e5⟩ := hear_take QA.out QN.out.2 hkd (by omega) h500
                  have CR := hid (rhear_p P7.out (by have := QN.out.2; omega) hdB (LDD.out d hdm))
                  rw [← hde] at e1 e4
                  obtain ⟨told, htold⟩ : ∃ told, told = (rhearM d n A).2.1 := ⟨_, rfl⟩
                  rw [← htold] at e1 e4
                  rw [e1] at CR
                  dsimp only at CR
                  have E2 := hid e2; have E3 := hid e3; have E4 := hid e4; have E5 := hid e5
                  clear htold e1 e2 e3 e4 e5 hde hkd h500 hdm hdB D7
                  go_upto_region 23 with (go_at_call 11; refine CR.out.mono ?_; rintro e w8 ⟨v17, us8, v18, rfl, hU8, hm8, hO8, hP8, hK8⟩; obtain ⟨p17, c17, h17⟩ := hU8.1.slice; rw [List.length_map] at h17; subst h17; obtain ⟨p18, c18, h18⟩ := hO8.slice; subst h18; have hcv := conv_str' hO8.bytes; have P8 := hid hP8; have K8 := hid hK8; have U8 := hid hU8; have M8 := hid hm8; clear hP8 hK8 hU8 hm8 hO8)
                  clear CR
                  have R8 := hid (R7.out.kp K8.out (by decide))
                  have B8 := hid (BB7.out.trans (K8.out.below P7.out.size))
                  have hKl := hid (show (K.map (fun l => (Value.string (str l)))).length ≤ 1000000 by rw [List.length_map]; have := QKl.out; omega)
                  go_upto_region 24 with (at_builtin; refine wpList_push rfl (.tmp 112) (.tmp 115) 40 9 rfl Try.underlying40 info_string rfl (by decide) rfl rfl (Rw.alloc R8.out.ra _) ((Blk.new _ _ _).cellv rfl) rfl hKl.out (by have := B8.out.size; simp; omega) ?_; intro v9q w9 R9 N9 o9; have P9 := hid R9; have N9' := hid N9; have O9 := hid o9; clear R9 N9 o9)
                  have LA := hid (show Below w8.heap.size w8 (w8.alloc (.cells #[.string (str (ackB n'))] 9)) from (Below.refl _ _).alloc (Nat.le_refl _) _)
                  have RA3 := hid (R8.out.below LA.out)
                  have R9 := hid (RA3.out.pusha P9.out N9'.out O9.out)
                  have PR9 := hid ((P8.out.below LA.out).strings RA3.out.ra N9'.out)
                  have U9 := hid ((U8.out.below LA.out).strings RA3.out.ra N9'.out)
                  have B9 := hid ((B8.out.trans (LA.out.mono B8.out.size)).trans (Mod.strings RA3.out.ra N9'.out (Nat.le_refl _) (by have := B8.out.size; have := LA.out.size; omega)))
                  have K9 := hid (show ∀ a ∈ K ++ [ackB n'], isAck n' a from fun a ha => by
                    rcases List.mem_append.1 ha with ha | ha
                    · obtain ⟨k, h1, h2⟩ := QK.out a ha
                      exact ⟨k, by have := E2.out; omega, h2⟩
                    · rw [List.mem_singleton] at ha; exact ⟨n', Nat.le_refl _, ha⟩)
                  clear hcv P8 K8 U8 R8 B8 R7 P7 BB7 LA RA3 P9 N9' O9
                  obtain ⟨q2, hq2⟩ : ∃ q2, q2 = us8.length := ⟨_, rfl⟩
                  have hul := hid (show us8.length ≤ 1000 from by
                    have h1 := congrArg List.length M8.out
                    have h2 := congrArg List.length E4.out
                    rw [List.length_map] at h1
                    simp only [List.length_append, List.length_take] at h2
                    have := E3.out
                    omega)
                  have hq2l : q2 ≤ 1000 := by rw [hq2]; exact hul.out
                  rw [← hq2]
                  have HQ2 := hid hq2
                  clear hq2
                  go_wp2_with fail
                  go_loopg [8, 20] q2 (fun g v8 v20 wr' => ∃ (j2 : Nat) (G' : List (List W8)), v20 = .int .i64 j2 ∧ g = q2 - j2 ∧ j2 ≤ q2 ∧ Hid (R4 wr' w.heap.size (.slice p7 P.length c7) v8 (.slice p9' D'.length c9') v9q P G' D' (K ++ [ackB n'])) ∧ Hid (G' = G ++ told.take j2) ∧ Hid (PR wr' w.heap.size s t mb r mc (P.drop b) b m' n' A') ∧ Hid (Ut wr' _ _ (.slice p17 us8.length c17) us8) ∧ Hid (Below w.heap.size w wr'))
                  case atStart => exact ⟨0, G, rfl, rfl, Nat.zero_le _, R9, hid (by simp), PR9, U9, B9⟩
                  case round =>
                    obtain ⟨j2, G', rfl, hg3, hj3, RL, GL, PL, UL, BL⟩ := hrel
                    obtain ⟨p8', c8', h8'⟩ := RL.out.r8.slice
                    subst h8'
                    by_cases hjq3 : j2 < q2
                    · have hji3 : (j2 : Int) < (q2 : Int) := by omega
                      have hjl3 : j2 < us8.length := by have := HQ2.out; omega
                      obtain ⟨gu3, capu3, eu3, hcu3, hcell3⟩ := UL.out.1.cell (i := j2) (by rw [List.length_map]; exact hjl3)
                      rw [List.length_map] at eu3
                      cases eu3
                      rw [List.getElem_map] at hcell3
                      have hOx3 := UL.out.2 us8[j2] (List.getElem_mem _)
                      obtain ⟨x3, hx3⟩ : ∃ x, x = us8[j2] := ⟨_, rfl⟩
                      rw [← hx3] at hcell3 hOx3
                      have hgt := hid (show told.take (j2 + 1) = told.take j2 ++ [x3.2] from by
                        have h1 : j2 < told.length := by rw [← M8.out, List.length_map]; exact hjl3
                        rw [List.take_succ_eq_append_getElem h1]
                        congr 2
                        have h2 : told[j2]? = some x3.2 := by rw [← M8.out, List.getElem?_map, List.getElem?_eq_getElem hjl3, ← hx3]; rfl
                        exact (List.getElem?_eq_some_iff.1 h2).2)
                      obtain ⟨px3, cx3, hpx3⟩ := hOx3.slice
                      rw [hpx3] at hcell3 hOx3
                      have hcv3 := conv_str' hOx3.bytes
                      have hlen3 := hid (show (G'.map (fun l => (Value.string (str l)))).length ≤ 1000000 by
                        rw [List.length_map, GL.out, List.length_append, HG.out, List.length_take, List.length_take]
                        have := HQ2.out
                        omega)
                      have HJ3 := hid (show j2 + 1 ≤ q2 by omega)
                      have hgl3 : gu3 < wr.heap.size := by obtain ⟨cs, hb⟩ := UL.out.1.kind (k := gu3) rfl; exact hb.lt
                      clear hx3 hOx3 hpx3
                      go_wp2_with (at_builtin; refine wpList_push rfl (.tmp 123) (.tmp 129) 40 9 rfl Try.underlying40 info_string rfl (by decide) rfl rfl (Rw.alloc RL.out.r8 _) ((Blk.new _ _ _).cellv rfl) rfl hlen3.out (by have := BL.out.size; simp; omega) ?_; intro v6 w6 R6 N6 o6; have P6 := hid R6; have N6' := hid N6; have O6 := hid o6; clear R6 N6 o6)
                      have LA := hid (show Below wr.heap.size wr (wr.alloc (.cells #[.string (str x3.2)] 9)) from (Below.refl _ _).alloc (Nat.le_refl _) _)
                      have RA3 := hid (RL.out.below LA.out)
                      have R6 := hid (RA3.out.push8 P6.out N6'.out O6.out)
                      have PR6 := hid ((PL.out.below LA.out).strings RA3.out.r8 N6'.out)
                      have U6 := hid ((UL.out.below LA.out).strings RA3.out.r8 N6'.out)
                      have B6 := hid ((BL.out.trans (LA.out.mono BL.out.size)).trans (Mod.strings RA3.out.r8 N6'.out (Nat.le_refl _) (by have := BL.out.size; have := LA.out.size; omega)))
                      go_roundg (q2 - (j2 + 1))
                      case measure => omega
                      case rel => exact ⟨j2 + 1, G' ++ [x3.2], by go_num, rfl, HJ3.out, R6, hid (by rw [GL.out, hgt.out, List.append_assoc]), PR6, U6, B6⟩
                    · have hji3 : ¬ (j2 : Int) < (q2 : Int) := by omega
                      have hje : j2 = q2 := by omega
                      have GE := hid (show G' = P.take n' from by
                        rw [GL.out, hje, HQ2.out]
                        have h1 : us8.length = told.length := by rw [← M8.out, List.length_map]
                        rw [h1, List.take_length, HG.out]
                        exact E4.out)
                      go_wp2_with fail
                      go_meet
                      case rel => exact ⟨n', A', K ++ [ackB n'], PL, E5, hid ⟨E2.out, E3.out⟩, hid (by rw [← GE.out]; exact RL.out), K9, hid (by rw [List.length_append]; have := QKl.out; simp; omega), BL⟩
              case rest =>
                obtain ⟨n', A', K', PC, AC, NC, RC, KC, KL, BC⟩ := hcut
                obtain ⟨G2, hG2⟩ : ∃ G2, G2 = P.take n' := ⟨_, rfl⟩
                rw [← hG2] at RC
                have HG2 := hid (And.intro hG2 (show G2.length = n' by rw [hG2, List.length_take]; have := NC.out.2; omega))
                clear hG2 D7 R7 P7 BB7
                obtain ⟨p8q, c8q, h8q⟩ := RC.out.r8.slice
                subst h8q
                obtain ⟨paq, caq, haq⟩ := RC.out.ra.slice
                subst haq
                obtain ⟨bf3, off3, fd3, fa3, nw3, e3, hbf, f0, f1, f2, hnw3⟩ := HF2.out _ BC.out
                cases e3
                have CK2 := hid (pick_any RC.out.ra fa3 (fun l hl => by obtain ⟨k, _, h2⟩ := KC.out l hl; rw [h2]; exact ackB_len k) (by have := KL.out; omega))
                have HBN0 := hid (show b ≤ n' from Nat.le_trans QN.out.1 NC.out.1)
                go_upto_region 29 with (go_at_call 17; refine CK2.out.mono ?_; rintro e w10 ⟨vb2, bb2, rfl, hd10, hb10⟩; have D10 := hid hd10; have B10 := hid hb10; clear hd10 hb10)
                clear CK2 f0 f1 f2 hbf hnw3
                have R10 := hid (RC.out.below B10.out)
                have P10 := hid (PC.out.below B10.out)
                have BB10 := hid (BC.out.trans (B10.out.mono BC.out.size))
                clear RC PC BC B10
                cases bb2 with
                | false =>
                  have HBN := HBN0
                  obtain ⟨ll, hll⟩ : ∃ ll, ll = (P.drop b).length := ⟨_, rfl⟩
                  have CL := hid (left_p P10.out)
                  have CC := hid (came_p P10.out (by have := NC.out.2; omega))
                  rw [← hll] at CL
                  have q1 : ¬ (P.length : Int) < (G2.length : Int) := by have := HG2.out.2; have := NC.out.2; omega
                  have q2 : ((n' : Int) != (G2.length : Int)) = false := by rw [HG2.out.2]; simp
                  have q3 : ¬ (G2.length : Int) < (P.length : Int) - (ll : Int) := by
                    have h1 := HG2.out.2
                    have h2 := NC.out.2
                    rw [List.length_drop] at hll
                    have h3 := HBN.out
                    omega
                  have q4 : P.length ≤ 100 := by omega
                  have q5 : ll ≤ 100 := by rw [List.length_drop] at hll; omega
                  clear hll
                  go_wp2_with (first
                    | (go_at_call 15; refine CL.out.mono ?_; rintro e w9 ⟨rfl, e9⟩; subst e9)
                    | (go_at_call 14; refine CC.out.mono ?_; rintro e w9 ⟨rfl, e9⟩; subst e9))
                  go_roundg (60 - (i + 1))
                  case measure => have := HPK.out; omega
                  case rel => exact ⟨i + 1, by have := HPK.out; go_num, rfl, by have := HPK.out; omega, hid ⟨b, n', m', A', D', K', P10.out, (by rw [← HG2.out.1]; exact R10.out), AC.out, HBN.out, NC.out.2, DJ.out, KC.out, LD.out, KL.out⟩, BB10⟩
                | true =>
                  obtain ⟨d, hdm, hdB⟩ := D10.out rfl
                  obtain ⟨kd, hkd, hde⟩ := KC.out d hdm
                  obtain ⟨e1, b', e2, e3, e4⟩ := ack_take (m := m') HBN0.out hkd NC.out.2 (by omega)
                  have CS := hid (shear_p P10.out hdB (by rw [hde]; exact ackB_len kd))
                  rw [← hde] at e1 e2 e3
                  rw [e1, e2, e3] at CS
                  have HBN := hid e4
                  obtain ⟨m9, hm9⟩ : ∃ m9, m9 = (hearM d (P.drop b) b m').2.2 := ⟨_, rfl⟩
                  rw [← hm9] at CS
                  clear hm9 e1 e2 e3 e4 hde hkd hdm hdB D10
                  go_upto_region 31 with (go_at_call 12; refine CS.out.mono ?_; rintro e w11 ⟨rfl, hP11, hK11⟩; have P11 := hid hP11; have K11 := hid hK11; clear hP11 hK11)
                  clear CS
                  have R11 := hid (R10.out.kp K11.out (by decide))
                  have B11 := hid (BB10.out.trans (K11.out.below P10.out.size))
                  obtain ⟨ll, hll⟩ : ∃ ll, ll = (P.drop b').length := ⟨_, rfl⟩
                  have CL := hid (left_p P11.out)
                  have CC := hid (came_p P11.out (by have := NC.out.2; omega))
                  rw [← hll] at CL
                  have q1 : ¬ (P.length : Int) < (G2.length : Int) := by have := HG2.out.2; have := NC.out.2; omega
                  have q2 : ((n' : Int) != (G2.length : Int)) = false := by rw [HG2.out.2]; simp
                  have q3 : ¬ (G2.length : Int) < (P.length : Int) - (ll : Int) := by
                    have h1 := HG2.out.2
                    have h2 := NC.out.2
                    rw [List.length_drop] at hll
                    have h3 := HBN.out
                    omega
                  have q4 : P.length ≤ 100 := by omega
                  have q5 : ll ≤ 100 := by rw [List.length_drop] at hll; omega
                  clear hll
                  go_wp2_with (first
                    | (go_at_call 15; refine CL.out.mono ?_; rintro e w9 ⟨rfl, e9⟩; subst e9)
                    | (go_at_call 14; refine CC.out.mono ?_; rintro e w9 ⟨rfl, e9⟩; subst e9))
                  go_roundg (60 - (i + 1))
                  case measure => have := HPK.out; omega
                  case rel => exact ⟨i + 1, by have := HPK.out; go_num, rfl, by have := HPK.out; omega, hid ⟨b', n', m9, A', D', K', P11.out, (by rw [← HG2.out.1]; exact R11.out), AC.out, HBN.out, NC.out.2, DJ.out, KC.out, LD.out, KL.out⟩, B11⟩
        · by_cases hc1 : i < nf
          · have hc1i : (i : Int) < (nf : Int) := by omega
            have hc2i : ¬ (i : Int) < 60 := by omega
            go_wp2_with fail
            go_meet
            case rel => exact ⟨n, _, _, D, K, QN.out.2, hid (by rw [← HG.out]; exact QR.out), BB⟩
          · have hc1i : ¬ (i : Int) < (nf : Int) := by omega
            go_wp2_with fail
            go_meet
            case rel => exact ⟨n, _, _, D, K, QN.out.2, hid (by rw [← HG.out]; exact QR.out), BB⟩
    case rest =>
      obtain ⟨n, v9, va, D, K, hnP, RR4, BE⟩ := hcut
      obtain ⟨G, hG⟩ : ∃ G, G = P.take n := ⟨_, rfl⟩
      rw [← hG] at RR4
      have HG := hid hG
      have hGP := hid (show G.length ≤ P.length by rw [hG, List.length_take]; omega)
      clear hG
      obtain ⟨p8, c8, h8⟩ := RR4.out.r8.slice
      subst h8
      obtain ⟨gl, hgl⟩ : ∃ gl, gl = G.length := ⟨_, rfl⟩
      have HGL := hid hgl
      rw [← hgl]
      obtain ⟨pl, hpl⟩ : ∃ pl, pl = P.length := ⟨_, rfl⟩
      have HPL := hid hpl
      rw [← hpl] at hP60 ⊢
      have hgp : gl ≤ pl := by have := hGP.out; omega
      clear hgl hpl HR4 HR HB hnP
      go_wp2_with fail
      go_loopg [23] gl (fun g v23 wr => ∃ k : Nat, v23 = .int .i64 k ∧ g = gl - k ∧ k ≤ gl ∧ Hid (R4 wr w.heap.size (.slice p7 P.length c7) (.slice p8 G.length c8) v9 va P G D K) ∧ Hid (Below w.heap.size w wr))
      case atStart => exact ⟨0, rfl, rfl, Nat.zero_le _, RR4, BE⟩
      case round =>
        obtain ⟨k, rfl, hg, hk, RK, BK⟩ := hrel
        by_cases hkl : k < gl
        · have hki : (k : Int) < (gl : Int) := by omega
          have hkp : (k : Int) < (pl : Int) := by omega
          obtain ⟨g8, cap8, e8, hc8, d8⟩ := RK.out.r8.cell (i := k) (by have := HGL.out; omega)
          obtain ⟨g7, cap7, e7, hc7, d7⟩ := RK.out.r7.cell (i := k) (by have := HPL.out; omega)
          cases e8
          cases e7
          have hGk : G.getD k [] = P.getD k [] := by
            have hkn : k < n := by
              have h1 := HGL.out
              rw [HG.out, List.length_take] at h1
              omega
            rw [HG.out, List.getD_eq_getElem?_getD, List.getD_eq_getElem?_getD, List.getElem?_take_of_lt hkn]
          rw [hGk] at d8
          obtain ⟨x, hx⟩ : ∃ x, x = str (P.getD k []) := ⟨_, rfl⟩
          rw [← hx] at d7 d8
          have hb8 : g8 < wr.heap.size := by obtain ⟨cs, hb⟩ := Rw.kind RK.out.r8 (k := g8) rfl; exact hb.lt
          have hb7 : g7 < wr.heap.size := by obtain ⟨cs, hb⟩ := Rw.kind RK.out.r7 (k := g7) rfl; exact hb.lt
          have HK1 := hid (show k + 1 ≤ gl by omega)
          clear hx hGk hc8 hc7
          go_upto_region 36 with fail
          go_quiet (fail)
          have BQ := hid (show Below wr.heap.size wr (wr.drewN nq) from below_drewN (Below.refl _ _) _)
          go_wp2_with fail
          go_roundg (gl - (k + 1))
          case measure => omega
          case rel => exact ⟨k + 1, by go_num, rfl, HK1.out, hid (RK.out.below BQ.out), hid (BK.out.trans (BQ.out.mono BK.out.size))⟩
        · have hki : ¬ (k : Int) < (gl : Int) := by omega
          go_wp2_with (go_at_call 13; refine (alive_c _).mono ?_; rintro e w8 ⟨rfl, hb8⟩; have B8 := hid hb8; clear hb8)
          go_ret
          exact ⟨rfl, BK.out.trans (B8.out.mono BK.out.size)⟩
end Go.Proofs.Ytkehejkjifgieaa
