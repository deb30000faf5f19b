/- WindowAll: the walk. -/
import Derived.Test.YtkehejkjifgieaaAllP
namespace Go.Proofs.Ytkehejkjifgieaa
open Go.RowKit Go.ChangeMaps

def AllR (w : World) (base s t mb r mc : Nat) (P : List (List W8)) (st : Wt) (tmax : Nat) : Prop :=
  ∃ m A, PR w base s t mb r mc (P.drop st.1) st.1 m st.2.1 A ∧ Rl P st.2.2 A ∧ st.1 ≤ P.length ∧ st.2.1 ≤ P.length ∧ ∀ e ∈ m, e.2 ≤ (tmax : Int)
theorem parts_cell {w : World} {p : Option Addr} {n : Nat} {X : Nat → List W8} (h : Parts w p n X) {i : Nat} (hi : i < n) : ∃ b off pv nv cv, p = some ⟨b, off, none⟩ ∧ w.cell? ⟨b, off + i, none⟩ = some (.slice pv nv cv) ∧ Bytes w (.slice pv nv cv) (X i) := by
  obtain ⟨b, off, V, h1, _, h3, h4, _⟩ := h i hi
  obtain ⟨pv, cv, rfl, hq⟩ := h4
  exact ⟨b, off, pv, _, cv, h1, h3, ⟨pv, cv, rfl, hq⟩⟩
theorem later_11 {i : Nat} (h : i ≤ 1000) : laterN (11 * i) = 11 * i + 10 := if_neg (by omega)
/-- What Out sends in a round. -/
theorem all_out {w : World} {base s t mb r mc : Nat} {P : List (List W8)} {st : Wt} {i : Nat} (h : AllR w base s t mb r mc P st (11 * i)) (hi : i ≤ 1000) :
    Calls Try.prog 10 #[.pointer (some ⟨s, 0, none⟩), .int .u64 ((11 * i : Nat) : Int)] w fun e w' => ∃ v us, e = .returned v ∧ Us w' w.heap.size v us ∧ us.length = min 8 (P.length - st.1) ∧ (∀ j (hj : j < us.length), us[j].2 = dataB (st.1 + j) (P.getD (st.1 + j) [])) ∧ AllR w' base s t mb r mc P st (11 * i + 10) ∧ Kp kinds4 base w w' := by
  obtain ⟨m, A, hP, hR, h1, h2, h3⟩ := h
  refine (out_p hP (11 * i) (by omega)).mono ?_
  rintro e w' ⟨v, us, rfl, hU, hm, hP', hK⟩
  obtain ⟨o1, o2⟩ := outL_all (now := 11 * i) (b := st.1) (by omega) ((P.drop st.1).take 8) 0 m (fun e he => Or.inl (h3 e he)) (fun e he => by
    have h4 := h3 e he
    have h5 := later_le (11 * i) (by omega)
    omega)
  rw [o1] at hm
  have hlen : us.length = min 8 (P.length - st.1) := by
    have := congrArg List.length hm
    rw [List.length_map, frm_length, List.length_take, List.length_drop] at this
    exact this
  refine ⟨v, us, rfl, hU, hlen, fun j hj => ?_, ⟨_, A, hP', hR, h1, h2, fun e he => ?_⟩, hK⟩
  · have hjl : j < ((P.drop st.1).take 8).length := by rw [List.length_take, List.length_drop]; omega
    have h4 := frm_get st.1 0 ((P.drop st.1).take 8) j hjl
    rw [← hm, List.getElem?_map, List.getElem?_eq_getElem hj] at h4
    have h5 : us[j].2 = dataB (st.1 + 0 + j) (((P.drop st.1).take 8).getD j []) := by simpa using h4
    rw [h5, Nat.add_zero]
    congr 1
    rw [List.getD_eq_getElem?_getD, List.getD_eq_getElem?_getD, List.getElem?_take_of_lt (by omega), List.getElem?_drop]
  · have h4 := o2 e he
    rw [later_11 hi] at h4
    exact h4
/-- A frame of a round comes. -/
theorem all_hear {w : World} {base s t mb r mc : Nat} {P : List (List W8)} {st : Wt} {tmax p : Nat} {vb : Value} (h : AllR w base s t mb r mc P st tmax) (hp : p < P.length) (hN : P.length ≤ 12) (hl : ∀ m ∈ P, m.length ≤ 500) (hB : Bytes w vb (dataB p (P.getD p []))) :
    Calls Try.prog 11 #[.pointer (some ⟨r, 0, none⟩), vb] w fun e w' => ∃ vl va ec, e = .returned (.tuple #[vl, va, .int .i64 ec]) ∧ Ow w' base va (ackB (hearS p st.2.1 st.2.2).1) ∧ AllR w' base s t mb r mc P (st.1, hearS p st.2.1 st.2.2) tmax ∧ Kp kinds4 base w w' := by
  obtain ⟨m, A, hP, hR, h1, h2, h3⟩ := h
  have hlp : (P.getD p []).length ≤ 500 := by
    rw [List.getD_eq_getElem?_getD, List.getElem?_eq_getElem hp]
    exact hl _ (List.getElem_mem _)
  obtain ⟨k1, k2, k3, k4⟩ := hear_rel hR hp h2 (by omega) hlp
  refine (rhear_p hP (by omega) hB (by have := dataB_length p (P.getD p []); omega)).mono ?_
  rintro e w' ⟨vl, us, va, rfl, hU, hm, hO, hP', hK⟩
  rw [k1] at hO
  rw [k2] at hP'
  exact ⟨vl, va, _, rfl, hO, ⟨m, _, hP', k3, h1, k4, h3⟩, hK⟩
theorem all_ack {w : World} {base s t mb r mc : Nat} {P : List (List W8)} {st : Wt} {tmax n : Nat} {vb : Value} (h : AllR w base s t mb r mc P st tmax) (hn : n < 4294967296) (hB : Bytes w vb (ackB n)) :
    Calls Try.prog 12 #[.pointer (some ⟨s, 0, none⟩), vb] w fun e w' => ∃ ec, e = .returned (.int .i64 ec) ∧ AllR w' base s t mb r mc P (ackS P.length st.1 n, st.2) tmax ∧ Kp kinds4 base w w' := by
  obtain ⟨m, A, hP, hR, h1, h2, h3⟩ := h
  obtain ⟨k1, k2, k3, k4⟩ := ack_rel (m := m) h1 hn
  refine (shear_p hP hB (by rw [ackB_length]; decide)).mono ?_
  rintro e w' ⟨rfl, hP', hK⟩
  rw [k1, k2] at hP'
  exact ⟨_, rfl, ⟨_, A, hP', hR, k4, h2, fun e he => h3 e (k3 e he)⟩, hK⟩
theorem hear_lt {P : List (List W8)} {p n : Nat} {ks : List Nat} {A : Int → Option (List W8)} (h : Rl P ks A) (hp : p < P.length) (hn : n ≤ P.length) (hN : P.length ≤ 1000) (hl : ∀ m ∈ P, m.length ≤ 500) : (hearS p n ks).1 < 4294967296 := by
  have hlp : (P.getD p []).length ≤ 500 := by
    rw [List.getD_eq_getElem?_getD, List.getElem?_eq_getElem hp]
    exact hl _ (List.getElem_mem _)
  have := (hear_rel h hp hn hN hlp).2.2.2
  omega
theorem step_no {N i wh b0 : Nat} {st : Wt} {j : Nat} (h : ¬ (i + j + wh) % 3 = 0) : stepS N i wh b0 st j = st := if_neg (by simpa using h)
theorem step_hear {N i wh b0 : Nat} {st : Wt} {j : Nat} (h : (i + j + wh) % 3 = 0) (h2 : ¬ i / 3 % 2 = 0) : stepS N i wh b0 st j = (st.1, hearS (b0 + j) st.2.1 st.2.2) := by
  unfold stepS
  rw [if_pos (by simpa using h), if_neg (by simpa using h2)]
theorem step_both {N i wh b0 : Nat} {st : Wt} {j : Nat} (h : (i + j + wh) % 3 = 0) (h2 : i / 3 % 2 = 0) : stepS N i wh b0 st j = (ackS N st.1 (hearS (b0 + j) st.2.1 st.2.2).1, hearS (b0 + j) st.2.1 st.2.2) := by
  unfold stepS
  rw [if_pos (by simpa using h), if_pos (by simpa using h2)]
set_option maxRecDepth 100000 in
set_option maxHeartbeats 4000000 in
theorem all_walk {w : World} {p : Option Addr} {n cap : Nat} {X : Nat → List W8} (hn : n ≤ maxLen) (hP : Parts w p n X) (x : Nat) (hx : x < 256) :
    Calls Try.prog 3 #[.slice p n cap, .int .u8 (x : Int)] w fun e w' => e = .returned (.bool true) ∧ Below w.heap.size w w' := by
  have HP := hid hP
  have hn' : n ≤ 9223372036854775807 := by simpa [maxLen] using hn
  clear hP hn
  go_enter Try.func3, Try.ntmps3
  go_upto_region 5 with (first
    | (go_at_call 8; refine (newReceiver_c w1).mono ?_; rintro e w2 ⟨r, mc, rfl, hR, hb2⟩; have P2 := hid (PR.start S1.out hR hb2 B1.out.size); have B2 := hid (B1.out.trans (hb2.mono B1.out.size)); clear hR hb2)
    | (go_at_call 7; refine (newSender_c w).mono ?_; rintro e w1 ⟨s, t, mb, sv, rfl, hS, hb1⟩; have S1 := hid hS; have B1 := hid hb1; clear hS hb1))
  go_upto_block 0 with fail
  go_cut [7] from 8 to 41 (fun v7 wr => ∃ P : List (List W8), v7 = .int .i64 P.length ∧ P.length ≤ 12 ∧ Hid (∀ m ∈ P, m.length ≤ 500) ∧ Hid (AllR wr w.heap.size s t mb r mc P (0, 0, []) 0) ∧ Hid (Below w.heap.size w wr))
  case first =>
    go_wp2_with fail
    go_loopg [7, 8] 12 (fun g v7 v8 wr => ∃ (k : Nat) (P : List (List W8)), v7 = .int .i64 P.length ∧ v8 = .int .i64 k ∧ g = 12 - k ∧ k ≤ 12 ∧ P.length ≤ k ∧ Hid (∀ m ∈ P, m.length ≤ 500) ∧ Hid (PR wr w.heap.size s t mb r mc P 0 [] 0 (fun _ => none)) ∧ Hid (Below w.heap.size w wr))
    case atStart => exact ⟨0, [], rfl, rfl, rfl, by omega, Nat.le_refl _, hid (fun m hm => by cases hm), P2, B2⟩
    case round =>
      obtain ⟨k, P, rfl, rfl, hg, hk, hPk, HL, HR, HB⟩ := hrel
      by_cases hkn : k < n ∧ k < 12
      · obtain ⟨hk1, hk2⟩ := hkn
        have hk1i : (k : Int) < (n : Int) := by omega
        have hk2i : (k : Int) < 12 := by omega
        obtain ⟨b, off, pv, nv, cv, rfl, hc, hB⟩ := parts_cell (HP.out.below (HB.out.mono (Nat.le_refl _))) hk1
        have HBy := hid hB
        have CP := hid (put_p HR.out hB (by omega))
        have hbl := (by obtain ⟨b', off', V, e1, e2, _⟩ := (HP.out.below HB.out) k hk1; cases e1; exact e2 : b < wr.heap.size)
        clear hB
        by_cases h5 : 500 < (X k).length
        · rw [show putM P (X k) = (4, P) from if_pos h5] at CP
          dsimp only at CP
          go_wp2_with (go_at_call 9; refine CP.out.mono ?_; rintro e w3 ⟨rfl, hP3, hK3⟩; have P3 := hid hP3; have B3 := hid (HB.out.trans (hK3.below HR.out.size)); clear hP3 hK3)
          go_roundg (12 - (k + 1))
          case measure => omega
          case rel => exact ⟨k + 1, P, rfl, by go_num, rfl, by omega, by omega, HL, P3, B3⟩
        · rw [show putM P (X k) = (0, P ++ [X k]) from (if_neg h5).trans (if_neg (by omega))] at CP
          dsimp only at CP
          have HL' := hid (show ∀ m ∈ P ++ [X k], m.length ≤ 500 from fun m hm => by
            rcases List.mem_append.1 hm with hm | hm
            · exact HL.out m hm
            · rw [List.mem_singleton] at hm; rw [hm]; omega)
          go_wp2_with (go_at_call 9; refine CP.out.mono ?_; rintro e w3 ⟨rfl, hP3, hK3⟩; have P3 := hid hP3; have B3 := hid (HB.out.trans (hK3.below HR.out.size)); clear hP3 hK3)
          go_roundg (12 - (k + 1))
          case measure => omega
          case rel => exact ⟨k + 1, P ++ [X k], by rw [List.length_append]; go_num, by go_num, rfl, by omega, by rw [List.length_append]; simp; omega, HL', P3, B3⟩
      · by_cases hk1 : k < n
        · have hk1i : (k : Int) < (n : Int) := by omega
          have hk2i : ¬ (k : Int) < 12 := by omega
          go_wp2_with fail
          go_meet
          case rel => exact ⟨P, rfl, by omega, HL, hid ⟨[], _, HR.out, Rl.nil P, Nat.zero_le _, Nat.zero_le _, fun e he => by cases he⟩, HB⟩
        · have hk1i : ¬ (k : Int) < (n : Int) := by omega
          go_wp2_with fail
          go_meet
          case rel => exact ⟨P, rfl, by omega, HL, hid ⟨[], _, HR.out, Rl.nil P, Nat.zero_le _, Nat.zero_le _, fun e he => by cases he⟩, HB⟩
  case rest =>
    obtain ⟨P, rfl, hP12, HL, HA, HB⟩ := hcut
    obtain ⟨N, hN⟩ : ∃ N, N = P.length := ⟨_, rfl⟩
    rw [← hN] at hP12 ⊢
    have HN := hid hN
    clear hN HP hn'
    obtain ⟨wh, hwh⟩ : ∃ wh, wh = x % 3 := ⟨_, rfl⟩
    have HW := hid hwh
    clear hwh
    go_wp2_with fail
    go_loopg [9] (40 * N + 40) (fun g v9 wr => ∃ i : Nat, v9 = .int .i64 i ∧ g = 40 * N + 40 - i ∧ i ≤ 40 * N + 40 ∧ Hid (AllR wr w.heap.size s t mb r mc P (simS N wh i) (11 * i)) ∧ Hid (Below w.heap.size w wr))
    case atStart => exact ⟨0, rfl, rfl, Nat.zero_le _, HA, HB⟩
    case round =>
      obtain ⟨i, rfl, hg, hi, RA, BR⟩ := hrel
      by_cases hiN : i < 40 * N + 40
      · have hii : (i : Int) < 40 * (N : Int) + 40 := by omega
        obtain ⟨st, hst⟩ : ∃ st, st = simS N wh i := ⟨_, rfl⟩
        rw [← hst] at RA
        have HST := hid hst
        clear hst
        have CO := hid (all_out RA.out (by omega))
        obtain ⟨nw, hnw⟩ : ∃ nw, nw = 11 * i := ⟨_, rfl⟩
        have hnwi : 11 * (i : Int) = (nw : Int) := by omega
        rw [← hnw] at CO
        have HNW := hid hnw
        clear hnw
        go_upto_region 14 with (go_at_call 10; refine CO.out.mono ?_; rintro e wo ⟨vo, us, rfl, hU, hlen, hget, hA, hK⟩; obtain ⟨po, co, hv⟩ := hU.1.slice; rw [List.length_map] at hv; subst hv; have UO := hid hU; have LO := hid hlen; have GO := hid hget; have AO := hid hA; have KO := hid hK; clear hU hlen hget hA hK)
        clear CO hnwi
        obtain ⟨q, hq⟩ : ∃ q, q = us.length := ⟨_, rfl⟩
        rw [← hq]
        have HQ := hid hq
        have hq8 : q ≤ 8 := by have := LO.out; omega
        clear hq
        rw [HNW.out] at AO
        have BO := hid (show Below w.heap.size w wo from BR.out.trans (KO.out.below (by obtain ⟨m, A, hP, _⟩ := RA.out; exact hP.size)))
        go_wp2_with fail
        go_loopg [11] q (fun g v11 wr' => ∃ j : Nat, v11 = .int .i64 j ∧ g = q - j ∧ j ≤ q ∧ Hid (AllR wr' w.heap.size s t mb r mc P (innerS N i wh st.1 st j) (11 * i + 10)) ∧ Hid (Kp kinds4 w.heap.size wo wr'))
        case atStart => exact ⟨0, rfl, rfl, Nat.zero_le _, AO, hid (Kp.refl _ _ _)⟩
        case round =>
          rename_i wr0 _
          obtain ⟨j, rfl, hg2, hj, AJ, KJ⟩ := hrel
          by_cases hjq : j < q
          · have hji : (j : Int) < (q : Int) := by omega
            obtain ⟨sj, hsj⟩ : ∃ sj, sj = innerS N i wh st.1 st j := ⟨_, rfl⟩
            rw [← hsj] at AJ
            have HSJ := hid (show innerS N i wh st.1 st (j + 1) = stepS N i wh st.1 sj j by rw [hsj]; rfl)
            clear hsj
            have HJ1 := hid (show j + 1 ≤ q by omega)
            have hb1 : (i : Int) + (j : Int) + (x : Int) < 100000 := by omega
            obtain ⟨z, hz⟩ : ∃ z, z = (i + j + x) % 3 := ⟨_, rfl⟩
            have hrem : ((i : Int) + (j : Int) + (x : Int)).tmod 3 = (z : Int) := by rw [Int.tmod_eq_emod_of_nonneg (by omega)]; omega
            have HZ := hid (show (i + j + wh) % 3 = z by rw [HW.out, hz]; omega)
            clear hz
            by_cases hz0 : z = 0
            · subst hz0
              have hjl : j < us.length := by have := HQ.out; omega
              have U := hid (UO.out.kp KJ.out (by decide) (by decide))
              obtain ⟨gu, capu, eu, hcu, hcell⟩ := U.out.1.cell (i := j) (by rw [List.length_map]; exact hjl)
              rw [List.length_map, ← HQ.out] at eu
              cases eu
              rw [List.getElem_map] at hcell
              obtain ⟨px, cx, hpx⟩ := (U.out.2 us[j] (List.getElem_mem _)).slice
              have hOx := U.out.2 us[j] (List.getElem_mem _)
              rw [GO.out j hjl] at hOx hpx
              rw [hpx] at hcell hOx
              have CH := hid (all_hear AJ.out (p := st.1 + j) (by have := LO.out; omega) (by have := HN.out; omega) HL.out hOx.bytes)
              obtain ⟨D, hD⟩ : ∃ D, D = dataB (st.1 + j) (P.getD (st.1 + j) []) := ⟨_, rfl⟩
              rw [← hD] at CH hcell
              clear hD hOx hpx
              go_upto_region 18 with fail
              have HG2 := hid hg2; have HJQ := hid hjq; have HQ8 := hid hq8; have HHX := hid hx; have HHI := hid hi; have HIN := hid hiN; have HHG := hid hg
              have hi1 : i ≤ 1000 := by omega
              have hj1 : j ≤ 8 := by omega
              clear hrem hii hji hb1 hjl hg hg2 hi hj hjq hiN hq8 hx
              obtain ⟨d, hd⟩ : ∃ d, d = i / 3 := ⟨_, rfl⟩
              have hdiv : (i : Int).tdiv 3 = (d : Int) := by rw [Int.tdiv_eq_ediv_of_nonneg (by omega)]; omega
              obtain ⟨y, hy⟩ : ∃ y, y = d % 2 := ⟨_, rfl⟩
              have hmod : (d : Int).tmod 2 = (y : Int) := by rw [Int.tmod_eq_emod_of_nonneg (by omega)]; omega
              have HY := hid (show i / 3 % 2 = y by rw [hy, hd])
              have hd1 : d ≤ 1000 := by omega
              have hy1 : y ≤ 1 := by omega
              clear hd hy
              by_cases hy0 : y = 0
              · subst hy0
                have HS2 := hid (HSJ.out.trans (step_both HZ.out HY.out))
                have hkl := hid (show (hearS (st.1 + j) sj.2.1 sj.2.2).1 < 4294967296 ∧ P.length = N from ⟨by
                  obtain ⟨m, A, hP, hR, h1, h2, h3⟩ := AJ.out
                  exact hear_lt hR (by have e9 := LO.out; have e8 := HJQ.out; have e7 := HQ.out; clear hdiv hmod; omega) h2 (by have := HN.out; omega) HL.out, HN.out.symm⟩)
                go_wp2_with (first
                  | (go_at_call 11; refine CH.out.mono ?_; rintro e w3 ⟨vl, va, ec, rfl, hO3, hA3, hK3⟩; obtain ⟨pa, ca, hva⟩ := hO3.slice; have CK := hid (all_ack hA3 hkl.out.1 hO3.bytes); subst hva; have K3 := hid (KJ.out.trans hK3); clear hO3 hA3 hK3)
                  | (go_at_call 12; refine CK.out.mono ?_; rintro e w4 ⟨ec2, rfl, hA4, hK4⟩; have A4 := hid hA4; have K4 := hid (K3.out.trans hK4); clear hA4 hK4))
                go_roundg (q - (j + 1))
                case measure => have e1 := HG2.out; have e2 := HJQ.out; clear hdiv hmod; omega
                case rel => exact ⟨j + 1, by have e2 := HJQ.out; have e3 := HQ8.out; clear hdiv hmod; go_num, rfl, HJ1.out, hid (by rw [HS2.out]; have := A4.out; rw [hkl.out.2] at this; exact this), K4⟩
              · have hyne : ((y : Int) == 0) = false := by clear hdiv hmod; simp; omega
                have HS2 := hid (HSJ.out.trans (step_hear HZ.out (by rw [HY.out]; exact hy0)))
                go_wp2_with (go_at_call 11; refine CH.out.mono ?_; rintro e w3 ⟨vl, va, ec, rfl, hO3, hA3, hK3⟩; have A3 := hid hA3; have K3 := hid (KJ.out.trans hK3); clear hO3 hA3 hK3)
                go_roundg (q - (j + 1))
                case measure => have e1 := HG2.out; have e2 := HJQ.out; clear hdiv hmod; omega
                case rel => exact ⟨j + 1, by have e2 := HJQ.out; have e3 := HQ8.out; clear hdiv hmod; go_num, rfl, HJ1.out, hid (by rw [HS2.out]; exact A3.out), K3⟩
            · have hzne : ((z : Int) != 0) = true := by simp; omega
              have HS2 := hid (HSJ.out.trans (step_no (by rw [HZ.out]; exact hz0)))
              go_wp2_with fail
              go_roundg (q - (j + 1))
              case measure => omega
              case rel => exact ⟨j + 1, by go_num, rfl, HJ1.out, hid (by rw [HS2.out]; exact AJ.out), KJ⟩
          · have hji : ¬ (j : Int) < (q : Int) := by omega
            have hjq' : j = q := by omega
            subst hjq'
            have AE := hid (show AllR _ w.heap.size s t mb r mc P (simS N wh (i + 1)) (11 * (i + 1)) from by
              obtain ⟨m, A, h1, h2, h3, h4, h5⟩ := AJ.out
              have e : simS N wh (i + 1) = innerS N i wh st.1 st j := by
                show roundS N wh (simS N wh i) i = _
                rw [← HST.out]
                show innerS N i wh st.1 st (min 8 (N - st.1)) = _
                rw [HQ.out, LO.out, HN.out]
              rw [e]
              exact ⟨m, A, h1, h2, h3, h4, fun e he => by have := h5 e he; omega⟩)
            have BE := hid (show Below w.heap.size w _ from BO.out.trans (KJ.out.below BO.out.size))
            go_wp2_with fail
            go_roundg (40 * N + 40 - (i + 1))
            case measure => omega
            case rel => exact ⟨i + 1, by go_num, rfl, by omega, AE, BE⟩
      · have hii : ¬ (i : Int) < 40 * (N : Int) + 40 := by omega
        have hie : i = 40 * N + 40 := by omega
        subst hie
        obtain ⟨e1, e2⟩ := simS_all (N := N) (wh := wh) hP12 (by have := HW.out; omega)
        obtain ⟨m, A, h1, _⟩ := RA.out
        rw [e1, e2] at h1
        have PE := hid h1
        clear h1 e1 e2
        have hdl := hid (show (P.drop N).length = 0 by rw [List.length_drop, HN.out]; omega)
        go_wp2_with (first
          | (go_at_call 13; refine (alive_c _).mono ?_; rintro e w8 ⟨rfl, hb8⟩; have B8 := hid hb8; have CL := hid (left_p (PE.out.below hb8)); have CC := hid (came_p (PE.out.below hb8) (by omega)); rw [hdl.out] at CL; clear hb8)
          | (go_at_call 15; refine CL.out.mono ?_; rintro e w9 ⟨rfl, e9⟩; subst e9)
          | (go_at_call 14; refine CC.out.mono ?_; rintro e w9 ⟨rfl, e9⟩; subst e9))
        go_ret
        exact ⟨rfl, BR.out.trans (B8.out.mono BR.out.size)⟩
end Go.Proofs.Ytkehejkjifgieaa
