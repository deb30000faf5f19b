/- The live question of layer 32. -/
import Derived.Test.YtkehejkjifgieaaPair
import Derived.Lib.SlBytesConst
namespace Go.Proofs.Ytkehejkjifgieaa
open Go.RowKit Go.ChangeMaps

theorem Us.kp {Ts : List TypeId} {base b : Nat} {w w' : World} {v : Value} {us : List (Value × List W8)} (h : Us w b v us) (K : Kp Ts base w w') (h1 : 29 ∉ Ts) (h2 : 5 ∉ Ts) : Us w' b v us := ⟨K.rw h.1 h1, fun p hp => K.ow (h.2 p hp) h2⟩
theorem Ut.kp {Ts : List TypeId} {base b1 b2 : Nat} {w w' : World} {v : Value} {us : List (Value × List W8)} (h : Ut w b1 b2 v us) (K : Kp Ts base w w') (h1 : 29 ∉ Ts) (h2 : 5 ∉ Ts) : Ut w' b1 b2 v us := ⟨K.rw h.1 h1, fun p hp => K.ow (h.2 p hp) h2⟩
theorem map_one {us : List (Value × List W8)} {D : List W8} (h : us.map (·.2) = [D]) : ∃ x, us = [(x, D)] := by
  match us, h with
  | [(x, d)], h => exact ⟨x, by simp at h; rw [h]⟩
theorem map_none {us : List (Value × List W8)} (h : us.map (·.2) = []) : us = [] := by simpa using h
theorem one_bytes (w : World) : Bytes (w.alloc (.cells #[.int .u8 97] 5 (1, 2))) (.slice (some ⟨w.heap.size, 0, none⟩) 1 1) [97] :=
  ⟨_, 1, rfl, fun _ => ⟨w.heap.size, 0, rfl, by simp, Nat.le_refl _, by simp [maxLen], fun i hi => by
    have h : i = 0 := by have : i < 1 := hi; omega
    subst h
    exact cell_of_row _ _ _ _ _ (1, 2) (heap_alloc_new w _)⟩⟩
def A0 : Int → Option (List W8) := fun _ => none
def A1 : Int → Option (List W8) := delA (updA A0 0 [97]) 0
theorem plain_out : outL 0 0 ([[97]].take 8) 0 [] = ([dataB 0 [97]], [(0, 10)]) := rfl
theorem plain_out2 : outL 9 0 ([[97]].take 8) 0 [(0, 10)] = ([], [(0, 10)]) := by
  show (if hasL [(0, 10)] 0 = true ∧ (9 : Int) < dueAt [(0, 10)] 0 then _ else _) = _
  rw [if_pos ⟨by decide, by decide⟩]
  rfl
theorem plain_rhear : rhearM (dataB 0 [97]) 0 A0 = (0, [[97]], ackB 1, 1, A1) := by
  unfold rhearM
  rw [parse_data (by decide) (by decide), if_pos rfl]
  have h1 : takeA 0 0 [97] A0 = updA A0 0 [97] := if_pos ⟨rfl, by decide, by decide⟩
  have h2 : nextA 8 0 (updA A0 0 [97]) = ([[97]], 1, A1) := by
    rw [nextA_some (l := [97]) rfl, nextA_none (f := 7) (n := 0 + 1) rfl]; rfl
  simp only [h1, h2]
theorem plain_rnil (n : Nat) (A : Int → Option (List W8)) : rhearM [] n A = (14, [], [], n, A) := by
  unfold rhearM
  rw [parse_nil]; rfl
theorem plain_hear : hearM (ackB 1) [[97]] 0 [(0, 10)] = ([], 1, []) := by
  unfold hearM
  rw [ack_ack (by decide), if_pos rfl]
  rfl
set_option maxRecDepth 100000 in
set_option maxHeartbeats 4000000 in
theorem alive_c (w : World) : Calls Try.prog 13 #[] w fun e w' => e = .returned (.bool true) ∧ Below w.heap.size w w' := by
  have hcv : ∀ W : World, (convert 29 29 (.slice (some ⟨W.heap.size, 0, none⟩) 1 1)).run Try.prog (W.alloc (.cells #[.int .u8 97] 5)) = .ok (.slice (some ⟨W.heap.size, 0, none⟩) 1 1) (W.alloc (.cells #[.int .u8 97] 5 (1, 2))) :=
    fun W => Lib.run_convert_bytes_const W 29 5 #[.int .u8 97] 1 1 Try.underlying29 Try.underlying5
  go_enter Try.func13, Try.ntmps13
  go_upto_region 4 with (first
    | (go_at_call 8; refine (newReceiver_c w1).mono ?_; rintro e w2 ⟨r, mc, rfl, hR, hb2⟩; have P2 := hid (PR.start S1.out hR hb2 B1.out.size); have B2 := hid (B1.out.trans (hb2.mono B1.out.size)); clear hR hb2)
    | (go_at_call 7; refine (newSender_c w).mono ?_; rintro e w1 ⟨s, t, mb, sv, rfl, hS, hb1⟩; have S1 := hid hS; have B1 := hid hb1; clear hS hb1))
  have BA := hid (show Below w2.heap.size w2 (w2.alloc (.cells #[.int .u8 97] 5 (1, 2))) from (Below.refl _ _).alloc (Nat.le_refl _) _)
  have CP := hid (put_p (P2.out.below BA.out) (one_bytes w2) (by simp))
  rw [show putM [] [97] = (0, [[97]]) from rfl] at CP
  have hcv2 := hcv w2
  clear hcv
  go_upto_region 5 with (go_at_call 9; refine CP.out.mono ?_; rintro e w3 ⟨rfl, hP3, hK3⟩; have P3 := hid hP3; have K3 := hid hK3; clear hP3 hK3)
  clear CP hcv2
  have CO := hid (out_p P3.out 0 (by decide))
  obtain ⟨D, hD⟩ : ∃ D, D = dataB 0 [97] := ⟨_, rfl⟩
  have hDl := hid (show D.length ≤ 100000 by rw [hD]; exact Nat.le_trans (dataB_length 0 [97]) (by decide))
  have hDr := hid (show rhearM D 0 (fun _ => none) = (0, [[97]], ackB 1, 1, A1) by rw [hD]; exact plain_rhear)
  rw [plain_out, ← hD] at CO
  dsimp only at CO
  obtain ⟨K, hK⟩ : ∃ K, K = ackB 1 := ⟨_, rfl⟩
  have hKl := hid (show K.length ≤ 100000 by rw [hK, ackB_length]; decide)
  have hKa := hid (show (ackN K).1 = 0 by rw [hK, ack_ack (by decide)])
  have hKh := hid (show hearM K [[97]] 0 [(0, 10)] = ([], 1, []) by rw [hK]; exact plain_hear)
  rw [← hK] at hDr
  clear hD hK
  go_upto_region 6 with (go_at_call 10; refine CO.out.mono ?_; rintro e w4 ⟨v4, us4, rfl, hU4, hm4, hP4, hK4⟩; have P4 := hid hP4; have K4 := hid hK4; have U4 := hid hU4; have N4 := hid hm4; clear hP4 hK4 hU4 hm4)
  obtain ⟨x4, hx4⟩ := map_one N4.out
  subst hx4
  obtain ⟨p4, c4, hv4⟩ := U4.out.1.slice
  subst hv4
  have CO2 := hid (out_p P4.out 9 (by decide))
  rw [plain_out2] at CO2
  dsimp only at CO2
  go_upto_region 8 with (go_at_call 10; refine CO2.out.mono ?_; rintro e w5 ⟨v5, us5, rfl, hU5, hm5, hP5, hK5⟩; have hu5 := map_none hm5; subst hu5; obtain ⟨p5, c5, hv5⟩ := hU5.1.slice; subst hv5; have P5 := hid hP5; have K5 := hid hK5; clear hP5 hK5 hU5 hm5)
  have U5 := hid (U4.out.kp K5.out (by decide) (by decide))
  obtain ⟨g4, cap4, e4, hc4, hx0⟩ := U5.out.1.cell (i := 0) (by simp)
  cases e4
  have OX := hid (show Ow w5 _ x4 (D) from U5.out.2 (x4, D) (by simp))
  obtain ⟨px, cx, hpx⟩ := OX.out.slice
  subst hpx
  have hx0 : w5.cell? ⟨g4, 0, none⟩ = some (.slice px (D).length cx) := hx0
  have CR := hid (rhear_p P5.out (by decide) OX.out.bytes hDl.out)
  rw [hDr.out] at CR
  dsimp only at CR
  clear OX CO2 CO hDl hDr
  go_upto_region 9 with (go_at_call 11; refine CR.out.mono ?_; rintro e w6 ⟨v6, us6, a6, rfl, hU6, hm6, hO6, hP6, hK6⟩; have P6 := hid hP6; have K6 := hid hK6; have U6 := hid hU6; have N6 := hid hm6; have O6 := hid hO6; clear hP6 hK6 hU6 hm6 hO6)
  obtain ⟨x6, hx6⟩ := map_one N6.out
  subst hx6
  obtain ⟨p6, c6, hv6⟩ := U6.out.1.slice
  subst hv6
  obtain ⟨pa, ca, ha6⟩ := O6.out.slice
  subst ha6
  clear CR hx0
  have CH := hid (shear_p P6.out O6.out.bytes hKl.out)
  rw [hKa.out, hKh.out] at CH
  dsimp only at CH
  go_upto_region 10 with (go_at_call 12; refine CH.out.mono ?_; rintro e w7 ⟨rfl, hP7, hK7⟩; have P7 := hid hP7; have K7 := hid hK7; clear hP7 hK7)
  clear CH
  have CR2 := hid (rhear_p P7.out (by decide) (Ow.nil w7 0).bytes (by decide))
  rw [plain_rnil] at CR2
  dsimp only at CR2
  go_upto_region 11 with (go_at_call 11; refine CR2.out.mono ?_; rintro e w8 ⟨v8, us8, a8, rfl, hU8, hm8, hO8, hP8, hK8⟩; have P8 := hid hP8; have K8 := hid hK8; clear hP8 hK8 hU8 hm8 hO8)
  have U8 := hid ((U6.out.kp K7.out (by decide) (by decide)).kp K8.out (by decide) (by decide))
  obtain ⟨g6, cap6, e6, hc6, hy0⟩ := U8.out.1.cell (i := 0) (by simp)
  cases e6
  have OY := hid (show Ow w8 _ x6 [97] from U8.out.2 (x6, [97]) (by simp))
  obtain ⟨py, cy, hpy⟩ := OY.out.slice
  subst hpy
  have hy0 : w8.cell? ⟨g6, 0, none⟩ = some (.slice py 1 cy) := hy0
  have hcs : (convert 29 9 (.slice py 1 cy)).run Try.prog w8 = .ok (.string ⟨#[97]⟩) w8 := conv_str' OY.out.bytes
  have CL := hid (left_p P8.out)
  have CC := hid (came_p P8.out (by decide))
  clear CR2
  go_wp2_with (first
    | (go_at_call 15; refine CL.out.mono ?_; rintro e w9 ⟨rfl, e9⟩; subst e9)
    | (go_at_call 14; refine CC.out.mono ?_; rintro e w9 ⟨rfl, e9⟩; subst e9))
  go_ret
  have KK := (((((K3.out.trans (K4.out.weaken (fun T h => List.mem_cons_of_mem _ h))).trans (K5.out.weaken (fun T h => List.mem_cons_of_mem _ h))).trans (K6.out.weaken (fun T h => List.mem_cons_of_mem _ h))).trans (K7.out.weaken (fun T h => List.mem_cons_of_mem _ h))).trans (K8.out.weaken (fun T h => List.mem_cons_of_mem _ h)))
  exact ⟨rfl, (B2.out.trans (BA.out.mono B2.out.size)).trans (KK.below (P2.out.below BA.out).size)⟩
end Go.Proofs.Ytkehejkjifgieaa
