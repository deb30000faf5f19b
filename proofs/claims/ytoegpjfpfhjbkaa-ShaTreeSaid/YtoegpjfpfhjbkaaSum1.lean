/- The walk of ShaSum. -/
import Derived.Test.YtoegpjfpfhjbkaaRefText
import Derived.Test.YtoegpjfpfhjbkaaWd
import Derived.Test.YtoegpjfpfhjbkaaLaw
namespace Go.Proofs.Ytoegpjfpfhjbkaa
open Go.RowKit Go.ChangeMaps

theorem load_h {W : World} {b : Nat} {T : TypeId} {H : Nat → W8} {hs : Array Value} (F : Fn W b T 32 (fun i => .int .u8 (ub (H i)))) (hz : hs.size = 32) (hx : ∀ i, i < 32 → hs[i]? = some (.int .u8 (ub (H i)))) :
    (Instr.loadAt 23 (.pointer (some ⟨b, 0, none⟩))).run Try.prog W = .ok (.agg hs) W := by
  have := run_loadAt_mid (P := Try.prog) W b 0 23 hs.toList _ (F.range' hs hz hx) Try.underlying23 rfl (by rw [Array.length_toList, hz]; kernel_rfl)
  simpa using this
/-- The bytes as a string. -/
theorem conv_bytes {W : World} {p : Option Addr} {cap : Nat} {xs : List W8} (h : Bytes W (.slice p xs.length cap) xs) : (convert 22 9 (.slice p xs.length cap)).run Try.prog W = .ok (.string ⟨(xs.map (fun b => (⟨b⟩ : UInt8))).toArray⟩) W := by
  obtain ⟨p', cap', e, hq⟩ := h
  cases e
  by_cases h0 : 0 < xs.length
  · obtain ⟨b, off, rfl, _, _, _, hS⟩ := hq h0
    have := run_convert_bytes_back (P := Try.prog) W 22 9 5 ⟨b, off, none⟩ cap (xs.map (fun b => (⟨b⟩ : UInt8))) Try.underlying22 Try.underlying5 Try.underlying9 (fun j hj => by
      have hj' : j < xs.length := by simpa using hj
      have := hS j hj'
      rw [Addr.add_mid, this, List.getElem_map, List.getD_eq_getElem?_getD, List.getElem?_eq_getElem hj']; rfl)
    simpa using this
  · have : xs = [] := List.eq_nil_of_length_eq_zero (by omega)
    subst this
    cases p with
    | none => rfl
    | some ad => rfl
set_option maxRecDepth 100000 in
set_option maxHeartbeats 4000000 in
theorem sum_walk (w : World) (v : Value) (xs : List W8) (hs : Array Value) (hz : hs.size = 32) (H : Nat → W8) (hx : ∀ i, i < 32 → hs[i]? = some (.int .u8 (ub (H i)))) (hv : Bytes w v xs) :
    Calls Try.prog 3 #[v, .agg hs] w fun e w' => e = .returned (.bool true) ∧ Below w.heap.size w w' := by
  obtain ⟨i0, hi, hz0, hz1, hz2⟩ := info_parts info5
  have HV := hid hv
  obtain ⟨p, cap, rfl, hq⟩ := hv
  have HQ := hid hq
  clear hq
  by_cases h400 : 400 < xs.length
  · have L0 := hid ((Below.refl w.heap.size w).alloc (Nat.le_refl _) (.cells hs 23))
    go_enter Try.func3, Try.ntmps3
    go_wp2_with (go_at_call 9; refine (alive_c _).mono ?_; rintro e w2 ⟨rfl, hb⟩; have hb' := hid hb; clear hb)
    go_ret
    exact ⟨rfl, L0.out.trans (hb'.out.mono L0.out.size)⟩
  · obtain ⟨w1, hw1⟩ : ∃ w1, w1 = w.alloc (.cells hs 23) := ⟨_, rfl⟩
    have L1 := hid (show Below w.heap.size w w1 by rw [hw1]; exact (Below.refl w.heap.size w).alloc (Nat.le_refl _) _)
    have FH := hid (show Fn w1 w.heap.size 23 32 (fun i => .int .u8 (ub (H i))) by rw [hw1]; exact Fn.new w hs _ hz hx)
    go_enter Try.func3, Try.ntmps3
    have O0 := hid (show (w1.alloc (.cells #[] 5)).ownsRow w1.heap.size 5 1 (.slice (some ⟨w1.heap.size, 0, none⟩) 0 0) 0 [] from row_empty (Blk.new w1 #[] 5) (Nat.le_refl _))
    have L0 := hid ((Below.refl w1.heap.size w1).alloc (Nat.le_refl _) (.cells #[] 5))
    have V1 := hid (HV.out.below L1.out)
    have V0 := hid (show Bytes (w1.alloc (.cells #[] 5)) (.slice p xs.length cap) xs from V1.out.below L0.out)
    go_upto_region 3 with fail
    rw [← hw1]
    go_cut [5] from 10 to 12 (fun v5 wr => Hid (wr.ownsRow w1.heap.size 5 1 v5 xs.length (byv xs)) ∧ Hid (Below w1.heap.size w1 wr))
    case first =>
      clear hw1
      cases p with
      | none =>
        have hx0 : xs.length = 0 := by
          by_cases h0 : 0 < xs.length
          · obtain ⟨_, _, h, _⟩ := HQ.out h0; cases h
          · omega
        have hX0' : xs = [] := List.eq_nil_of_length_eq_zero hx0
        subst hX0'
        go_wp2_with (at_builtin; refine wpList_append_nil rfl (.tmp 10) (.tmp 11) rfl (some ⟨w1.heap.size, 0, none⟩) 0 0 cap rfl rfl (Nat.le_refl _) ?_)
        go_meet
        case rel => exact ⟨O0, L0⟩
      | some ad =>
        have hby := hid (show (byv xs).length = xs.length * 1 by rw [byv_length]; omega)
        go_wp2_with (at_builtin; refine wpList_append_own_at _ rfl (.tmp 10) (.tmp 11) 22 rfl w1.heap.size 5 i0 (.int .u8 0) 1 1 rfl hi hz0 hz1 hz2 rfl (by decide) _ 0 [] rfl O0.out ad xs.length cap (byv xs) rfl hby.out (bytes_at V0.out) (byv_one xs) (by unfold maxLen; omega) (by omega) (by simp) ?_; intro v5 w5 hown5 hg5 _ _; have M5 := hid (Mod.of_grown (S := fun kk => w1.heap.size ≤ kk) hg5 (fun kk hk => (own_lt O0.out kk hk).1)); have O5 := hid hown5; clear hown5 hg5)
        go_meet
        case rel => exact ⟨hid (by have := O5.out; rwa [Nat.zero_add, List.nil_append] at this), hid (L0.out.trans (M5.out.below (by simp) (fun c hc h => by omega)))⟩
    case rest =>
      obtain ⟨O1, L2⟩ := hcut
      clear hw1
      obtain ⟨p5, c5, e5⟩ := own_slice O1.out
      subst e5
      have hxl : xs.length < 100000 := by omega
      have HX := hid hx
      have hsi : (Try.prog.info? 23).map (·.size) = some hs.toList.length := by rw [Array.length_toList, hz]; kernel_rfl
      clear hx
      have heq : ∀ W : World, (Op.equalIn 10000 23 (.agg (arr 32 (fun j => .int .u8 (ub (shaB xs j))))) (.agg (arr 32 (fun j => .int .u8 (ub (shaB xs j)))))).run Try.prog W = .ok true W := eq32_same _
      go_upto_region 4 with fail
      have hwc := L2.out.size
      have HFc := hid (show Fn wc w.heap.size 23 32 (fun i => .int .u8 (ub (H i))) from FH.out.below L2.out (Fn.lt FH.out))
      have hfc := Fn.lt HFc.out
      have Ld : ∀ n : Wd wc, (Instr.loadAt 23 (.pointer (some ⟨w.heap.size, 0, none⟩))).run Try.prog n.w = .ok (.agg hs) n.w := fun n => load_h (HFc.out.below n.h hfc) hz HX.out
      have Bo := hid (fun n : Wd wc => show Bytes n.w (.slice p5 xs.length c5) xs from (own_bytes rfl O1.out).below n.h)
      have Bp := hid (fun n : Wd wc => show Bytes n.w (.slice p xs.length cap) xs from (V1.out.below L2.out).below n.h)
      refine region_wd (by kernel_rfl) (by kernel_rfl) ?_
      have CA := hid (fun n : Wd wc => (shaSum_c (Bo.out n) (fun kk hk => Nat.lt_of_lt_of_le (own_lt O1.out kk hk).2 n.h.size) (by omega) : Calls Try.prog 10 _ n.w _))
      have hrg : ∀ W : World, (∃ n : Wd wc, W = n.w) → W.rangeAt w.heap.size 0 hs.toList := by rintro _ ⟨n, rfl⟩; exact (HFc.out.below n.h hfc).range' hs hz HX.out
      have hu23 := Try.underlying23
      have cv1 : ∀ W : World, (∃ n : Wd wc, W = n.w) → (convert 22 9 (.slice p5 xs.length c5)).run Try.prog W = .ok (.string ⟨(xs.map (fun b => (⟨b⟩ : UInt8))).toArray⟩) W := by rintro _ ⟨n, rfl⟩; exact conv_bytes (Bo.out n)
      have cv2 : ∀ W : World, (∃ n : Wd wc, W = n.w) → (convert 22 9 (.slice p xs.length cap)).run Try.prog W = .ok (.string ⟨(xs.map (fun b => (⟨b⟩ : UInt8))).toArray⟩) W := by rintro _ ⟨n, rfl⟩; exact conv_bytes (Bp.out n)
      have HRG := hid hrg
      have HC1 := hid cv1
      have HC2 := hid cv2
      clear hrg cv1 cv2 Ld
      repeat (first
        | go_big_quiet_skip
        | (go_big_quiet_want
           first
           | (refine quiet_load_mid 23 (.tmp 3) rfl w.heap.size 0 rfl hs.toList _ HRG.out hu23 rfl hsi ?_
              simp only [Act.put, List.setIfInBounds_toArray, List.set_cons_zero, List.set_cons_succ, Array.toArray_toList]
              go_big_quiet_on)
           | (refine quiet_convert 22 9 (.tmp 29) rfl _ HC1.out ?_
              simp only [Act.put, List.setIfInBounds_toArray, List.set_cons_zero, List.set_cons_succ]
              go_big_quiet_on)
           | (refine quiet_convert 22 9 (.tmp 31) rfl _ HC2.out ?_
              simp only [Act.put, List.setIfInBounds_toArray, List.set_cons_zero, List.set_cons_succ]
              go_big_quiet_on)
           | (go_big_quiet_op
              first
              | go_big_quiet_on
              | go_big_quiet_call (first
                | (go_at_call 9; exact Wd.call _ (alive_c _))
                | (go_at_call 10; exact Wd.call _ (CA.out _))
                | (go_at_call 11; exact Wd.call _ (refSum_c (Bp.out _) hxl))
                | (go_at_call 12; exact Wd.call _ (text_c _ hs hz H HX.out))
                | (go_at_call 13; exact Wd.call _ (rtext_c _ hs hz H HX.out))))))
      refine wpQuiet_nil ?_
      rintro _ ⟨nq, rfl⟩
      go_wp2
      go_ret
      exact ⟨rfl, (L1.out.trans (L2.out.mono L1.out.size)).trans (nq.h.mono (by have := L1.out.size; omega))⟩
end Go.Proofs.Ytoegpjfpfhjbkaa
