/- catalog.IsName, and the document's. -/
import Derived.Test.YtpbkdjnogjmfcaaOw
import Derived.LoopTactic
import Derived.Laws.RangeAny
import Derived.Lib.OthersKept
namespace Go.Proofs.Ytpbkdjnogjmfcaa
open Go.RowKit Go.ChangeMaps

def sgn (x : Nat) : Bool := (decide (97 ≤ x) && decide (x ≤ 122)) || (decide (48 ≤ x) && decide (x ≤ 57)) || decide (x = 45)
/-- A name: signs alone, one at least, twelve at most. -/
def isName (s : ByteArray) : Prop := (∀ i, i < s.size → sgn (s.get! i).toNat = true) ∧ 1 ≤ s.size ∧ s.size ≤ 12
instance (s : ByteArray) : Decidable (isName s) := by unfold isName; infer_instance
set_option maxRecDepth 100000 in
theorem isSign_c (w : World) (x : Nat) : Calls Try.prog 57 #[.int .i32 x] w fun e w' => e = .returned (.bool (sgn x)) ∧ w = w' := by
  by_cases h1 : 97 ≤ x
  · have h1i : (97 : Int) ≤ (x : Int) := by omega
    by_cases h2 : x ≤ 122
    · have h2i : (x : Int) ≤ (122 : Int) := by omega
      go_enter Try.func57, Try.ntmps57
      go_wp2
      go_ret
      exact ⟨by simp [sgn, h1, h2], rfl⟩
    · have h2i : ¬ (x : Int) ≤ (122 : Int) := by omega
      have h3i : ¬ (x : Int) ≤ (57 : Int) := by omega
      have h4i : (48 : Int) ≤ (x : Int) := by omega
      have h5i : ((x : Int) == 45) = false := by simp; omega
      go_enter Try.func57, Try.ntmps57
      go_wp2
      go_ret
      exact ⟨by simp [sgn, h2, show ¬ x ≤ 57 by omega, show ¬ x = 45 by omega], rfl⟩
  · have h1i : ¬ (97 : Int) ≤ (x : Int) := by omega
    by_cases h2 : 48 ≤ x
    · have h2i : (48 : Int) ≤ (x : Int) := by omega
      by_cases h3 : x ≤ 57
      · have h3i : (x : Int) ≤ (57 : Int) := by omega
        go_enter Try.func57, Try.ntmps57
        go_wp2
        go_ret
        exact ⟨by simp [sgn, h2, h3], rfl⟩
      · have h3i : ¬ (x : Int) ≤ (57 : Int) := by omega
        have h5i : ((x : Int) == 45) = false := by simp; omega
        go_enter Try.func57, Try.ntmps57
        go_wp2
        go_ret
        exact ⟨by simp [sgn, h1, h3, show ¬ x = 45 by omega], rfl⟩
    · have h2i : ¬ (48 : Int) ≤ (x : Int) := by omega
      by_cases h5 : x = 45
      · subst h5
        go_enter Try.func57, Try.ntmps57
        go_wp2
        go_ret
        exact ⟨by simp [sgn], rfl⟩
      · have h5i : ((x : Int) == 45) = false := by simp; omega
        go_enter Try.func57, Try.ntmps57
        go_wp2
        go_ret
        exact ⟨by simp [sgn, h1, h2, h5], rfl⟩
theorem below_iter (w : World) (s : ByteArray) (pos : Nat) : Below w.heap.size w (w.iter s pos) := (Below.refl _ w).alloc (Nat.le_refl _) _
theorem empty_iff (s : ByteArray) : s.toList.isEmpty = decide (s.size = 0) := by
  rw [ByteArray.toList_eq]
  have : s.size = s.data.toList.length := by rw [Array.length_toList]; rfl
  rw [this]
  cases s.data.toList with
  | nil => rfl
  | cons a l => simp
theorem isName_no {s : ByteArray} {i : Nat} (h : i < s.size) (hn : sgn (s.get! i).toNat = false) : decide (isName s) = false := by
  refine decide_eq_false (fun hc => ?_)
  rw [hc.1 i h] at hn; cases hn
theorem isName_all {s : ByteArray} (h : ∀ i, i < s.size → sgn (s.get! i).toNat = true) : decide (isName s) = (decide (1 ≤ s.size) && decide (s.size ≤ 12)) := by
  have : isName s ↔ (1 ≤ s.size ∧ s.size ≤ 12) := ⟨fun hc => hc.2, fun hc => ⟨h, hc⟩⟩
  simp [this]
theorem sgn_high {x : Nat} (h : 128 ≤ x) : sgn x = false := by unfold sgn; simp; omega
set_option maxRecDepth 100000 in
set_option maxHeartbeats 1000000 in
theorem isName_c (w : World) (s : ByteArray) : Calls Try.prog 46 #[.string s] w fun e w' => e = .returned (.bool (decide (isName s))) ∧ Below w.heap.size w w' := by
  have hE := empty_iff s
  obtain ⟨q, hq⟩ : ∃ q, q = decide (isName s) := ⟨_, rfl⟩
  have HQ := hid hq
  rw [← hq]
  clear hq
  go_enter Try.func46, Try.ntmps46
  go_wp2
  go_loopw [] (fun w' => ∃ pos : Nat, w' = w.iter s pos ∧ pos ≤ s.size ∧ Hid (∀ i, i < pos → sgn (s.get! i).toNat = true)) (fun w' => s.size - w'.iterPos w.heap.size)
  case atStart => exact ⟨0, rfl, by omega, hid (fun i hi => by omega)⟩
  case round =>
    obtain ⟨pos, rfl, hpos, hall⟩ := hrel
    by_cases hp : pos < s.size
    · have hget : s.get! pos = s[pos]'hp := get_at s pos hp
      by_cases ha : (s[pos]'hp).toNat < 128
      · have hnx : ∀ ty, (Instr.next (.pointer (some ⟨w.heap.size, 0, none⟩)) true ty).run Try.prog (w.iter s pos) = _ := fun ty => run_next_ascii w s pos ty hp ha
        rw [← hget] at hnx
        obtain ⟨x, hx⟩ : ∃ x, x = (s.get! pos).toNat := ⟨_, rfl⟩
        rw [← hx] at hnx
        clear hget ha
        by_cases hs : sgn x = true
        · have HS := hid (show Calls Try.prog 57 #[.int .i32 x] (w.iter s (pos + 1)) fun e w' => e = .returned (.bool true) ∧ w.iter s (pos + 1) = w' from by have := isSign_c (w.iter s (pos + 1)) x; rwa [hs] at this)
          have hs2 := hid (show ∀ i, i < pos + 1 → sgn (s.get! i).toNat = true from fun i hi => by
            by_cases e : i = pos
            · subst e; rw [← hx]; exact hs
            · exact hall.out i (by omega))
          clear hs hx hall
          go_wp2_with (go_at_call 57; refine HS.out.mono ?_; rintro e w1 ⟨rfl, rfl⟩)
          go_roundw
          case rel => exact ⟨pos + 1, rfl, by omega, hs2⟩
          case measure => simp; omega
        · have HS := hid (show Calls Try.prog 57 #[.int .i32 x] (w.iter s (pos + 1)) fun e w' => e = .returned (.bool false) ∧ w.iter s (pos + 1) = w' from by have := isSign_c (w.iter s (pos + 1)) x; rwa [Bool.eq_false_iff.2 hs] at this)
          have hq0 := hid (show q = false from HQ.out.trans (isName_no hp (by rw [← hx]; exact Bool.eq_false_iff.2 hs)))
          have hb := hid (below_iter w s (pos + 1))
          clear hs hx hall
          go_wp2_with (go_at_call 57; refine HS.out.mono ?_; rintro e w1 ⟨rfl, rfl⟩)
          go_ret
          exact ⟨by rw [hq0.out]; rfl, hb.out⟩
      · have hnx : ∀ ty, (Instr.next (.pointer (some ⟨w.heap.size, 0, none⟩)) true ty).run Try.prog (w.iter s pos) = _ := fun ty => run_next_any w s pos ty hp
        have hd := (decode_high s pos hp (by omega)).1
        obtain ⟨x, hx⟩ : ∃ x, x = (Utf8.decode s pos).1 := ⟨_, rfl⟩
        obtain ⟨y, hy⟩ : ∃ y, y = (Utf8.decode s pos).2 := ⟨_, rfl⟩
        rw [← hx, ← hy] at hnx
        rw [← hx] at hd
        have HS := hid (show Calls Try.prog 57 #[.int .i32 x] (w.iter s (pos + y)) fun e w' => e = .returned (.bool false) ∧ w.iter s (pos + y) = w' from by have := isSign_c (w.iter s (pos + y)) x; rwa [sgn_high hd] at this)
        have hq0 := hid (show q = false from HQ.out.trans (isName_no hp (by rw [hget]; exact sgn_high (by omega))))
        have hb := hid (below_iter w s (pos + y))
        clear hd hget ha hx hy hall
        go_wp2_with (go_at_call 57; refine HS.out.mono ?_; rintro e w1 ⟨rfl, rfl⟩)
        go_ret
        exact ⟨by rw [hq0.out]; rfl, hb.out⟩
    · have hnx : ∀ ty, (Instr.next (.pointer (some ⟨w.heap.size, 0, none⟩)) true ty).run Try.prog (w.iter s pos) = _ := fun ty => run_next_end w s pos ty hp
      have hq1 := hid (show q = (decide (1 ≤ s.size) && decide (s.size ≤ 12)) from HQ.out.trans (isName_all (fun i hi => hall.out i (by omega))))
      have hb := hid (below_iter w s pos)
      clear hall HQ
      by_cases h0 : s.size = 0
      · rw [h0] at hE
        have hE2 : s.toList.isEmpty = true := by rw [hE]; rfl
        clear hE
        go_wp2
        go_ret
        exact ⟨by rw [hq1.out, h0]; rfl, hb.out⟩
      · have hE2 : s.toList.isEmpty = false := by rw [hE]; exact decide_eq_false h0
        clear hE
        go_wp2
        go_ret
        refine ⟨?_, hb.out⟩
        rw [hq1.out]
        by_cases h12 : s.size ≤ 12
        · simp [h12, show 1 ≤ s.size by omega]; omega
        · simp [h12]; omega
set_option maxRecDepth 100000 in
set_option maxHeartbeats 1000000 in
theorem rname_c (w : World) (s : ByteArray) (hsz : s.size ≤ 9223372036854775807) : Calls Try.prog 23 #[.string s] w fun e w' => e = .returned (.bool (decide (isName s))) ∧ w = w' := by
  obtain ⟨q, hq⟩ : ∃ q, q = decide (isName s) := ⟨_, rfl⟩
  have HQ := hid hq
  rw [← hq]
  clear hq
  go_enter Try.func23, Try.ntmps23
  go_wp2
  go_loopg [3] s.size (fun g v3 wr => ∃ k : Nat, v3 = .int .i64 k ∧ g = s.size - k ∧ k ≤ s.size ∧ Hid (∀ i, i < k → sgn (s.get! i).toNat = true) ∧ w = wr)
  case atStart => exact ⟨0, rfl, rfl, by omega, hid (fun i hi => by omega), rfl⟩
  case round =>
    obtain ⟨k, rfl, hg, hk, hall, rfl⟩ := hrel
    by_cases hks : k < s.size
    · have hget : s.get! k = s[k]'hks := get_at s k hks
      go_upto_region 5 with fail
      rw [← hget]
      obtain ⟨x, hx⟩ : ∃ x, x = (s.get! k).toNat := ⟨_, rfl⟩
      rw [← hx]
      have HX := hid hx
      clear hget hx
      go_cut [31] from 14 to 31 (fun v31 wr => v31 = .bool (!sgn x) ∧ w = wr)
      case first =>
        by_cases h1 : 97 ≤ x
        · have h1i : ¬ (x : Int) < (97 : Int) := by omega
          by_cases h2 : x ≤ 122
          · have h2i : ¬ (122 : Int) < (x : Int) := by omega
            go_wp2
            go_meet
            case rel => exact ⟨by simp [sgn, h1, h2], rfl⟩
          · have h2i : (122 : Int) < (x : Int) := by omega
            have h3i : (57 : Int) < (x : Int) := by omega
            have h4i : ¬ (x : Int) < (48 : Int) := by omega
            have h5i : ((x : Int) == 45) = false := by simp; omega
            go_wp2
            go_meet
            case rel => exact ⟨by simp [sgn, h2, show ¬ x ≤ 57 by omega, show ¬ x = 45 by omega]; omega, rfl⟩
        · have h1i : (x : Int) < (97 : Int) := by omega
          by_cases h2 : 48 ≤ x
          · have h2i : ¬ (x : Int) < (48 : Int) := by omega
            by_cases h3 : x ≤ 57
            · have h3i : ¬ (57 : Int) < (x : Int) := by omega
              go_wp2
              go_meet
              case rel => exact ⟨by simp [sgn, h2, h3], rfl⟩
            · have h3i : (57 : Int) < (x : Int) := by omega
              have h5i : ((x : Int) == 45) = false := by simp; omega
              go_wp2
              go_meet
              case rel => exact ⟨by simp [sgn, h1, h3, show ¬ x = 45 by omega]; omega, rfl⟩
          · have h2i : (x : Int) < (48 : Int) := by omega
            by_cases h5 : x = 45
            · subst h5
              go_wp2
              go_meet
              case rel => exact ⟨by simp [sgn], rfl⟩
            · have h5i : ((x : Int) == 45) = false := by simp; omega
              go_wp2
              go_meet
              case rel => exact ⟨by simp [sgn, h1, h2, h5]; omega, rfl⟩
      case rest =>
        obtain ⟨rfl, rfl⟩ := hcut
        by_cases hs : sgn x = true
        · have hs2 := hid (show ∀ i, i < k + 1 → sgn (s.get! i).toNat = true from fun i hi => by
            by_cases e : i = k
            · subst e; rw [← HX.out]; exact hs
            · exact hall.out i (by omega))
          rw [hs]
          simp only [Bool.not_true]
          go_wp2
          go_roundg (s.size - (k + 1))
          case measure => omega
          case rel => exact ⟨k + 1, by go_num, rfl, by omega, hs2, rfl⟩
        · have hs' := Bool.eq_false_iff.2 hs
          have hq0 := hid (show q = false from HQ.out.trans (isName_no hks (by rw [← HX.out]; exact hs')))
          rw [hs']
          simp only [Bool.not_false]
          go_wp2
          go_ret
          exact ⟨by rw [hq0.out]; rfl, rfl⟩
    · have hks' : k = s.size := by omega
      have hq1 := hid (show q = (decide (1 ≤ s.size) && decide (s.size ≤ 12)) from HQ.out.trans (isName_all (fun i hi => hall.out i (by omega))))
      clear hall HQ
      obtain ⟨n, hn⟩ : ∃ n, n = s.size := ⟨_, rfl⟩
      have hni : (s.size : Int) = (n : Int) := by rw [hn]
      by_cases h0 : k = 0
      · have h0i : ¬ (1 : Int) ≤ (s.size : Int) := by omega
        go_wp2
        go_ret
        exact ⟨by rw [hq1.out]; simp; omega, rfl⟩
      · have h0i : (1 : Int) ≤ (s.size : Int) := by omega
        go_wp2
        go_ret
        refine ⟨?_, rfl⟩
        rw [hq1.out]
        by_cases h12 : s.size ≤ 12
        · simp [h12, show 1 ≤ s.size by omega]; omega
        · simp [h12]; omega
end Go.Proofs.Ytpbkdjnogjmfcaa
