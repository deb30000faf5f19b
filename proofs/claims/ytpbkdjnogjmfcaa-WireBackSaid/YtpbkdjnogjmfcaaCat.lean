/- slices.Grow and slices.Concat of bytes. -/
import Derived.Test.YtpbkdjnogjmfcaaNum1
import Derived.Lib.AppendZeros
import Derived.IntWalk
namespace Go.Proofs.Ytpbkdjnogjmfcaa
open Go.RowKit Go.ChangeMaps

theorem Bytes.lens {w : World} {v : Value} {xs : List W8} (h : Bytes w v xs) : ∃ p c, v = .slice p xs.length c := by obtain ⟨p, c, h, _⟩ := h; exact ⟨p, c, h⟩

set_option maxRecDepth 100000 in
set_option maxHeartbeats 1000000 in
theorem grow_c (w : World) (n : Nat) (hn : n ≤ 100000) :
    Calls Try.prog 55 #[.slice none 0 0, .int .i64 n] w fun e w' => ∃ v, e = .returned v ∧ Ow w' w.heap.size v [] ∧ Below w.heap.size w w' := by
  have hneg : ¬ (n : Int) < 0 := by omega
  by_cases h0 : n = 0
  · subst h0
    go_enter Try.func55, Try.ntmps55
    go_wp2
    go_ret
    exact ⟨_, rfl, Ow.nil _ _, Below.refl _ _⟩
  · obtain ⟨i0, hi, hz0, hz1, hz2⟩ := info_parts info5
    have hnp : (0 : Int) < (n : Int) := by omega
    have hr := hid (Go.Lib.run_append_nil_zeros (P := Try.prog) w 28 3 28 5 i0 (.int .u8 0) .i64 .i64 Try.underlying28 Try.underlying3 hi hz0 n (by omega) (by rw [hz1]; decide) (by omega) (by rw [hz2]; omega))
    clear hi hz0 hz1 hz2
    obtain ⟨cap, hcap⟩ : ∃ cap, cap = grownCap w n 0 5 := ⟨_, rfl⟩
    obtain ⟨cs, hcs⟩ : ∃ cs : Array Value, cs = Builtin.zeroCells (Value.int .u8 0).cells n ++ Builtin.zeroCells (Value.int .u8 0).cells (grownCap w n 0 5 - n) := ⟨_, rfl⟩
    have hsz := hid (show cs.size = cap from by
      have := grownCap_ge w n 0 5
      have z : ∀ k, (Builtin.zeroCells (Value.int .u8 0).cells k).size = k := fun k => by simp [Builtin.zeroCells, show (Value.int .u8 0).cells.size = 1 from rfl]
      rw [hcs, Array.size_append, z, z, hcap]; omega)
    have hml := hid (show cap ≤ maxLen from by rw [hcap]; exact grownCap_le_maxLen _ _ _ _ (by unfold maxLen; omega))
    rw [← hcs, ← hcap] at hr
    clear hcs hcap
    go_enter Try.func55, Try.ntmps55
    go_wp2_with (at_builtin; refine Go.Lib.wpList_append_run w rfl (.tmp 20) (.tmp 21) 28 3 rfl _ _ rfl rfl _ _ hr.out ?_)
    go_ret
    refine ⟨_, rfl, ⟨rfl, Or.inr ⟨w.heap.size, cap, cs, rfl, Nat.le_refl _, Blk.new w.drew cs _, Nat.zero_le _, hml.out, by rw [hsz.out, Nat.mul_one], by simp [byv]⟩⟩, ?_⟩
    exact ((Below.refl _ w).drew).alloc (Nat.le_refl _) _
theorem flat_le {X : Nat → List W8} {n : Nat} : ∀ k, k ≤ n → (flat X k).length ≤ (flat X n).length := by
  induction n with
  | zero => intro k hk; have : k = 0 := by omega
            subst this; exact Nat.le_refl _
  | succ n ih =>
    intro k hk
    by_cases e : k = n + 1
    · subst e; exact Nat.le_refl _
    · have := ih k (by omega)
      show _ ≤ (flat X n ++ X n).length
      rw [List.length_append]; omega
set_option maxRecDepth 100000 in
set_option maxHeartbeats 2000000 in
theorem concat_c {w : World} {p : Option Addr} {n cap : Nat} {X : Nat → List W8} (hP : Parts w p n X) (hn : n ≤ 100) (hcap : n ≤ cap) (hlen : (flat X n).length ≤ 100000) :
    Calls Try.prog 39 #[.slice p n cap] w fun e w' => ∃ v, e = .returned v ∧ Ow w' w.heap.size v (flat X n) ∧ Below w.heap.size w w' := by
  have HP := hid hP
  have HL := hid (fun k (hk : k ≤ n) => flat_le (X := X) k hk)
  have hlen' := hid hlen
  clear hP
  go_enter Try.func39, Try.ntmps39
  have hstep := hid (fun k => show (flat X (k + 1)).length = (flat X k).length + (X k).length from List.length_append)
  obtain ⟨ln, hln⟩ : ∃ ln, ln = (flat X n).length := ⟨_, rfl⟩
  have hln' := hid hln
  rw [← hln] at hlen
  clear hln
  go_upto_block 0 with fail
  go_cut [3] from 11 to 22 (fun v3 wr => v3 = .int .i64 ln ∧ w = wr)
  case first =>
    go_upto_region 3 with fail
    go_loopg [3, 11] n (fun g v3 v11 wr => ∃ i : Nat, v11 = .int .i64 i ∧ v3 = .int .i64 (flat X i).length ∧ g = n - i ∧ i ≤ n ∧ w = wr)
    case atStart => exact ⟨0, rfl, rfl, rfl, Nat.zero_le _, rfl⟩
    case round =>
      obtain ⟨i, rfl, rfl, hg, hi, rfl⟩ := hrel
      by_cases hlt : i < n
      · have hlti : (i : Int) < (n : Int) := by omega
        have hcapi : (n : Int) ≤ (cap : Int) := by omega
        obtain ⟨b, off, V, rfl, hbl, hcell, hV, _⟩ := HP.out i hlt
        obtain ⟨pV, cV, rfl⟩ := hV.lens
        obtain ⟨a, ha⟩ : ∃ a, a = (flat X i).length := ⟨_, rfl⟩
        obtain ⟨l, hl⟩ : ∃ l, l = (X i).length := ⟨_, rfl⟩
        have hs := hid (hstep.out i)
        have hb1 := HL.out (i + 1) (by omega)
        have hal : a + l ≤ 100000 := by have := hs.out; have := hln'.out; omega
        rw [← ha, ← hl] at hs
        rw [← hl] at hcell
        rw [← ha]
        clear ha hl hV hb1
        go_wp2
        go_roundg (n - (i + 1))
        case measure => omega
        case rel => exact ⟨i + 1, by go_num, by rw [hs.out]; go_num, rfl, by omega, rfl⟩
      · have hlti : ¬ (i : Int) < (n : Int) := by omega
        have hin : i = n := by omega
        have hfl := hid (show (flat X i).length = ln by rw [hin, hln'.out])
        clear hin
        go_wp2
        go_meet
        case rel => exact ⟨by rw [hfl.out], rfl⟩
  case rest =>
    obtain ⟨rfl, rfl⟩ := hcut
    have HG := hid (grow_c w ln hlen)
    go_wp2_with (go_at_call 55; refine HG.out.mono ?_; rintro e w1 ⟨v1, rfl, O1, L1⟩; have O1' := hid O1; have L1' := hid L1; clear O1 L1)
    go_loopg [6, 27] n (fun g v6 v27 wr => ∃ i : Nat, v27 = .int .i64 i ∧ g = n - i ∧ i ≤ n ∧ Hid (Ow wr w.heap.size v6 (flat X i)) ∧ Hid (Below w.heap.size w wr))
    case atStart => exact ⟨0, rfl, rfl, Nat.zero_le _, O1', L1'⟩
    case round =>
      obtain ⟨i, rfl, hg, hi, O, L⟩ := hrel
      by_cases hlt : i < n
      · have hlti : (i : Int) < (n : Int) := by omega
        have hcapi : (n : Int) ≤ (cap : Int) := by omega
        obtain ⟨b, off, V, rfl, hbl, hcell, hV, _⟩ := HP.out i hlt
        obtain ⟨pV, cV, rfl⟩ := hV.lens
        have hcell' : wr.cell? ⟨b, off + i, none⟩ = some (.slice pV (X i).length cV) := (L.out.cell (p := ⟨b, off + i, none⟩) hbl).trans hcell
        have hVr := hid (hV.below L.out)
        have hle := hid (show (flat X i).length + (X i).length ≤ 1000000 from by have := hstep.out i; have := HL.out (i + 1) (by omega); have := hlen'.out; omega)
        clear hcell hV
        go_wp2_with (at_builtin; refine wpList_app rfl (.tmp 31) (.tmp 32) rfl rfl rfl O.out hVr.out hle.out L.out.size ?_; intro v5 w5 O5 M5 _; have O5' := hid O5; have L5' := hid (M5.own_below O.out L.out.size L.out); clear O5 M5)
        go_roundg (n - (i + 1))
        case measure => omega
        case rel => exact ⟨i + 1, by go_num, rfl, by omega, O5', L5'⟩
      · have hlti : ¬ (i : Int) < (n : Int) := by omega
        have hin : i = n := by omega
        have O' := hid (show Ow wr w.heap.size u6 (flat X n) from by rw [← hin]; exact O.out)
        clear hin
        go_wp2
        go_ret
        exact ⟨_, rfl, O'.out, L.out⟩
end Go.Proofs.Ytpbkdjnogjmfcaa
