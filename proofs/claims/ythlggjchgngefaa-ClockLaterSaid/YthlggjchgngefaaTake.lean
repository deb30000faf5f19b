/- A number is taken off a text: the program. -/
import Derived.Test.YthlggjchgngefaaRefParse
namespace Go.Proofs.Ythlggjchgngefaa
open Go.RowKit

theorem conv_bytes (w : World) (s : ByteArray) : ∃ cap W, (convert 9 59 (.string s)).run Try.prog w = .ok (.slice (some ⟨w.heap.size, 0, none⟩) s.size cap) W ∧ s.size ≤ cap ∧ Below w.heap.size w W ∧ w.heap.size < W.heap.size ∧ ∀ j, j < s.size → W.cell? ⟨w.heap.size, j, none⟩ = some (.int .u8 (bt s j : Int)) := by
  refine ⟨_, _, Go.Lib.run_convert_string_bytes w _ _ 5 s Try.underlying9 Try.underlying59 Try.underlying5, ?_, ?_, by rw [Go.Lib.bytesWorld_size]; omega, fun j hj => Go.Lib.bytesWorld_cell w _ s j hj⟩
  · exact grownCap_ge w _ _ _
  · exact ⟨rfl, rfl, rfl, by rw [Go.Lib.bytesWorld_size]; omega, fun k hk => Go.Lib.bytesWorld_at_old w _ s k hk⟩
theorem list_cut (S : ByteArray) (j n : Nat) : ((S.extract j S.size).extract 0 n).toList = (S.data.toList.drop j).take n := by
  rw [ByteArray.toList_eq]
  simp
  omega
theorem list_rest (S : ByteArray) (j n : Nat) : ((S.extract j S.size).extract n (S.size - j)).data.toList = S.data.toList.drop (j + n) := by
  simp
  refine List.take_of_length_le ?_
  have : S.data.size = S.size := rfl
  simp
  omega

def takeN (S : ByteArray) (k : Nat) (t : ByteArray) : Option Int := if (S.data.toList.drop k).take t.size = t.data.toList then Cal.num (seg S 0 k) 0 else none
def TakeAns (w : World) (b : Nat) (S : ByteArray) (k : Nat) (t : ByteArray) (e : Ending) (w' : World) : Prop :=
  Mod (fun j => j = b) w w' ∧ ((∃ x, takeN S k t = some x ∧ e = .returned (.tuple #[.int .i64 x, .bool true]) ∧ ∃ T : ByteArray, T.data.toList = S.data.toList.drop (k + t.size) ∧ Fn w' b 9 1 (fun _ => .string T)) ∨
    (takeN S k t = none ∧ e = .returned (.tuple #[.int .i64 0, .bool false])))
theorem num_step {S : ByteArray} {i j : Nat} (h : i + j < S.size) : Cal.num (seg S i (j + 1)) 0 = (Cal.num (seg S i j) 0).bind fun x => if 48 ≤ bt S (i + j) ∧ bt S (i + j) ≤ 57 then some (x * 10 + ((bt S (i + j) : Int) - 48)) else none := by
  rw [seg_succ h, num_snoc, bt_get h]
theorem bt_extract {S : ByteArray} {k j : Nat} (hj : j < k) : bt (S.extract 0 k) j = bt S j := by
  unfold bt
  congr 1
  simp [hj]

set_option maxRecDepth 100000 in
set_option maxHeartbeats 4000000 in
theorem take_c (w : World) (b : Nat) (S t : ByteArray) (k : Nat) (hk : k ≤ S.size) (hk4 : k ≤ 4) (F : Fn w b 9 1 (fun _ => .string S)) :
    Calls Try.prog 28 #[.pointer (some ⟨b, 0, none⟩), .int .i64 k, .string t] w fun e w' => TakeAns w b S k t e w' := by
  obtain ⟨cap, W, hcv, hcap, hbW, hW, hcell⟩ := conv_bytes w (S.extract 0 k)
  have hb := F.lt
  have hc := F.cell (j := 0) (by omega)
  have hf := F.frozen 0
  have FW := hid (F.below hbW hb)
  clear F
  have LW := hid hbW
  have HC := hid hcell
  have hc2 : W.cell? ⟨b, 0, none⟩ = some (.string S) := (hbW.cell hb).trans hc
  have hf2 : W.frozen? ⟨b, 0, none⟩ = false := (hbW.frozen (p := ⟨b, 0, none⟩) hb).trans hf
  have hb2 : b < W.heap.size := by omega
  have HF := hid hf
  clear hbW hcell hf
  go_enter Try.func28, Try.ntmps28
  go_wp2_with fail
  have HC0 := hid hc
  clear hc hcv
  go_loop [8, 10, 19] (fun v8 _ v19 => ∃ (j : Nat) (x : Int), j ≤ k ∧ v19 = .int .i64 j ∧ v8 = .int .i64 x ∧ 0 ≤ x ∧ x < 10 ^ j ∧ Hid (Cal.num (seg S 0 j) 0 = some x)) (fun _ _ v19 => 40 - (intOf v19).toNat)
  case atStart => exact ⟨0, 0, by omega, by simp, rfl, by omega, by simp, hid rfl⟩
  case round =>
    obtain ⟨j, x, hj, rfl, rfl, hx0, hx1, HX⟩ := hrel
    have hx2 : x < 10000 := by
      have : j = 0 ∨ j = 1 ∨ j = 2 ∨ j = 3 ∨ j = 4 := by omega
      rcases this with rfl | rfl | rfl | rfl | rfl <;> simp at hx1 <;> omega
    have HX1 := hid hx1
    clear hx1
    by_cases hlt : j < k
    · have y0 : W.cell? ⟨w.heap.size, j, none⟩ = some (.int .u8 (bt S j : Int)) := by
        rw [HC.out j (by simp; omega), bt_extract hlt]
      have HN := hid (num_step (S := S) (i := 0) (j := j) (by omega))
      have h255 : bt S j < 256 := UInt8.toNat_lt _
      by_cases hd : 48 ≤ bt S j ∧ bt S j ≤ 57
      · obtain ⟨hc1, hc2'⟩ := hd
        go_wp2
        all_goals first | (exfalso; omega) | skip
        go_round
        case measure => simp [intOf]; omega
        case rel =>
          refine ⟨j + 1, x * 10 + ((bt S j : Int) - 48), by omega, by go_num, rfl, by omega, ?_, hid ?_⟩
          · have := HX1.out
            rw [Int.pow_succ]; omega
          · rw [HN.out, HX.out]
            simp only [Option.bind_some, Nat.zero_add]
            rw [if_pos ⟨hc1, hc2'⟩]
      · have hc' : bt S j < 48 ∨ 57 < bt S j := by omega
        have HR := hid (show takeN S k t = none by
          unfold takeN
          obtain ⟨r, hr⟩ := seg_le (s := S) (at_ := 0) (k := j + 1) (m := k) (by omega)
          rw [hr, num_none _ _ _ (by rw [HN.out, HX.out]; simp only [Option.bind_some, Nat.zero_add]; rw [if_neg hd])]
          split <;> rfl)
        clear hd
        go_wp2
        all_goals first | (exfalso; omega) | skip
        all_goals
          go_ret2
          exact ⟨Mod.of_below LW.out _, Or.inr ⟨HR.out, rfl⟩⟩
    · have : j = k := by omega
      subst this
      go_wp2
      · go_ret2
        refine ⟨Mod.of_below LW.out _, Or.inr ⟨?_, rfl⟩⟩
        have hx : ¬ (((S.extract j S.size).extract 0 t.size).toList = t.toList) := by
          rcases (by assumption : S.size - j < t.size ∨ (!((S.extract j S.size).extract 0 t.size).toList == t.toList) = true) with h | h
          · omega
          · simpa using h
        rw [list_cut, ByteArray.toList_eq] at hx
        unfold takeN
        rw [if_neg hx]
      · go_ret2
        have hx : ((S.extract j S.size).extract 0 t.size).toList = t.toList := by simpa using (by assumption : ¬ S.size - j < t.size ∧ (!((S.extract j S.size).extract 0 t.size).toList == t.toList) = false).2
        rw [list_cut, ByteArray.toList_eq] at hx
        refine ⟨(Mod.of_below LW.out (fun j => j = b)).setCell (p := ⟨b, 0, none⟩) (fun _ => rfl) _, Or.inl ⟨x, ?_, rfl, _, list_rest S j t.size, ?_⟩⟩
        · unfold takeN
          rw [if_pos hx, HX.out]
        · exact (FW.out.set 0 _).congr (fun j hj => by
            have : j = 0 := by omega
            subst this; rfl)
      · go_ret2
        refine ⟨Mod.of_below LW.out _, Or.inr ⟨?_, rfl⟩⟩
        unfold takeN
        rw [if_neg (fun h => by
          have := congrArg List.length h
          simp at this
          omega)]
end Go.Proofs.Ythlggjchgngefaa
