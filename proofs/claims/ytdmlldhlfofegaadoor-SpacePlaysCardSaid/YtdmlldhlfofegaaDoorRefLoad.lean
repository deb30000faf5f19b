/- The document's map: Load. -/
import Derived.Test.YtdmlldhlfofegaaDoorRefFree
namespace Go.Proofs.YtdmlldhlfofegaaDoor
open Go.RowKit

theorem str_of_list {a b : ByteArray} (h : (a.toList == b.toList) = true) : a = b := by
  rw [ByteArray.toList_eq, ByteArray.toList_eq] at h
  exact ByteArray.ext (Array.toList_inj.1 (by simpa using h))
theorem rload_arg (w : World) (s : Value) (n : Int) (h : n < 16 ∨ 512 < n) : Calls Tryd.prog 27 #[s, .int .i64 n] w fun e w' => e = .returned (.tuple #[.agg #[.slice none 0 0], .int .i64 1]) ∧ Below w.heap.size w w' := by
  go_enter Tryd.func27, Tryd.ntmps27
  obtain ⟨w1, hw1⟩ : ∃ w1, w1 = w.alloc (.cells #[.slice none 0 0] 41) := ⟨_, rfl⟩
  have HB := hid (show Blk w1 w.heap.size #[.slice none 0 0] 41 by rw [hw1]; exact Blk.new w _ _)
  have HL := hid (show Below w.heap.size w w1 by rw [hw1]; exact (Below.refl w.heap.size w).alloc (Nat.le_refl _) _)
  have hs1 := hid (show w.heap.size < w1.heap.size from HB.out.lt)
  go_upto_region 1 with fail
  rw [← hw1]
  clear hw1
  go_wp2_with (go_at_call 15; refine (rnew_no _ n h).mono ?_; rintro e w2 ⟨rfl, Lx⟩; have HB2 := hid ((HB.out.of_block (Lx.block _ hs1.out)).alloc (.cells #[.slice none 0 0] 41)); have HL2 := hid ((HL.out.trans (Lx.mono HL.out.size)).alloc (by have := HL.out.size; have := Lx.size; omega) (.cells #[.slice none 0 0] 41)); have c0 := HB2.out.cellv (i := 0) rfl; have f0 := HB2.out.frozen 0; clear Lx)
  refine ret_map rfl rfl rfl rfl (HB2.out.set 0 (.slice none 0 0)) rfl ⟨rfl, ?_⟩
  exact (((Mod.of_below HL2.out (fun c => w.heap.size ≤ c)).setCell (p := ⟨w.heap.size, 0, none⟩) (fun _ => Nat.le_refl _) _).below (Nat.le_refl _) (fun c hc h => by omega))
set_option maxRecDepth 100000 in
set_option maxHeartbeats 4000000 in
theorem rload_len (w : World) (p : Option Addr) (len cap n : Nat) (h1 : 16 ≤ n) (h2 : n ≤ 512) (hl : len ≠ 64) : Calls Tryd.prog 27 #[.slice p len cap, .int .i64 n] w fun e w' => e = .returned (.tuple #[.agg #[.slice none 0 0], .int .i64 3]) ∧ Below w.heap.size w w' := by
  have hl' : ¬ (len : Int) = 64 := by omega
  go_enter Tryd.func27, Tryd.ntmps27
  obtain ⟨w1, hw1⟩ : ∃ w1, w1 = w.alloc (.cells #[.slice none 0 0] 41) := ⟨_, rfl⟩
  have HB := hid (show Blk w1 w.heap.size #[.slice none 0 0] 41 by rw [hw1]; exact Blk.new w _ _)
  have HL := hid (show Below w.heap.size w w1 by rw [hw1]; exact (Below.refl w.heap.size w).alloc (Nat.le_refl _) _)
  have hs1 := hid (show w.heap.size < w1.heap.size from HB.out.lt)
  go_upto_region 1 with fail
  rw [← hw1]
  clear hw1
  go_upto_region 4 with (go_at_call 15; refine (rnew_yes _ n h1 h2).mono ?_; rintro e w2 ⟨v, rfl, hz2, rfl, F2, Lx⟩; have HB2 := hid (HB.out.of_block (Lx.block _ hs1.out)); have HL2 := hid (HL.out.trans (Lx.mono HL.out.size)); clear Lx F2 hz2)
  have HM3 := hid (Blk.new w2 #[.slice (some ⟨w1.heap.size + 1, 0, none⟩) n n] 41)
  have HB3 := hid (HB2.out.alloc (.cells #[.slice (some ⟨w1.heap.size + 1, 0, none⟩) n n] 41))
  have HL3 := hid (HL2.out.alloc (by have := HL2.out.size; omega) (.cells #[.slice (some ⟨w1.heap.size + 1, 0, none⟩) n n] 41))
  generalize w2.alloc (.cells #[.slice (some ⟨w1.heap.size + 1, 0, none⟩) n n] 41) = w3 at HM3 HB3 HL3 ⊢
  have c0 : w3.cell? ⟨w.heap.size, 0, none⟩ = some (.slice none 0 0) := HB3.out.cellv rfl
  have f0 := HB3.out.frozen 0
  go_wp2
  refine ret_map rfl rfl rfl rfl (HB3.out.set 0 (.slice none 0 0)) rfl ⟨rfl, ?_⟩
  exact (((Mod.of_below HL3.out (fun c => w.heap.size ≤ c)).setCell (p := ⟨w.heap.size, 0, none⟩) (fun _ => Nat.le_refl _) _).below (Nat.le_refl _) (fun c hc h => by omega))
set_option maxRecDepth 100000 in
set_option linter.unusedSimpArgs false in
set_option maxHeartbeats 4000000 in
theorem rload_c {w : World} {p off cap n : Nat} {B : Nat → W8} (hB : Bts w p off 64 B) (hp : p < w.heap.size) (h1 : 16 ≤ n) (h2 : n ≤ 512) :
    Calls Tryd.prog 27 #[.slice (some ⟨p, off, none⟩) 64 cap, .int .i64 n] w fun e w' => Below w.heap.size w w' ∧
      (strOf (rbt (rdB B) n) 64 = strOf B 64 → ∃ v, e = .returned (.tuple #[v, .int .i64 0]) ∧ RM w' v n (rdB B)) ∧
      (¬ strOf (rbt (rdB B) n) 64 = strOf B 64 → e = .returned (.tuple #[.agg #[.slice none 0 0], .int .i64 3])) := by
  have HBB := hid hB
  clear hB
  have n0 : (0 : Int) ≤ (n : Int) := Int.natCast_nonneg _
  go_enter Tryd.func27, Tryd.ntmps27
  obtain ⟨w1, hw1⟩ : ∃ w1, w1 = w.alloc (.cells #[.slice none 0 0] 41) := ⟨_, rfl⟩
  have HB := hid (show Blk w1 w.heap.size #[.slice none 0 0] 41 by rw [hw1]; exact Blk.new w _ _)
  have HL := hid (show Below w.heap.size w w1 by rw [hw1]; exact (Below.refl w.heap.size w).alloc (Nat.le_refl _) _)
  have hs1 := hid (show w.heap.size < w1.heap.size from HB.out.lt)
  go_upto_region 1 with fail
  rw [← hw1]
  clear hw1
  go_upto_region 4 with (go_at_call 15; refine (rnew_yes _ n h1 h2).mono ?_; rintro e w2 ⟨v, rfl, hz2, rfl, F2, Lx⟩; have HB2 := hid (HB.out.of_block (Lx.block _ hs1.out)); have HL2 := hid (HL.out.trans (Lx.mono HL.out.size)); have HF2 := hid F2; have hz2' := hid hz2; clear Lx F2 hz2)
  have HM3 := hid (Blk.new w2 #[.slice (some ⟨w1.heap.size + 1, 0, none⟩) n n] 41)
  have HB3 := hid (HB2.out.alloc (.cells #[.slice (some ⟨w1.heap.size + 1, 0, none⟩) n n] 41))
  have HL3 := hid (HL2.out.alloc (by have := HL2.out.size; omega) (.cells #[.slice (some ⟨w1.heap.size + 1, 0, none⟩) n n] 41))
  have HF3 := hid (HF2.out.alloc (.cells #[.slice (some ⟨w1.heap.size + 1, 0, none⟩) n n] 41))
  have hlt2 := HF2.out.lt
  generalize w2.alloc (.cells #[.slice (some ⟨w1.heap.size + 1, 0, none⟩) n n] 41) = w3 at HM3 HB3 HL3 HF3 ⊢
  clear HB2 HF2 hz2'
  go_wp2
  go_loopg [8] (n - 4) (fun g v8 wr => ∃ i : Nat, v8 = .int .i64 i ∧ g = n - i ∧ 4 ≤ i ∧ i ≤ n ∧ Hid (Fn wr (w1.heap.size + 1) 4 n (fun j => .bool (decide (j < 4) || (decide (j < i) && rdB B j)))) ∧ Hid (Mod (fun c => c = w1.heap.size + 1) w3 wr))
  case atStart =>
    refine ⟨4, rfl, rfl, by omega, by omega, hid (HF3.out.congr (fun j hj => ?_)), hid (Mod.refl _ _)⟩
    by_cases e : j < 4
    · rw [decide_eq_true e]; rfl
    · rw [decide_eq_false e]; rfl
  case round =>
    obtain ⟨i, rfl, hg, hi4, hi, FI, MI⟩ := hrel
    have hm3 : w2.heap.size < wr.heap.size := Nat.lt_of_lt_of_le HM3.out.lt MI.out.size
    have HMr := hid (HM3.out.of_block (MI.out.block _ HM3.out.lt (by omega)))
    have LWr := hid (show Below w.heap.size w wr from HL3.out.trans (MI.out.below HL3.out.size (fun c hc h => by have := hs1.out; omega)))
    have HBr := hid (show Bts wr p off 64 B from HBB.out.below hp LWr.out)
    have hp3 : p < wr.heap.size := Nat.lt_of_lt_of_le hp LWr.out.size
    by_cases hin : i < n
    · have cm : wr.cell? ⟨w2.heap.size, 0, none⟩ = some (.slice (some ⟨w1.heap.size + 1, 0, none⟩) n n) := HMr.out.cellv rfl
      have cb : wr.cell? ⟨p, off + i / 8, none⟩ = some (.int .u8 (ub (B (i / 8)))) := HBr.out (i / 8) (by omega)
      have cu : wr.cell? ⟨w1.heap.size + 1, i, none⟩ = some (.bool (decide (i < 4) || (decide (i < i) && rdB B i))) := FI.out.cell hin
      have fu : wr.frozen? ⟨w1.heap.size + 1, i, none⟩ = false := FI.out.frozen _
      have m0 : (0 : Int) ≤ (i : Int) := Int.natCast_nonneg _
      have m1 : (i : Int) < (n : Int) := by omega
      have m2 : (i : Int) < 512 := by omega
      have hbt := bit8_test (B (i / 8)) (i % 8)
      go_upto_region 9 with fail
      go_region
      go_wp2
      go_roundg (n - (i + 1))
      case measure => omega
      case rel =>
        refine ⟨i + 1, by go_num, rfl, by omega, by omega, hid (((FI.out.set i (.bool (BitVec.getLsbD (B (i / 8)) (i % 8)))).congr (fun j hj => ?_)).of_block rfl), hid (MI.out.setCell (p := ⟨w1.heap.size + 1, i, none⟩) (fun _ => rfl) _).drew⟩
        unfold set1
        by_cases e : j = i
        · subst e
          rw [if_pos rfl, decide_eq_false (show ¬ j < 4 by omega), decide_eq_true (show j < j + 1 by omega)]
          unfold rdB
          rw [decide_eq_false (show ¬ j < 4 by omega)]; rfl
        · rw [if_neg e]
          congr 3
          exact decide_eq_decide.2 (by omega)
    · have hi2 : i = n := by omega
      subst hi2
      clear hg hi4 hi hin
      have HRMr := hid (show RM wr (.agg #[.slice (some ⟨w1.heap.size + 1, 0, none⟩) i i]) i (rdB B) from ⟨_, _, rfl, Nat.le_refl _, by omega, FI.out.lt, fun j hj => by
        rw [FI.out.cell hj, decide_eq_true hj, Bool.true_and]
        unfold rdB
        cases decide (j < 4) <;> rfl⟩)
      have hrefl : ∀ w : World, Below w.heap.size w w := fun w => Below.refl _ _
      have HBW := hid (HB3.out.of_block (MI.out.block _ HB3.out.lt (by have := hs1.out; omega)))
      have hbw := HBW.out.lt
      obtain ⟨q, hq⟩ : ∃ q, ((strOf (rbt (rdB B) i) 64).toList == (strOf B 64).toList) = !q := ⟨!((strOf (rbt (rdB B) i) 64).toList == (strOf B 64).toList), by simp⟩
      have HQ := hid hq
      clear hq
      go_upto_region 10 with fail
      refine region_rel (n := 50) (B := fun w' => Below wr.heap.size wr w') (E := fun w w' => Below w.heap.size w w') (φ := (fun (k : Nat) (v : Value) (w : World) => if k = 1 then ∃ g : Nat, v = .slice (some ⟨g, 0, none⟩) 64 64 ∧ g < w.heap.size ∧ Bts w g 0 64 (rbt (rdB B) i) else v = ([.agg #[.slice (some ⟨w1.heap.size + 1, 0, none⟩) i i], undef, .string (strOf (rbt (rdB B) i) 64), .slice (some ⟨p, off, none⟩) 64 cap, .string (strOf B 64), .bool q] : List Value).getD k undef)) (by kernel_rfl) (by kernel_rfl) (by kernel_rfl) (by kernel_rfl) ?mono hrefl ((Below.refl _ _).drew) ?hop ?hend
      case mono =>
        intro j v w w' h hE
        split at h
        · rename_i hj
          subst hj
          obtain ⟨g, h1, h2, h3⟩ := h
          exact ⟨g, h1, Nat.lt_of_lt_of_le h2 hE.size, h3.below h2 hE⟩
        · rename_i hj
          rw [if_neg hj]
          exact h
      case hop =>
        refine And.intro ?_ ?_
        · intro V ρ w hB hc hf hd hs
          have s6 : ρ (.tmp 6) = .pointer (some ⟨w2.heap.size, 0, none⟩) := hs 6 (by kernel_rfl)
          clear hd hs
          have cm : w.cell? ⟨w2.heap.size, 0, none⟩ = some (.slice (some ⟨w1.heap.size + 1, 0, none⟩) i i) := (hB.cell hm3).trans (HMr.out.cellv rfl)
          exact outcome_value (v := .agg #[.slice (some ⟨w1.heap.size + 1, 0, none⟩) i i]) (by simp [go_sem, hc, hf, s6, cm]) ⟨rfl, hB, hrefl w⟩
        refine And.intro ?_ ?_
        · intro V ρ w hB hc hf hd hs
          have s42 : ρ (.tmp 42) = .agg #[.slice (some ⟨w1.heap.size + 1, 0, none⟩) i i] := (hd 0 (by kernel_rfl) 42 (by kernel_rfl)).2.trans (hd 0 (by kernel_rfl) 42 (by kernel_rfl)).1
          clear hd hs
          refine outcome_enter (w := w) (f := 24) (args := #[.agg #[.slice (some ⟨w1.heap.size + 1, 0, none⟩) i i]]) (by simp [go_sem, hc, hf, s42]) ?_
          refine (rbytes_c (HRMr.out.below hB) h2).mono ?_
          rintro e w' ⟨g, rfl, F, Lx⟩
          exact ⟨_, rfl, Eq.mpr (if_pos rfl) ⟨_, rfl, F.lt, bts_of_fn F⟩, hB.trans (Lx.mono hB.size), Lx⟩
        refine And.intro ?_ ?_
        · intro V ρ w hB hc hf hd hs
          obtain ⟨f43, s43⟩ := hd 1 (by kernel_rfl) 43 (by kernel_rfl)
          clear hd hs
          obtain ⟨g, hv, hg, hbt⟩ := Eq.mp (if_pos rfl) f43
          rw [hv] at s43
          exact outcome_value (v := .string (strOf (rbt (rdB B) i) 64)) (run_conv rfl s43 (conv_bts hbt)) ⟨rfl, hB, hrefl w⟩
        refine And.intro ?_ ?_
        · intro V ρ w hB hc hf hd hs
          have s0 : ρ (.tmp 0) = .slice (some ⟨p, off, none⟩) 64 cap := hs 0 (by kernel_rfl)
          clear hd hs
          rw [BigFrame.run_move (.tmp 0) rfl]
          exact ⟨s0, hB, hrefl w⟩
        refine And.intro ?_ ?_
        · intro V ρ w hB hc hf hd hs
          have s45 : ρ (.tmp 45) = .slice (some ⟨p, off, none⟩) 64 cap := (hd 3 (by kernel_rfl) 45 (by kernel_rfl)).2.trans (hd 3 (by kernel_rfl) 45 (by kernel_rfl)).1
          clear hd hs
          exact outcome_value (v := .string (strOf B 64)) (run_conv rfl s45 (conv_bts (fun i hi => (hB.cell hp3).trans (HBr.out i hi)))) ⟨rfl, hB, hrefl w⟩
        refine And.intro ?_ ?_
        · intro V ρ w hB hc hf hd hs
          have s44 : ρ (.tmp 44) = .string (strOf (rbt (rdB B) i) 64) := (hd 2 (by kernel_rfl) 44 (by kernel_rfl)).2.trans (hd 2 (by kernel_rfl) 44 (by kernel_rfl)).1
          have s46 : ρ (.tmp 46) = .string (strOf B 64) := (hd 4 (by kernel_rfl) 46 (by kernel_rfl)).2.trans (hd 4 (by kernel_rfl) 46 (by kernel_rfl)).1
          clear hd hs
          exact outcome_value (v := .bool q) (by simp [go_sem, hc, hf, s44, s46, HQ.out]) ⟨rfl, hB, hrefl w⟩
        exact trivial
      case hend =>
        intro V w5 hB5 hV
        have v5 : V 5 = .bool q := hV 5 (by decide)
        simp only [lexF, Act.put, List.setIfInBounds_toArray, List.set_cons_zero, List.set_cons_succ, v5]
        clear hV
        have LW5 := hid (show Below w.heap.size w w5 from LWr.out.trans (hB5.mono LWr.out.size))
        have HB5' := hid (HBW.out.of_block (hB5.block _ hbw))
        have c0 : w5.cell? ⟨w.heap.size, 0, none⟩ = some (.slice none 0 0) := HB5'.out.cellv rfl
        have f0 := HB5'.out.frozen 0
        have cm : w5.cell? ⟨w2.heap.size, 0, none⟩ = some (.slice (some ⟨w1.heap.size + 1, 0, none⟩) i i) := (hB5.cell hm3).trans (HMr.out.cellv rfl)
        have R5 := hid (HRMr.out.below hB5)
        by_cases hok : strOf (rbt (rdB B) i) 64 = strOf B 64
        · have hqf : q = false := by have := HQ.out; rw [hok] at this; simpa using this.symm
          have HOK := hid hok
          subst hqf
          clear hok
          go_wp2
          refine ret_map rfl rfl rfl rfl (HB5'.out.set 0 (.slice (some ⟨w1.heap.size + 1, 0, none⟩) i i)) rfl ⟨?_, fun _ => ⟨_, rfl, ?_⟩, fun h => absurd HOK.out h⟩
          · exact (((Mod.of_below LW5.out (fun c => w.heap.size ≤ c)).setCell (p := ⟨w.heap.size, 0, none⟩) (fun _ => Nat.le_refl _) _).below (Nat.le_refl _) (fun c hc h => by omega))
          · obtain ⟨bb, cc, e1, e2, e3, e4, e5⟩ := R5.out
            refine ⟨bb, cc, e1, e2, e3, by simpa [World.setCell] using e4, fun j hj => ?_⟩
            cases e1
            rw [World.cell?_of_block (w := w5) (Below.heap_setCell _ _ _ _ (by show w1.heap.size + 1 ≠ w.heap.size; have := hs1.out; omega))]
            exact e5 j hj
        · have hqf : q = true := by
            cases q with
            | true => rfl
            | false => exact absurd (str_of_list HQ.out) hok
          have HOK := hid hok
          subst hqf
          clear hok
          go_wp2
          refine ret_map rfl rfl rfl rfl (HB5'.out.set 0 (.slice none 0 0)) rfl ⟨?_, fun h => absurd h HOK.out, fun _ => rfl⟩
          exact (((Mod.of_below LW5.out (fun c => w.heap.size ≤ c)).setCell (p := ⟨w.heap.size, 0, none⟩) (fun _ => Nat.le_refl _) _).below (Nat.le_refl _) (fun c hc h => by omega))
end Go.Proofs.YtdmlldhlfofegaaDoor
