/- The hash of what was written: 'Sum'. -/
import Derived.Test.YtkehejkjifgieaaShaWrite
namespace Go.Proofs.Ytkehejkjifgieaa
open Go.RowKit Go.ChangeMaps

/-- v is a slice of the bytes xs. -/
def Bytes (w : World) (v : Value) (xs : List W8) : Prop :=
  ∃ p cap, v = .slice p xs.length cap ∧ (0 < xs.length → ∃ b off, p = some ⟨b, off, none⟩ ∧ b < w.heap.size ∧ xs.length ≤ cap ∧ cap ≤ maxLen ∧ Src w b off xs)
theorem Bytes.one (w : World) (x : W8) : Bytes (w.alloc (.cells #[.int .u8 (ub x)] 5)) (.slice (some ⟨w.heap.size, 0, none⟩) 1 1) [x] :=
  ⟨_, 1, rfl, fun _ => ⟨w.heap.size, 0, rfl, by simp, Nat.le_refl _, by simp [maxLen], fun i hi => by
    have : i = 0 := by simpa using hi
    subst this
    exact (Blk.new w #[.int .u8 (ub x)] 5).cellv rfl⟩⟩

set_option maxRecDepth 100000 in
set_option maxHeartbeats 1000000 in
theorem write_0 {w : World} {hk0 : Nat} {m : List W8} (H0 : Hs w hk0 m) (p : Option Addr) (cap : Nat) (hbig : m.length < 1152921504606846976) :
    Calls Try.prog 69 #[.pointer (some ⟨hk0, 0, none⟩), .slice p 0 cap] w fun e w' => e = .returned (.tuple #[]) ∧ Hs w' hk0 m ∧ Mod (fun k => k = hk0) w w' := by
  obtain ⟨B0, H1, hB0⟩ := H0
  have hh := Fn.lt H1
  have c1 : w.cell? ⟨hk0, 73, none⟩ = some (.int .u64 m.length) := H1.cell (j := 73) (by omega)
  have f1 : w.frozen? ⟨hk0, 73, none⟩ = false := H1.frozen _
  have S0 := hid (show Hs (w.setCell ⟨hk0, 73, none⟩ (.int .u64 (m.length : Int))) hk0 m from
    ⟨B0, (Fn.set H1 73 _).congr (fun j hj => by
      unfold set1
      by_cases e : j = 73
      · subst e; rfl
      · rw [if_neg e]), hB0⟩)
  clear H1
  go_enter Try.func69, Try.ntmps69
  go_wp2
  go_loopg [1, 4] 0 (fun _ v _ wr => v = .slice p 0 cap ∧ wr = w.setCell ⟨hk0, 73, none⟩ (.int .u64 (m.length : Int)))
  case atStart => exact ⟨rfl, rfl⟩
  case round =>
    obtain ⟨rfl, rfl⟩ := hrel
    go_wp2
    go_end0
    exact ⟨rfl, S0.out, (Mod.refl (fun k => k = hk0) w).setCell (p := ⟨hk0, 73, none⟩) (fun _ => rfl) _⟩
theorem write_nil (w : World) (v : Value) : Calls Try.prog 69 #[.pointer none, v] w fun e w' => e = .returned (.tuple #[]) ∧ w' = w := by
  go_enter Try.func69, Try.ntmps69
  go_wp2
  exact bodyPost_ret (results_none rfl _ _ _) rfl ⟨rfl, rfl⟩
theorem write_b {w : World} {h : Nat} {m : List W8} (H0 : Hs w h m) {v : Value} {xs : List W8} (hv : Bytes w v xs) (hne : 0 < xs.length → ∀ b, v.ownBlock = some b → b ≠ h) (hbig : m.length + xs.length < 1152921504606846976) :
    Calls Try.prog 69 #[.pointer (some ⟨h, 0, none⟩), v] w fun e w' => e = .returned (.tuple #[]) ∧ Hs w' h (m ++ xs) ∧ Mod (fun k => k = h) w w' := by
  obtain ⟨p, cap, rfl, hc⟩ := hv
  by_cases hx : 0 < xs.length
  · obtain ⟨b, off, rfl, h1, h2, h3, h4⟩ := hc hx
    exact write_c H0 (hne hx b rfl) h1 h4 h2 h3 hx hbig
  · have : xs = [] := List.eq_nil_of_length_eq_zero (by omega)
    subst this
    rw [List.append_nil]
    exact write_0 H0 p cap (by simpa using hbig)

def be8 (n : Nat) (k : Nat) : W8 := BitVec.ofNat 8 (n / 2 ^ (56 - 8 * k))
def padN (m : List W8) : Nat := (119 - m.length % 64) % 64
/-- The padded bytes but for their length. -/
def pad0 (m : List W8) (z : Nat) : List W8 := m ++ [0x80] ++ List.replicate z 0
def pad (m : List W8) : List W8 := pad0 m (padN m) ++ (List.range 8).map (be8 (8 * m.length))
def fin (m : List W8) : St := bst (pad m) ((pad m).length / 64)
def shaB (m : List W8) (i : Nat) : W8 := ((fin m).get (i / 4) >>> (24 - 8 * (i % 4))).setWidth 8
theorem pad_length (m : List W8) : (pad m).length % 64 = 0 := by
  unfold pad pad0 padN
  simp only [List.length_append, List.length_cons, List.length_nil, List.length_replicate, List.length_map, List.length_range]
  omega

theorem pad_z (m : List W8) : ∀ z, z ≤ padN m → ((m.length + 1 + z) % 64 = 56 ↔ z = padN m) := by
  intro z hz
  unfold padN at *
  omega
def zeroH (j : Nat) : Value := if j < 8 then .int .u32 0 else if j < 72 then .int .u8 0 else if j = 72 then .int .i64 0 else .int .u64 0
set_option maxRecDepth 100000 in
theorem zero_hash (W : World) : (zeroValue 130).run Try.prog W = .ok (.agg (arr 74 zeroH)) W := by rfl

theorem Bytes.one' {w : World} {b : W8} {x : Int} (h : x = ub b) : Bytes (w.alloc (.cells #[.int .u8 x] 5)) (.slice (some ⟨w.heap.size, 0, none⟩) 1 1) [b] := by subst h; exact Bytes.one w b
set_option maxRecDepth 100000 in
set_option maxHeartbeats 4000000 in
theorem sum_c {w : World} {h : Nat} {m : List W8} (H0 : Hs w h m) (hbig : m.length < 100000000) :
    Calls Try.prog 70 #[.pointer (some ⟨h, 0, none⟩)] w fun e w' => e = .returned (.agg (arr 32 (fun i => .int .u8 (ub (shaB m i))))) ∧ Below w.heap.size w w' := by
  obtain ⟨B, H1, hB⟩ := H0
  have hh := Fn.lt H1
  obtain ⟨cs, g1, g2, g3⟩ := H1
  have c1 : w.cell? ⟨h, 73, none⟩ = some (.int .u64 m.length) := g1.cellv (g3 73 (by omega))
  have G1 := hid g1
  have hone := hid (show cs.all (·.oneCell') = true by
    rw [arr_ext g2 g3]; simp only [arr, List.all_toArray, List.all_map, List.all_eq_true]
    intro j _
    show Value.oneCell' (hcell _ _ _ _ j) = true
    unfold hcell
    split <;> (try split) <;> (try split) <;> rfl)
  have G2 := hid g2; have G3 := hid g3; have HB := hid hB
  clear g1 g2 g3 hB
  obtain ⟨zs, hzs⟩ : ∃ zs, zs = arr 74 zeroH := ⟨_, rfl⟩
  have hz : ∀ W : World, (zeroValue 130).run Try.prog W = .ok (.agg zs) W := by rw [hzs]; exact zero_hash
  have HZ := hid hzs
  clear hzs
  have E1 := hid (Fn.arr w 101 32 (fun _ => .int .u8 0))
  have E2 := hid (show Fn ((w.alloc (.cells (arr 32 (fun _ => .int .u8 0)) 101)).alloc (.cells zs 130)) (w.heap.size + 1) 130 74 zeroH from by
    rw [HZ.out]; have := Fn.arr (w.alloc (.cells (arr 32 (fun _ => .int .u8 0)) 101)) 130 74 zeroH; simpa using this)
  have GS := hid (show (Try.prog.info? 130).map (·.size) = some cs.size by rw [G2.out]; kernel_rfl)
  go_enter Try.func70, Try.ntmps70
  go_upto_region 3 with fail
  go_cut [3] from 11 to 13 (fun v3 wr => ∃ e, v3 = .pointer (some ⟨e, 0, none⟩) ∧ w.heap.size < e ∧ Hid (Hs wr e m) ∧ Hid (Fn wr w.heap.size 101 32 (fun _ => .int .u8 0)) ∧ Hid (Below w.heap.size w wr))
  case first =>
    go_wp2_with first
      | (refine wpList_store_mid rfl 130 (.tmp 3) (.tmp 13) rfl (w.heap.size + 1) 0 cs rfl rfl (there_set E2.out G2.out) GS.out hone.out ?_)
      | (refine wpList_load_mid rfl 130 (.tmp 12) rfl h 0 rfl cs.toList _ (fun j v hv => by rw [Nat.zero_add]; exact (G1.out.alloc _).cellv (by simpa using hv)) Try.underlying130 rfl (by rw [Array.length_toList, G2.out]; kernel_rfl) ?_)
    go_meet
    case rel =>
      refine ⟨_, rfl, by omega, hid ⟨B, ?_, HB.out⟩, hid (Fn.setCells_other (E1.out.alloc _) _ (by omega)), hid ?_⟩
      · have e := arr_ext G2.out G3.out
        rw [e]; exact E2.out.storeAll _
      · exact (Mod.setCells (S := fun k => w.heap.size ≤ k) cs.toList 0 _ (((Mod.refl _ w).alloc _).alloc _) (fun h => by omega)).below (Nat.le_refl _) (fun k hk h => by omega)
  case rest =>
    obtain ⟨e, rfl, hwe, S, Z, L⟩ := hcut
    have hhc : h < wc.heap.size := Nat.lt_of_lt_of_le hh L.out.size
    have hee : e ≠ h := by omega
    have hez : w.heap.size ≠ e := by omega
    have d1 : wc.cell? ⟨h, 73, none⟩ = some (.int .u64 m.length) := (L.out.cell hh).trans c1
    have SW := hid (show Hs (wc.alloc (.cells #[.int .u8 128] 5)) e m from HsL.of_block S.out (Below.heap_alloc _ _ _ S.out.lt))
    have SB := hid (show Bytes (wc.alloc (.cells #[.int .u8 128] 5)) (.slice (some ⟨wc.heap.size, 0, none⟩) 1 1) [0x80] from Bytes.one wc 0x80)
    have hew := S.out.lt
    have hmb : m.length + 1 < 1152921504606846976 := by omega
    clear c1
    go_wp2_with (go_at_call 69; refine (write_b SW.out SB.out (fun _ b hb => by cases hb; show wc.heap.size ≠ e; omega) (by simpa using hmb)).mono ?_; rintro e' w2 ⟨rfl, S2, M2⟩; have S2' := hid S2; have M2' := hid M2; clear S2 M2)
    have SL := hid (show Below w.heap.size w w2 from L.out.trans ((M2'.out.step (Mod.refl (fun _ => False) _) (fun _ _ h => h.elim)) |> fun M => (((Mod.refl (fun k => k = e) wc).alloc (.cells #[.int .u8 128] 5)).trans M).below (Nat.le_of_lt (Nat.lt_of_lt_of_le hwe (Nat.le_of_lt hew))) (fun k hk he => by omega)))
    have SZ := hid (show Fn w2 w.heap.size 101 32 (fun _ => .int .u8 0) from (Z.out.alloc _).mod M2'.out hez)
    have hp1 := hid (pad_z m)
    go_loopg [] (padN m) (fun g wr => ∃ z, g = padN m - z ∧ z ≤ padN m ∧ Hid (Hs wr e (pad0 m z)) ∧ Hid (Fn wr w.heap.size 101 32 (fun _ => .int .u8 0)) ∧ Hid (Below w.heap.size w wr))
    case atStart => exact ⟨0, rfl, Nat.zero_le _, hid (by simpa [pad0] using S2'.out), SZ, SL⟩
    case round =>
      obtain ⟨z, rfl, hz0, S3, Z3, L3⟩ := hrel
      have hzb : padN m < 64 := by unfold padN; omega
      obtain ⟨B3, G3', HB3⟩ := S3.out
      have hc72 : wr.cell? ⟨e, 72, none⟩ = some (.int .i64 ((pad0 m z).length % 64 : Nat)) := Fn.cell G3' (j := 72) (by omega)
      have hel := S3.out.lt
      have hpl : (pad0 m z).length = m.length + 1 + z := by simp [pad0]; omega
      clear G3' HB3
      obtain ⟨r, hr⟩ : ∃ r, r = (pad0 m z).length % 64 := ⟨_, rfl⟩
      rw [← hr] at hc72
      have hr2 : r = 56 ↔ z = padN m := by rw [hr, hpl]; exact hp1.out z hz0
      have HR := hid hr
      clear hr
      by_cases h56 : r = 56
      · subst h56
        have hze : z = padN m := hr2.1 rfl
        subst hze
        clear hr2
        go_wp2
        go_loopg [5] 8 (fun g v5 wr => ∃ k : Nat, v5 = .int .i64 (56 - 8 * (k : Int)) ∧ g = 8 - k ∧ k ≤ 8 ∧ Hid (Hs wr e (pad0 m (padN m) ++ (List.range k).map (be8 (8 * m.length)))) ∧ Hid (Fn wr w.heap.size 101 32 (fun _ => .int .u8 0)) ∧ Hid (Below w.heap.size w wr))
        case atStart => exact ⟨0, rfl, rfl, by omega, hid (by simpa using S3.out), Z3, L3⟩
        case round =>
          obtain ⟨k, rfl, hg, hk, S5, Z5, L5⟩ := hrel
          have hbig5 : (pad0 m (padN m) ++ (List.range k).map (be8 (8 * m.length))).length + 1 < 1152921504606846976 := by simp [pad0]; omega
          have HB5 := hid hbig5
          clear hbig5
          by_cases hk8 : k = 8
          · subst hk8
            go_wp2
            obtain ⟨o, ho⟩ : ∃ o, o = wr.heap.size := ⟨_, rfl⟩
            obtain ⟨B8, F7, _⟩ := S5.out
            have hel8 := Fn.lt F7
            have F8 := hid (show HashAt (wr.alloc (.cells (arr 32 (fun _ => .int .u8 0)) 101)) e (fin m) B8 _ _ from Fn.alloc F7 _)
            have O8 := hid (show Fn (wr.alloc (.cells (arr 32 (fun _ => .int .u8 0)) 101)) o 101 32 (fun _ => .int .u8 0) from by rw [ho]; exact Fn.arr wr 101 32 _)
            have Z8 := hid (Z5.out.alloc (.cells (arr 32 (fun _ => .int .u8 0)) 101))
            have L8 := hid (L5.out.alloc L5.out.size (.cells (arr 32 (fun _ => .int .u8 0)) 101))
            have heo : e ≠ o := by omega
            have hwo : w.heap.size < o := by omega
            clear F7
            rw [← ho]
            clear ho
            go_loopg [7, 36] 32 (fun g _ v36 wr => ∃ k : Nat, v36 = .int .i64 k ∧ g = 32 - k ∧ k ≤ 32 ∧ Hid (Fn wr o 101 32 (fun j => if j < k then .int .u8 (ub (shaB m j)) else .int .u8 0)) ∧ Hid (HashAt wr e (fin m) B8 ((pad0 m (padN m) ++ (List.range 8).map (be8 (8 * m.length))).length % 64 : Nat) ((pad0 m (padN m) ++ (List.range 8).map (be8 (8 * m.length))).length)) ∧ Hid (Fn wr w.heap.size 101 32 (fun _ => .int .u8 0)) ∧ Hid (Below w.heap.size w wr))
            case atStart => exact ⟨0, rfl, rfl, by omega, O8, F8, Z8, L8⟩
            case round =>
              clear O8 F8 Z8 L8
              obtain ⟨k, rfl, hg, hk, O8, F8, Z8, L8⟩ := hrel
              by_cases hk32 : k < 32
              · have y0 : wr.cell? ⟨e, k / 4, none⟩ = some (.int .u32 (u ((fin m).get (k / 4)))) := by
                  have := Fn.cell F8.out (j := k / 4) (by omega)
                  unfold hcell at this; rw [if_pos (by omega)] at this; exact this
                have y1 : wr.cell? ⟨o, k, none⟩ = some (.int .u8 0) := by
                  have := O8.out.cell hk32; rw [if_neg (by omega)] at this; exact this
                have y2 : wr.frozen? ⟨o, k, none⟩ = false := O8.out.frozen _
                have y3 := O8.out.lt
                have y4 := Fn.lt F8.out
                have hkc : k % 4 = 0 ∨ k % 4 = 1 ∨ k % 4 = 2 ∨ k % 4 = 3 := by omega
                rcases hkc with hr | hr | hr | hr
                · have hr' : (k : Int) % 4 = 0 := by omega
                  go_wp2
                  go_roundg (32 - (k + 1))
                  case measure => omega
                  case rel =>
                    have x0 : u ((fin m).get (k / 4)) / (16777216 : Int) % 256 = ub (shaB m k) := by
                      unfold ub shaB u
                      rw [hr, BitVec.toNat_setWidth, BitVec.toNat_ushiftRight, Nat.shiftRight_eq_div_pow]
                      simp only [Nat.reduceMul, Nat.reduceSub, Nat.reducePow]
                      omega
                    rw [x0]
                    refine ⟨k + 1, by go_num, rfl, by omega, hid ?_, hid (Fn.other F8.out (show o ≠ e by omega) _), hid (Z8.out.other (show o ≠ w.heap.size by omega) _), hid (L8.out.setCell (show w.heap.size ≤ o by omega) _)⟩
                    refine (O8.out.set k _).congr (fun j hj => ?_)
                    unfold set1
                    by_cases ej : j = k
                    · subst ej; rw [if_pos rfl, if_pos (by omega)]
                    · rw [if_neg ej]
                      by_cases e2 : j < k
                      · rw [if_pos (show j < k + 1 by omega)]; simp only [e2, if_true]
                      · rw [if_neg (show ¬ j < k + 1 by omega)]; simp only [e2, if_false]
                · have hr' : (k : Int) % 4 = 1 := by omega
                  go_wp2
                  go_roundg (32 - (k + 1))
                  case measure => omega
                  case rel =>
                    have x0 : u ((fin m).get (k / 4)) / (65536 : Int) % 256 = ub (shaB m k) := by
                      unfold ub shaB u
                      rw [hr, BitVec.toNat_setWidth, BitVec.toNat_ushiftRight, Nat.shiftRight_eq_div_pow]
                      simp only [Nat.reduceMul, Nat.reduceSub, Nat.reducePow]
                      omega
                    rw [x0]
                    refine ⟨k + 1, by go_num, rfl, by omega, hid ?_, hid (Fn.other F8.out (show o ≠ e by omega) _), hid (Z8.out.other (show o ≠ w.heap.size by omega) _), hid (L8.out.setCell (show w.heap.size ≤ o by omega) _)⟩
                    refine (O8.out.set k _).congr (fun j hj => ?_)
                    unfold set1
                    by_cases ej : j = k
                    · subst ej; rw [if_pos rfl, if_pos (by omega)]
                    · rw [if_neg ej]
                      by_cases e2 : j < k
                      · rw [if_pos (show j < k + 1 by omega)]; simp only [e2, if_true]
                      · rw [if_neg (show ¬ j < k + 1 by omega)]; simp only [e2, if_false]
                · have hr' : (k : Int) % 4 = 2 := by omega
                  go_wp2
                  go_roundg (32 - (k + 1))
                  case measure => omega
                  case rel =>
                    have x0 : u ((fin m).get (k / 4)) / (256 : Int) % 256 = ub (shaB m k) := by
                      unfold ub shaB u
                      rw [hr, BitVec.toNat_setWidth, BitVec.toNat_ushiftRight, Nat.shiftRight_eq_div_pow]
                      simp only [Nat.reduceMul, Nat.reduceSub, Nat.reducePow]
                      omega
                    rw [x0]
                    refine ⟨k + 1, by go_num, rfl, by omega, hid ?_, hid (Fn.other F8.out (show o ≠ e by omega) _), hid (Z8.out.other (show o ≠ w.heap.size by omega) _), hid (L8.out.setCell (show w.heap.size ≤ o by omega) _)⟩
                    refine (O8.out.set k _).congr (fun j hj => ?_)
                    unfold set1
                    by_cases ej : j = k
                    · subst ej; rw [if_pos rfl, if_pos (by omega)]
                    · rw [if_neg ej]
                      by_cases e2 : j < k
                      · rw [if_pos (show j < k + 1 by omega)]; simp only [e2, if_true]
                      · rw [if_neg (show ¬ j < k + 1 by omega)]; simp only [e2, if_false]
                · have hr' : (k : Int) % 4 = 3 := by omega
                  go_wp2
                  go_roundg (32 - (k + 1))
                  case measure => omega
                  case rel =>
                    have x0 : u ((fin m).get (k / 4)) % (256 : Int) = ub (shaB m k) := by
                      unfold ub shaB u
                      rw [hr, BitVec.toNat_setWidth, BitVec.toNat_ushiftRight, Nat.shiftRight_eq_div_pow]
                      simp only [Nat.reduceMul, Nat.reduceSub, Nat.reducePow]
                      omega
                    rw [x0]
                    refine ⟨k + 1, by go_num, rfl, by omega, hid ?_, hid (Fn.other F8.out (show o ≠ e by omega) _), hid (Z8.out.other (show o ≠ w.heap.size by omega) _), hid (L8.out.setCell (show w.heap.size ≤ o by omega) _)⟩
                    refine (O8.out.set k _).congr (fun j hj => ?_)
                    unfold set1
                    by_cases ej : j = k
                    · subst ej; rw [if_pos rfl, if_pos (by omega)]
                    · rw [if_neg ej]
                      by_cases e2 : j < k
                      · rw [if_pos (show j < k + 1 by omega)]; simp only [e2, if_true]
                      · rw [if_neg (show ¬ j < k + 1 by omega)]; simp only [e2, if_false]
              · have hk1 : k = 32 := by omega
                subst hk1
                have O9 := hid (O8.out.congr (g := fun j => .int .u8 (ub (shaB m j))) (fun j hj => by simp only [hj, if_true]))
                obtain ⟨zs2, hzs2⟩ : ∃ zs : Array Value, zs = arr 32 (fun j => .int .u8 (ub (shaB m j))) := ⟨_, rfl⟩
                have hz0 : zs2.size = 32 := by rw [hzs2, arr_size]
                have RZ := hid (show wr.rangeAt o 0 zs2.toList from fun j v hv => by
                  have hj : j < 32 := by rw [← hz0]; simpa using (List.getElem?_eq_some_iff.1 hv).1
                  rw [Array.getElem?_toList, hzs2, arr_get _ _ hj] at hv
                  rw [Nat.zero_add, O9.out.cell hj]; exact hv)
                have hz1 := hid (show zs2.all (·.oneCell') = true by rw [hzs2]; exact one_arr)
                have hz2 := hid (show (Try.prog.info? 101).map (·.size) = some zs2.size by rw [hz0]; kernel_rfl)
                have hz3 := hid (there_set Z8.out hz0)
                have hz4 := hid (show (Try.prog.info? 101).map (·.size) = some zs2.toList.length by rw [Array.length_toList, hz0]; kernel_rfl)
                have HZ2 := hid hzs2
                have y3 := O8.out.lt
                have y5 := Z8.out.lt
                clear hzs2
                go_wp2_with first
                  | (refine wpList_load_mid rfl 101 (.tmp 6) rfl o 0 rfl zs2.toList _ RZ.out Try.underlying101 rfl hz4.out ?_)
                  | (refine wpList_store_mid rfl 101 (.tmp 2) (.tmp 53) rfl w.heap.size 0 zs2 rfl rfl hz3.out hz2.out hz1.out ?_)
                obtain ⟨cs9, g1, g2, g3⟩ := Z8.out.storeAll (fun j => .int .u8 (ub (shaB m j)))
                have hcs9 := arr_ext g2 g3
                subst hcs9
                rw [← HZ2.out] at g1
                refine bodyPost_ret (v := .agg zs2) (results_cell_row (t := 101) (fr := (0, 0)) rfl _ _ w.heap.size _ _ rfl g1 Try.underlying101 rfl hz2.out) rfl ?_
                refine ⟨by rw [HZ2.out], ?_⟩
                have ML : Mod (fun k => w.heap.size ≤ k) w wr := ⟨L8.out.os, L8.out.tape, L8.out.output, L8.out.size, fun k hk _ => L8.out.block k hk⟩
                exact (Mod.setCells (S := fun k => w.heap.size ≤ k) zs2.toList 0 wr ML (fun hh => by omega)).below (Nat.le_refl _) (fun k hk hh => by omega)
          · have hkc : k = 0 ∨ k = 1 ∨ k = 2 ∨ k = 3 ∨ k = 4 ∨ k = 5 ∨ k = 6 ∨ k = 7 := by omega
            rcases hkc with rfl | rfl | rfl | rfl | rfl | rfl | rfl | rfl
            · go_wp2_with (go_at_call 69; refine (write_b (HsL.of_block S5.out (Below.heap_alloc _ _ _ S5.out.lt)) (Bytes.one' (show _ = ub (be8 (8 * m.length) 0) by unfold ub be8; rw [BitVec.toNat_ofNat]; simp only [Nat.reduceMul, Nat.reduceSub, Nat.reducePow]; omega)) (fun _ b hb => by cases hb; have := S5.out.lt; show wr.heap.size ≠ e; omega) (by simpa using HB5.out)).mono ?_; rintro e' w6 ⟨rfl, S6, M6⟩; have S6' := hid S6; have M6' := hid M6; clear S6 M6)
              go_roundg (8 - 1)
              case measure => omega
              case rel =>
                refine ⟨1, by first | rfl | (congr 1) | (congr 1; omega), rfl, by omega, hid ?_, hid ((Z5.out.alloc _).mod M6'.out hez), hid ?_⟩
                · have := S6'.out
                  rw [List.append_assoc] at this
                  exact this
                · exact L5.out.trans ((((Mod.refl (fun k => k = e) wr).alloc _).trans M6'.out).below L5.out.size (fun k hk he => by omega))
            · go_wp2_with (go_at_call 69; refine (write_b (HsL.of_block S5.out (Below.heap_alloc _ _ _ S5.out.lt)) (Bytes.one' (show _ = ub (be8 (8 * m.length) 1) by unfold ub be8; rw [BitVec.toNat_ofNat]; simp only [Nat.reduceMul, Nat.reduceSub, Nat.reducePow]; omega)) (fun _ b hb => by cases hb; have := S5.out.lt; show wr.heap.size ≠ e; omega) (by simpa using HB5.out)).mono ?_; rintro e' w6 ⟨rfl, S6, M6⟩; have S6' := hid S6; have M6' := hid M6; clear S6 M6)
              go_roundg (8 - 2)
              case measure => omega
              case rel =>
                refine ⟨2, by first | rfl | (congr 1) | (congr 1; omega), rfl, by omega, hid ?_, hid ((Z5.out.alloc _).mod M6'.out hez), hid ?_⟩
                · have := S6'.out
                  rw [List.append_assoc] at this
                  exact this
                · exact L5.out.trans ((((Mod.refl (fun k => k = e) wr).alloc _).trans M6'.out).below L5.out.size (fun k hk he => by omega))
            · go_wp2_with (go_at_call 69; refine (write_b (HsL.of_block S5.out (Below.heap_alloc _ _ _ S5.out.lt)) (Bytes.one' (show _ = ub (be8 (8 * m.length) 2) by unfold ub be8; rw [BitVec.toNat_ofNat]; simp only [Nat.reduceMul, Nat.reduceSub, Nat.reducePow]; omega)) (fun _ b hb => by cases hb; have := S5.out.lt; show wr.heap.size ≠ e; omega) (by simpa using HB5.out)).mono ?_; rintro e' w6 ⟨rfl, S6, M6⟩; have S6' := hid S6; have M6' := hid M6; clear S6 M6)
              go_roundg (8 - 3)
              case measure => omega
              case rel =>
                refine ⟨3, by first | rfl | (congr 1) | (congr 1; omega), rfl, by omega, hid ?_, hid ((Z5.out.alloc _).mod M6'.out hez), hid ?_⟩
                · have := S6'.out
                  rw [List.append_assoc] at this
                  exact this
                · exact L5.out.trans ((((Mod.refl (fun k => k = e) wr).alloc _).trans M6'.out).below L5.out.size (fun k hk he => by omega))
            · go_wp2_with (go_at_call 69; refine (write_b (HsL.of_block S5.out (Below.heap_alloc _ _ _ S5.out.lt)) (Bytes.one' (show _ = ub (be8 (8 * m.length) 3) by unfold ub be8; rw [BitVec.toNat_ofNat]; simp only [Nat.reduceMul, Nat.reduceSub, Nat.reducePow]; omega)) (fun _ b hb => by cases hb; have := S5.out.lt; show wr.heap.size ≠ e; omega) (by simpa using HB5.out)).mono ?_; rintro e' w6 ⟨rfl, S6, M6⟩; have S6' := hid S6; have M6' := hid M6; clear S6 M6)
              go_roundg (8 - 4)
              case measure => omega
              case rel =>
                refine ⟨4, by first | rfl | (congr 1) | (congr 1; omega), rfl, by omega, hid ?_, hid ((Z5.out.alloc _).mod M6'.out hez), hid ?_⟩
                · have := S6'.out
                  rw [List.append_assoc] at this
                  exact this
                · exact L5.out.trans ((((Mod.refl (fun k => k = e) wr).alloc _).trans M6'.out).below L5.out.size (fun k hk he => by omega))
            · go_wp2_with (go_at_call 69; refine (write_b (HsL.of_block S5.out (Below.heap_alloc _ _ _ S5.out.lt)) (Bytes.one' (show _ = ub (be8 (8 * m.length) 4) by unfold ub be8; rw [BitVec.toNat_ofNat]; simp only [Nat.reduceMul, Nat.reduceSub, Nat.reducePow]; omega)) (fun _ b hb => by cases hb; have := S5.out.lt; show wr.heap.size ≠ e; omega) (by simpa using HB5.out)).mono ?_; rintro e' w6 ⟨rfl, S6, M6⟩; have S6' := hid S6; have M6' := hid M6; clear S6 M6)
              go_roundg (8 - 5)
              case measure => omega
              case rel =>
                refine ⟨5, by first | rfl | (congr 1) | (congr 1; omega), rfl, by omega, hid ?_, hid ((Z5.out.alloc _).mod M6'.out hez), hid ?_⟩
                · have := S6'.out
                  rw [List.append_assoc] at this
                  exact this
                · exact L5.out.trans ((((Mod.refl (fun k => k = e) wr).alloc _).trans M6'.out).below L5.out.size (fun k hk he => by omega))
            · go_wp2_with (go_at_call 69; refine (write_b (HsL.of_block S5.out (Below.heap_alloc _ _ _ S5.out.lt)) (Bytes.one' (show _ = ub (be8 (8 * m.length) 5) by unfold ub be8; rw [BitVec.toNat_ofNat]; simp only [Nat.reduceMul, Nat.reduceSub, Nat.reducePow]; omega)) (fun _ b hb => by cases hb; have := S5.out.lt; show wr.heap.size ≠ e; omega) (by simpa using HB5.out)).mono ?_; rintro e' w6 ⟨rfl, S6, M6⟩; have S6' := hid S6; have M6' := hid M6; clear S6 M6)
              go_roundg (8 - 6)
              case measure => omega
              case rel =>
                refine ⟨6, by first | rfl | (congr 1) | (congr 1; omega), rfl, by omega, hid ?_, hid ((Z5.out.alloc _).mod M6'.out hez), hid ?_⟩
                · have := S6'.out
                  rw [List.append_assoc] at this
                  exact this
                · exact L5.out.trans ((((Mod.refl (fun k => k = e) wr).alloc _).trans M6'.out).below L5.out.size (fun k hk he => by omega))
            · go_wp2_with (go_at_call 69; refine (write_b (HsL.of_block S5.out (Below.heap_alloc _ _ _ S5.out.lt)) (Bytes.one' (show _ = ub (be8 (8 * m.length) 6) by unfold ub be8; rw [BitVec.toNat_ofNat]; simp only [Nat.reduceMul, Nat.reduceSub, Nat.reducePow]; omega)) (fun _ b hb => by cases hb; have := S5.out.lt; show wr.heap.size ≠ e; omega) (by simpa using HB5.out)).mono ?_; rintro e' w6 ⟨rfl, S6, M6⟩; have S6' := hid S6; have M6' := hid M6; clear S6 M6)
              go_roundg (8 - 7)
              case measure => omega
              case rel =>
                refine ⟨7, by first | rfl | (congr 1) | (congr 1; omega), rfl, by omega, hid ?_, hid ((Z5.out.alloc _).mod M6'.out hez), hid ?_⟩
                · have := S6'.out
                  rw [List.append_assoc] at this
                  exact this
                · exact L5.out.trans ((((Mod.refl (fun k => k = e) wr).alloc _).trans M6'.out).below L5.out.size (fun k hk he => by omega))
            · go_wp2_with (go_at_call 69; refine (write_b (HsL.of_block S5.out (Below.heap_alloc _ _ _ S5.out.lt)) (Bytes.one' (show _ = ub (be8 (8 * m.length) 7) by unfold ub be8; rw [BitVec.toNat_ofNat]; simp only [Nat.reduceMul, Nat.reduceSub, Nat.reducePow]; omega)) (fun _ b hb => by cases hb; have := S5.out.lt; show wr.heap.size ≠ e; omega) (by simpa using HB5.out)).mono ?_; rintro e' w6 ⟨rfl, S6, M6⟩; have S6' := hid S6; have M6' := hid M6; clear S6 M6)
              go_roundg (8 - 8)
              case measure => omega
              case rel =>
                refine ⟨8, by first | rfl | (congr 1) | (congr 1; omega), rfl, by omega, hid ?_, hid ((Z5.out.alloc _).mod M6'.out hez), hid ?_⟩
                · have := S6'.out
                  rw [List.append_assoc] at this
                  exact this
                · exact L5.out.trans ((((Mod.refl (fun k => k = e) wr).alloc _).trans M6'.out).below L5.out.size (fun k hk he => by omega))
      · have hzl : z < padN m := by
          by_cases hzz : z = padN m
          · exact absurd (hr2.2 hzz) h56
          · omega
        have h56' : ¬ (r : Int) = 56 := by omega
        clear hr2
        have SW3 := hid (show Hs (wr.alloc (.cells #[.int .u8 0] 5)) e (pad0 m z) from HsL.of_block S3.out (Below.heap_alloc _ _ _ S3.out.lt))
        have SB3 := hid (show Bytes (wr.alloc (.cells #[.int .u8 0] 5)) (.slice (some ⟨wr.heap.size, 0, none⟩) 1 1) [0] from Bytes.one wr 0)
        have hbig3 : (pad0 m z).length + 1 < 1152921504606846976 := by omega
        go_wp2_with (go_at_call 69; refine (write_b SW3.out SB3.out (fun _ b hb => by cases hb; show wr.heap.size ≠ e; omega) (by simpa using hbig3)).mono ?_; rintro e' w3 ⟨rfl, S4, M4⟩; have S4' := hid S4; have M4' := hid M4; clear S4 M4)
        go_roundg (padN m - (z + 1))
        case measure => omega
        case rel =>
          refine ⟨z + 1, rfl, by omega, hid ?_, hid ((Z3.out.alloc _).mod M4'.out hez), hid ?_⟩
          · have := S4'.out
            rw [show pad0 m (z + 1) = pad0 m z ++ [0] by unfold pad0; rw [List.replicate_succ', List.append_assoc, List.append_assoc, List.append_assoc]]
            exact this
          · exact L3.out.trans ((((Mod.refl (fun k => k = e) wr).alloc (.cells #[.int .u8 0] 5)).trans M4'.out).below L3.out.size (fun k hk he => by omega))
end Go.Proofs.Ytkehejkjifgieaa
