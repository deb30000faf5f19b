/- New, All, Sum of bytes. -/
import Derived.Test.YtkehejkjifgieaaShaSum
namespace Go.Proofs.Ytkehejkjifgieaa
open Go.RowKit Go.ChangeMaps

def newCells : Array Value := arr 74 (hcell start (fun _ => 0) 0 0)
theorem hs_new (w : World) : Hs (w.alloc (.cells newCells 130)) w.heap.size [] :=
  ⟨fun _ => 0, Fn.arr w 130 74 _, fun i hi => absurd hi (by simp)⟩
set_option maxRecDepth 100000 in
set_option maxHeartbeats 1000000 in
theorem new_h (w : World) : Calls Try.prog 68 #[] w fun e w' => e = .returned (.pointer (some ⟨w.heap.size, 0, none⟩)) ∧ Hs w' w.heap.size [] ∧ Below w.heap.size w w' := by
  have H := hid (hs_new w)
  have L := hid ((Below.refl w.heap.size w).alloc (Nat.le_refl _) (.cells newCells 130))
  obtain ⟨zs, hzs⟩ : ∃ zs, zs = arr 74 zeroH := ⟨_, rfl⟩
  have hz : ∀ W : World, (zeroValue 130).run Try.prog W = .ok (.agg zs) W := by rw [hzs]; exact zero_hash
  have hsz : zs.size = 74 := by rw [hzs, arr_size]
  have HE := hid (show newCells = ((((((((zs.setIfInBounds 0 (.int .u32 1779033703)).setIfInBounds 1 (.int .u32 3144134277)).setIfInBounds 2 (.int .u32 1013904242)).setIfInBounds 3 (.int .u32 2773480762)).setIfInBounds 4 (.int .u32 1359893119)).setIfInBounds 5 (.int .u32 2600822924)).setIfInBounds 6 (.int .u32 528734635)).setIfInBounds 7 (.int .u32 1541459225) : Array Value) from by rw [hzs]; kernel_rfl)
  clear hzs
  go_enter Try.func68, Try.ntmps68
  go_wp2
  go_ret
  rw [← HE.out]
  exact ⟨rfl, H.out, L.out⟩

theorem Bytes.below {w w' : World} {v : Value} {xs : List W8} (h : Bytes w v xs) (hb : Below w.heap.size w w') : Bytes w' v xs := by
  obtain ⟨p, cap, rfl, hc⟩ := h
  refine ⟨p, cap, rfl, fun hx => ?_⟩
  obtain ⟨b, off, rfl, h1, h2, h3, h4⟩ := hc hx
  exact ⟨b, off, rfl, Nat.lt_of_lt_of_le h1 hb.size, h2, h3, h4.of_block (hb.block b h1)⟩
def flat (X : Nat → List W8) : Nat → List W8
  | 0 => []
  | n + 1 => flat X n ++ X n
/-- A slice of byte slices. -/
def Parts (w : World) (p : Option Addr) (n : Nat) (X : Nat → List W8) : Prop :=
  ∀ i, i < n → ∃ b off V, p = some ⟨b, off, none⟩ ∧ b < w.heap.size ∧ w.cell? ⟨b, off + i, none⟩ = some V ∧ Bytes w V (X i) ∧ (0 < (X i).length → ∀ k, V.ownBlock = some k → k < w.heap.size)
theorem Parts.below {w w' : World} {p : Option Addr} {n : Nat} {X : Nat → List W8} (h : Parts w p n X) (hb : Below w.heap.size w w') : Parts w' p n X := by
  intro i hi
  obtain ⟨b, off, V, h1, h2, h3, h4, h5⟩ := h i hi
  exact ⟨b, off, V, h1, Nat.lt_of_lt_of_le h2 hb.size, (hb.cell h2).trans h3, h4.below hb, fun hp k hk => Nat.lt_of_lt_of_le (h5 hp k hk) hb.size⟩

set_option maxRecDepth 100000 in
set_option maxHeartbeats 2000000 in
theorem all_c {w : World} {p : Option Addr} {n cap : Nat} {X : Nat → List W8} (hP : Parts w p n X) (hn : n ≤ maxLen) (hbig : ∀ k, k ≤ n → (flat X k).length < 100000000) :
    Calls Try.prog 56 #[.slice p n cap] w fun e w' => e = .returned (.agg (arr 32 (fun i => .int .u8 (ub (shaB (flat X n) i))))) ∧ Below w.heap.size w w' := by
  have hn' : n ≤ 9223372036854775807 := by simpa [maxLen] using hn
  have HP := hid hP
  have Z0 := hid (Fn.arr w 101 32 (fun _ => .int .u8 0))
  have L0 := hid ((Below.refl w.heap.size w).alloc (Nat.le_refl _) (.cells (arr 32 (fun _ => .int .u8 0)) 101))
  have HB := hid hbig
  clear hP hbig
  go_enter Try.func56, Try.ntmps56
  go_wp2_with (go_at_call 68; refine (new_h _).mono ?_; rintro e w1 ⟨rfl, H1, L1⟩; have H1' := hid (show Hs w1 (w.heap.size + 1) [] by simpa using H1); have L1' := hid (L0.out.trans (L1.mono (by simp))); have Z1 := hid (Z0.out.below L1 (by simp)); clear H1 L1)
  go_loopg [5, 9] n (fun g _ v9 wr => ∃ k : Nat, v9 = .int .i64 k ∧ g = n - k ∧ k ≤ n ∧ Hid (Hs wr (w.heap.size + 1) (flat X k)) ∧ Hid (Below w.heap.size w wr) ∧ Hid (Fn wr w.heap.size 101 32 (fun _ => .int .u8 0)))
  case atStart => exact ⟨0, rfl, rfl, by omega, H1', L1', Z1⟩
  case round =>
    obtain ⟨k, rfl, hg, hk, S, L, Z⟩ := hrel
    by_cases hkn : k < n
    · obtain ⟨b, off, V, rfl, h2, h3, h4, h5⟩ := HP.out k hkn
      have c0 : wr.cell? ⟨b, off + k, none⟩ = some V := (L.out.cell h2).trans h3
      have hbl := Nat.lt_of_lt_of_le h2 L.out.size
      have HV := hid (h4.below L.out); have H5 := hid h5
      have hb1 := hid (HB.out (k + 1) hkn)
      clear h3 h4 h5
      go_wp2_with (go_at_call 69; refine (write_b S.out HV.out (fun hp c hc => by have := H5.out hp c hc; omega) (by have := hb1.out; simp only [flat, List.length_append] at this; omega)).mono ?_; rintro e w2 ⟨rfl, S2, M2⟩; have S2' := hid S2; have M2' := hid M2; clear S2 M2)
      go_roundg (n - (k + 1))
      case measure => omega
      case rel => exact ⟨k + 1, by go_num, rfl, by omega, S2', hid (L.out.trans (M2'.out.below L.out.size (fun c hc e => by omega))), hid (Z.out.mod M2'.out (by omega))⟩
    · have hkn' : k = n := by omega
      subst hkn'
      have hb1 := hid (HB.out k (Nat.le_refl _))
      go_wp2_with first
        | (refine wpList_store_mid rfl 101 (.tmp 2) (.tmp 18) rfl w.heap.size 0 (arr 32 (fun i => .int .u8 (ub (shaB (flat X k) i)))) rfl rfl (there_set Z2.out (arr_size _ _)) (by rw [arr_size]; kernel_rfl) one_arr ?_)
        | (go_at_call 70; refine (sum_c S.out hb1.out).mono ?_; rintro e w3 ⟨rfl, L3⟩; have L3' := hid (L.out.trans (L3.mono L.out.size)); have Z2 := hid (Z.out.below L3 Z.out.lt); clear L3)
      obtain ⟨cs9, g1, g2, g3⟩ := Z2.out.storeAll (fun j => .int .u8 (ub (shaB (flat X k) j)))
      have hcs9 := arr_ext g2 g3
      subst hcs9
      refine bodyPost_ret (v := .agg (arr 32 (fun i => .int .u8 (ub (shaB (flat X k) i))))) (results_cell_row (t := 101) (fr := (0, 0)) rfl _ _ w.heap.size _ _ rfl g1 Try.underlying101 rfl (by rw [arr_size]; kernel_rfl)) rfl ?_
      refine ⟨rfl, ?_⟩
      have ML : Mod (fun k => w.heap.size ≤ k) w w3 := ⟨L3'.out.os, L3'.out.tape, L3'.out.output, L3'.out.size, fun k hk _ => L3'.out.block k hk⟩
      exact (Mod.setCells (S := fun k => w.heap.size ≤ k) _ 0 w3 ML (fun hh => by omega)).below (Nat.le_refl _) (fun k hk hh => by omega)

set_option maxRecDepth 100000 in
set_option maxHeartbeats 2000000 in
/-- The hash of bytes. -/
theorem shaSum_c0 {w : World} {v : Value} {xs : List W8} (hv : Bytes w v xs) (hown : 0 < xs.length → ∀ k, v.ownBlock = some k → k < w.heap.size) (hbig : xs.length < 100000000) :
    Calls Try.prog 41 #[v] w fun e w' => e = .returned (.agg (arr 32 (fun i => .int .u8 (ub (shaB xs i))))) ∧ Below w.heap.size w w' := by
  have hvl : ∃ p cap, v = .slice p xs.length cap := by obtain ⟨p, cap, h, _⟩ := hv; exact ⟨p, cap, h⟩
  have HV := hid hv; have HO := hid hown
  have Z0 := hid ((Fn.arr w 101 32 (fun _ => .int .u8 0)).alloc (.cells #[v] 29))
  have L0 := hid (((Below.refl w.heap.size w).alloc (Nat.le_refl _) (.cells (arr 32 (fun _ => .int .u8 0)) 101)).alloc (by simp) (.cells #[v] 29))
  have P0 := hid (show Parts ((w.alloc (.cells (arr 32 (fun _ => .int .u8 0)) 101)).alloc (.cells #[v] 29)) (some ⟨w.heap.size + 1, 0, none⟩) 1 (fun _ => xs) from fun i hi => by
    have hi0 : i = 0 := by omega
    subst hi0
    refine ⟨w.heap.size + 1, 0, v, rfl, by simp, ?_, hv.below L0.out, fun h0 k hk => by have := hown h0 k hk; simp; omega⟩
    simp)
  have hb := hid hbig
  clear hv hown hbig
  obtain ⟨p, cap, rfl⟩ := hvl
  go_enter Try.func41, Try.ntmps41
  go_wp2_with first
    | (refine wpList_store_mid rfl 101 (.tmp 2) (.tmp 5) rfl w.heap.size 0 (arr 32 (fun i => .int .u8 (ub (shaB xs i)))) rfl rfl (there_set Z2.out (arr_size _ _)) (by rw [arr_size]; kernel_rfl) one_arr ?_)
    | (go_at_call 56; refine (all_c P0.out (by simp [maxLen]) (fun k hk => by
        have : k = 0 ∨ k = 1 := by omega
        rcases this with rfl | rfl
        · simp [flat]
        · simpa [flat] using hb.out)).mono ?_; rintro e w3 ⟨rfl, L3⟩; have L3' := hid (L0.out.trans (L3.mono (by simp; omega))); have Z2 := hid (Z0.out.below L3 (by simp; omega)); clear L3; simp only [show flat (fun _ => xs) 1 = xs from rfl])
  obtain ⟨cs9, g1, g2, g3⟩ := Z2.out.storeAll (fun j => .int .u8 (ub (shaB xs j)))
  have hcs9 := arr_ext g2 g3
  subst hcs9
  refine bodyPost_ret (v := .agg (arr 32 (fun i => .int .u8 (ub (shaB xs i))))) (results_cell_row (t := 101) (fr := (0, 0)) rfl _ _ w.heap.size _ _ rfl g1 Try.underlying101 rfl (by rw [arr_size]; kernel_rfl)) rfl ?_
  refine ⟨rfl, ?_⟩
  have ML : Mod (fun k => w.heap.size ≤ k) w w3 := ⟨L3'.out.os, L3'.out.tape, L3'.out.output, L3'.out.size, fun k hk _ => L3'.out.block k hk⟩
  exact (Mod.setCells (S := fun k => w.heap.size ≤ k) _ 0 w3 ML (fun hh => by omega)).below (Nat.le_refl _) (fun k hk hh => by omega)
theorem shaSum_c {w : World} {v : Value} {xs : List W8} (hv : Bytes w v xs) (hown : ∀ k, v.ownBlock = some k → k < w.heap.size) (hbig : xs.length < 100000000) :
    Calls Try.prog 41 #[v] w fun e w' => e = .returned (.agg (arr 32 (fun i => .int .u8 (ub (shaB xs i))))) ∧ Below w.heap.size w w' := shaSum_c0 hv (fun _ => hown) hbig
end Go.Proofs.Ytkehejkjifgieaa
