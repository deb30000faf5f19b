/- Bytes are written: 'Write'. -/
import Derived.Test.YtkehejkjifgieaaShaMsg
import Derived.Laws.IdiomCopy
namespace Go.Proofs.Ytkehejkjifgieaa
open Go.RowKit Go.ChangeMaps

/-- Bytes lie at block b from off on. -/
def Src (w : World) (b off : Nat) (xs : List W8) : Prop := ∀ i, i < xs.length → w.cell? ⟨b, off + i, none⟩ = some (.int .u8 (ub (xs.getD i 0)))
theorem Src.of_block {w w' : World} {b off : Nat} {xs : List W8} (h : Src w b off xs) (hb : w'.heap[b]? = w.heap[b]?) : Src w' b off xs := fun i hi => (World.cell?_of_block (w := w) hb).trans (h i hi)
def byv (xs : List W8) : List Value := xs.map (fun x => .int .u8 (ub x))

set_option maxRecDepth 100000 in
theorem slice_blk (h L : Nat) (hL : L < 64) (w : World) : (Instr.sliceAt 128 (.pointer (some ⟨h, 8, none⟩)) (some (.int .i64 L)) none none).run Try.prog w = .ok (.slice (some ⟨h, 8 + L, none⟩) (64 - L) (64 - L)) w := by
  have ha : Try.prog.arrayLen 128 = 64 := by kernel_rfl
  have hs : (sizeOf (Try.prog.elem 128)).run Try.prog w = .ok 1 w := rfl
  have := run_sliceAt_array_l (P := Try.prog) w 128 ⟨h, 8, none⟩ (by kernel_rfl) .i64 (L : Int) (by omega) (by rw [ha]; omega)
  rw [this, hs, ha]
  simp only [Result.andThen_ok, slicedAt, Int.toNat_natCast, Nat.mul_one]
  rw [if_neg (by omega), Addr.add_mid]

set_option maxRecDepth 100000 in
set_option maxHeartbeats 4000000 in
theorem write_c {w : World} {hk0 : Nat} {m : List W8} (H0 : Hs w hk0 m) {b off cap : Nat} {xs : List W8} (hb : b ≠ hk0) (hbw : b < w.heap.size) (hs : Src w b off xs) (hcap : xs.length ≤ cap) (hcm : cap ≤ maxLen) (hpos : 0 < xs.length) (hbig : m.length + xs.length < 1152921504606846976) :
    Calls Try.prog 69 #[.pointer (some ⟨hk0, 0, none⟩), .slice (some ⟨b, off, none⟩) xs.length cap] w fun e w' => e = .returned (.tuple #[]) ∧ Hs w' hk0 (m ++ xs) ∧ Mod (fun k => k = hk0) w w' := by
  have hcm' : cap ≤ 9223372036854775807 := by simpa [maxLen] using hcm
  obtain ⟨B0, H1, hB0⟩ := H0
  have hh := Fn.lt H1
  have c1 : w.cell? ⟨hk0, 73, none⟩ = some (.int .u64 m.length) := H1.cell (j := 73) (by omega)
  have f1 : w.frozen? ⟨hk0, 73, none⟩ = false := H1.frozen _
  have S0 := hid (show HsL (w.setCell ⟨hk0, 73, none⟩ (.int .u64 ((m.length : Int) + xs.length))) hk0 m ((m.length : Int) + xs.length) from
    ⟨B0, (Fn.set H1 73 _).congr (fun j hj => by
      unfold set1 hcell
      by_cases e : j = 73
      · subst e; rfl
      · rw [if_neg e]
        by_cases e1 : j < 8
        · rw [if_pos e1, if_pos e1]
        · rw [if_neg e1, if_neg e1]
          by_cases e2 : j < 72
          · rw [if_pos e2, if_pos e2]
          · rw [if_neg e2, if_neg e2, if_pos (by omega), if_pos (by omega)]), hB0⟩)
  have R0 := hid (show Src (w.setCell ⟨hk0, 73, none⟩ (.int .u64 ((m.length : Int) + xs.length))) b off xs from hs.of_block (Below.heap_setCell _ _ _ _ hb))
  have M0 := hid ((Mod.refl (fun k => k = hk0) w).setCell (p := ⟨hk0, 73, none⟩) (fun _ => rfl) (.int .u64 ((m.length : Int) + xs.length)))
  clear H1 hs
  go_enter Try.func69, Try.ntmps69
  go_wp2
  go_loopg [1, 4] xs.length (fun g v _ wr => ∃ (p : Nat) (q : Option Addr) (c : Nat), v = .slice q (xs.length - p) c ∧ g = xs.length - p ∧ p ≤ xs.length ∧ (p < xs.length → q = some ⟨b, off + p, none⟩ ∧ c = cap - p) ∧
    Hid (HsL wr hk0 (m ++ xs.take p) ((m.length : Int) + xs.length)) ∧ Hid (Src wr b off xs) ∧ Hid (Mod (fun k => k = hk0) w wr))
  case atStart =>
    exact ⟨0, _, cap, rfl, rfl, by omega, fun _ => ⟨rfl, rfl⟩, hid (by simpa using S0.out), R0, M0⟩
  case round =>
    obtain ⟨p, q, c, rfl, rfl, hp, hq, S, R, M⟩ := hrel
    by_cases hpl : p < xs.length
    · obtain ⟨rfl, rfl⟩ := hq hpl
      obtain ⟨B, G, hB⟩ := S.out
      have hml : (m ++ xs.take p).length = m.length + p := by simp; omega
      obtain ⟨L, hL⟩ : ∃ L, L = (m ++ xs.take p).length % 64 := ⟨_, rfl⟩
      have hL64 : L < 64 := by omega
      obtain ⟨n, hn⟩ : ∃ n, n = min (64 - L) (xs.length - p) := ⟨_, rfl⟩
      have hn1 : 0 < n := by omega
      have hn2 : L + n ≤ 64 := by omega
      have hn3 : p + n ≤ xs.length := by omega
      obtain ⟨cs, hcs⟩ : ∃ cs, cs = byv ((xs.drop p).take n) := ⟨_, rfl⟩
      have hxl : ((xs.drop p).take n).length = n := by simp; omega
      have hcl : cs.length = n := by rw [hcs]; unfold byv; rw [List.length_map, hxl]
      have hxg : ∀ j, j < n → ((xs.drop p).take n).getD j 0 = xs.getD (p + j) 0 := fun j hj => by
        simp only [List.getD_eq_getElem?_getD]; rw [List.getElem?_take_of_lt hj, List.getElem?_drop]
      have hcg : ∀ j, j < n → cs[j]? = some (.int .u8 (ub (((xs.drop p).take n).getD j 0))) := fun j hj => by
        rw [hcs]; unfold byv; rw [List.getElem?_map, List.getElem?_eq_getElem (by omega), List.getD_eq_getElem?_getD, List.getElem?_eq_getElem (by omega)]; rfl
      rw [← hL] at G hB
      have hh1 := Fn.lt G
      have c72 : wr.cell? ⟨hk0, 72, none⟩ = some (.int .i64 L) := Fn.cell G (j := 72) (by omega)
      obtain ⟨w2, hw2⟩ : ∃ w2, w2 = wr.drew.setCells hk0 (8 + L) cs := ⟨_, rfl⟩
      have hcopy : ∀ ty, (Builtin.copy_ #[29, 29] ty #[.slice (some ⟨hk0, 8 + L, none⟩) (64 - L) (64 - L), .slice (some ⟨b, off + p, none⟩) (xs.length - p) (cap - p)]).run Try.prog wr.drew = .ok (.int .i64 n) w2 := by
        intro ty
        have := run_copy_cells (P := Try.prog) wr.drew 29 29 ty 5 hk0 (8 + L) (64 - L) (64 - L) ⟨b, off + p, none⟩ (xs.length - p) (cap - p) cs Try.underlying29 (by kernel_rfl) (by rw [hcl]; show n = min _ _; omega)
          (fun j v hv => by
            have hj : j < n := by rw [← hcl]; exact (List.getElem?_eq_some_iff.1 hv).1
            rw [hcg j hj, hxg j hj] at hv
            rw [← hv, Addr.add_mid, show off + p + j = off + (p + j) by omega]; exact R.out (p + j) (by omega))
          (fun j hj => ((Fn.there G (8 + L) n (by omega)) j (by omega)).1) (fun j hj => ((Fn.there G (8 + L) n (by omega)) j (by omega)).2) (fun v hv => by
            rw [hcs] at hv; unfold byv at hv; obtain ⟨x, _, rfl⟩ := List.mem_map.1 hv; rfl)
        rw [this, hw2, hcl]; rfl
      have G2 := hid (show HashAt (w2.setCell ⟨hk0, 72, none⟩ (.int .i64 ((L : Int) + n))) hk0 (bst (m ++ xs.take p) ((m ++ xs.take p).length / 64)) (fill B L n (fun i => ((xs.drop p).take n).getD i 0)) ((L : Int) + n) ((m.length : Int) + xs.length) from by
        rw [hw2]; exact filled (w := wr.drew) (Fn.of_block G rfl) hn2 _ cs hcl hcg _)
      have M2 := hid (show Mod (fun k => k = hk0) w w2 by rw [hw2]; exact Mod.setCells cs _ _ M.out.drew (fun _ => rfl))
      have hh2 : hk0 < w2.heap.size := by have := Fn.lt G2.out; simpa [World.setCell] using this
      have d72 : w2.cell? ⟨hk0, 72, none⟩ = some (.int .i64 L) := by
        rw [hw2]
        have := Fn.setCells cs (8 + L) wr.drew _ (Fn.of_block G rfl) (hcell (bst (m ++ xs.take p) ((m ++ xs.take p).length / 64)) (fill B L n (fun i => ((xs.drop p).take n).getD i 0)) (L : Int) ((m.length : Int) + xs.length)) (fun j hj => by
          rw [hcg j (by omega)]; unfold hcell fill
          rw [if_neg (by omega), if_pos (by omega), if_pos (by omega), show 8 + L + j - 8 - L = j by omega]) (fun j hj hj2 => by
          unfold hcell fill
          by_cases e1 : j < 8
          · rw [if_pos e1, if_pos e1]
          · rw [if_neg e1, if_neg e1]
            by_cases e2 : j < 72
            · rw [if_pos e2, if_pos e2, if_neg (by omega)]
            · rw [if_neg e2, if_neg e2])
        exact this.cell (j := 72) (by omega)
      have f72 : w2.frozen? ⟨hk0, 72, none⟩ = false := by
        rw [hw2, World.frozen?_setCells]; exact Fn.frozen (Fn.of_block (w' := wr.drew) G rfl) 72
      have R2 := hid (R.out.of_block (w' := w2.setCell ⟨hk0, 72, none⟩ (.int .i64 ((L : Int) + n))) (by
        rw [Below.heap_setCell _ _ _ _ hb, hw2]
        by_cases e : b < wr.drew.heap.size
        · exact World.heap_setCells_other _ _ _ _ e hb
        · have := M.out.size; simp at e; omega))
      have HH := hid hL; have HB := hid hB
      have HXL := hid hxl
      have hn4 := hid (show L + n = 64 ∨ p + n = xs.length by omega)
      have hle : n ≤ xs.length - p := by omega
      clear hn hxl hcl hxg hcg G hB hw2 hcs hL
      have hsl : (Instr.sliceAt 128 (.pointer (some ⟨hk0, 8, none⟩)) (some (.int .i64 L)) none none).run Try.prog wr.drew = .ok (.slice (some ⟨hk0, 8 + L, none⟩) (64 - L) (64 - L)) wr.drew := slice_blk hk0 L hL64 wr.drew
      by_cases hfull : L + n = 64
      · go_wp2
        go_region
        go_wp2_with (go_at_call 77; refine (take_c G2.out).mono ?_; rintro e w5 ⟨rfl, G5, M5⟩; have G5' := hid G5; have M5' := hid M5; clear G5 M5)
        all_goals
          go_roundg (xs.length - (p + n))
          case measure => omega
          case rel =>
            have hL := HH.out
            subst hL
            have e1 : xs.take (p + n) = xs.take p ++ (xs.drop p).take n := List.take_add
            have M3 : Mod (fun k => k = hk0) w (w2.setCell ⟨hk0, 72, none⟩ (.int .i64 (((m ++ xs.take p).length % 64 : Nat) + (n : Int)))) := M2.out.setCell (p := ⟨hk0, 72, none⟩) (fun _ => rfl) _
            refine ⟨p + n, _, _, by rw [← Nat.sub_sub], rfl, by omega, fun hlt => ?_, hid ?_, ?_, ?_⟩
            · first | (exfalso; omega) | exact ⟨by rw [Nat.add_assoc], by omega⟩
            · rw [e1, ← List.append_assoc]
              exact msg_whole HXL.out hfull HB.out G5'.out
            · exact hid (R2.out.of_block (M5'.out.block b (by have := M3.size; omega) hb))
            · exact hid (M3.trans M5'.out)
      · go_wp2
        go_region
        go_wp2
        all_goals
          go_roundg (xs.length - (p + n))
          case measure => omega
          case rel =>
            have hL := HH.out
            subst hL
            have e1 : xs.take (p + n) = xs.take p ++ (xs.drop p).take n := List.take_add
            have M3 : Mod (fun k => k = hk0) w (w2.setCell ⟨hk0, 72, none⟩ (.int .i64 (((m ++ xs.take p).length % 64 : Nat) + (n : Int)))) := M2.out.setCell (p := ⟨hk0, 72, none⟩) (fun _ => rfl) _
            refine ⟨p + n, _, _, by rw [← Nat.sub_sub], rfl, by omega, fun hlt => ?_, hid ?_, ?_, ?_⟩
            · first | (exfalso; omega) | exact ⟨by rw [Nat.add_assoc], by omega⟩
            · rw [e1, ← List.append_assoc]
              exact msg_part HXL.out (by omega) HB.out (by have := G2.out; simpa using this)
            · exact R2
            · exact hid M3
    · have hpe : p = xs.length := by omega
      subst hpe
      have ht : xs.take xs.length = xs := List.take_length
      go_wp2
      go_end0
      refine ⟨rfl, ?_, M.out⟩
      have := S.out
      rw [ht] at this
      unfold Hs
      rw [List.length_append]
      simpa using this
end Go.Proofs.Ytkehejkjifgieaa
