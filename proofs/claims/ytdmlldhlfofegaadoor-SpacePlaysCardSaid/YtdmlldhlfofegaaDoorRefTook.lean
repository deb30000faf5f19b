/- The document's map: what Take takes. -/
import Derived.Test.YtdmlldhlfofegaaDoorRefTake
namespace Go.Proofs.YtdmlldhlfofegaaDoor
open Go.RowKit

set_option maxRecDepth 100000 in
set_option maxHeartbeats 8000000 in
theorem rtake_yes {w : World} {v : Value} {n : Nat} {U : Nat → Bool} (h : RM w v n U) (h16 : 0 < n) (hn : n ≤ 512) (k : Nat) (hk : k ≤ 8) (hf : k ≤ (frees U n).length) :
    Calls Tryd.prog 17 #[v, .int .i64 k] w fun e w' => ∃ v' vv p, e = .returned (.tuple #[v', vv, .int .i64 0]) ∧ Ends U k p ∧ p ≤ n ∧ RM w' v' n (fun j => U j || decide (j < p)) ∧ w'.ownsRow w.heap.size 33 1 vv k (u32v (frees U p)) ∧ Below w.heap.size w w' := by
  obtain ⟨i0, hi0, hz0, hz1, hz2⟩ := info_parts info4
  obtain ⟨j0, hj0, hy0, hy1, hy2⟩ := info_parts info33
  have hlen := frees_len U n
  have hfr : ¬ (n : Int) - (cnt U n : Nat) < (k : Int) := by omega
  have HRM := hid h
  obtain ⟨b, c, rfl, hnc, hcm, hb, hcell⟩ := h
  have HC := hid hcell
  obtain ⟨w1, hw1⟩ : ∃ w1, w1 = (w.alloc (.cells #[.slice (some ⟨b, 0, none⟩) n c] 41)).alloc (.cells #[.slice none 0 0] 41) := ⟨_, rfl⟩
  have hs1 := hid (show w1.heap.size = w.heap.size + 2 by rw [hw1]; simp)
  have HB := hid (show Blk w1 w.heap.size #[.slice (some ⟨b, 0, none⟩) n c] 41 by rw [hw1]; exact (two_new w _).1)
  have HR := hid (show Blk w1 (w.heap.size + 1) #[.slice none 0 0] 41 by rw [hw1]; exact (two_new w _).2)
  have HL := hid (show Below w.heap.size w w1 by rw [hw1]; exact ((Below.refl w.heap.size w).alloc (Nat.le_refl _) _).alloc (by simp) _)
  have cm : w1.cell? ⟨w.heap.size, 0, none⟩ = some (.slice (some ⟨b, 0, none⟩) n c) := HB.out.cellv rfl
  have k0 : (0 : Int) ≤ (k : Int) := Int.natCast_nonneg _
  have k1 : ¬ (8 : Int) < (k : Int) := by omega
  have FC := hid (fun w' (hR : RM w' (.agg #[.slice (some ⟨b, 0, none⟩) n c]) n U) => rfree_c hR hn)
  have HF := hid hf
  clear hcell hlen hf
  generalize (n : Int) - (cnt U n : Nat) = fre at *
  go_enter Tryd.func17, Tryd.ntmps17
  go_upto_region 1 with fail
  rw [← hw1]
  clear hw1
  go_upto_region 5 with (go_at_call 23; refine (FC.out _ (HRM.out.below HL.out)).mono ?_; rintro e w2 ⟨rfl, Lx⟩; have HB2 := hid (HB.out.of_block (Lx.block _ HB.out.lt)); have HR2 := hid (HR.out.of_block (Lx.block _ HR.out.lt)); have L2 := hid (HL.out.trans (Lx.mono HL.out.size)); have z2 := hid Lx.size; clear Lx)
  have O0 := hid (show (w2.alloc (.cells #[] 4)).ownsRow w2.heap.size 4 1 (.slice (some ⟨w2.heap.size, 0, none⟩) 0 0) 0 [] from row_empty (Blk.new w2 #[] 4) (Nat.le_refl _))
  have BA := hid (bvl_at (W := w2.alloc (.cells #[] 4)) (b := b) (n := n) (U := U) (fun j hj => (World.cell?_of_block (w := w2) (Below.heap_alloc _ _ _ (Nat.lt_of_lt_of_le hb L2.out.size))).trans ((L2.out.cell hb).trans (HC.out j hj))))
  have cm2 : (w2.alloc (.cells #[] 4)).cell? ⟨w.heap.size, 0, none⟩ = some (.slice (some ⟨b, 0, none⟩) n c) := (HB2.out.alloc _).cellv rfl
  go_upto_region 6 with (at_builtin; refine wpList_append_own_at _ rfl (.tmp 22) (.tmp 24) 39 rfl w2.heap.size 4 i0 (.bool false) 1 1 rfl hi0 hz0 hz1 hz2 rfl (by decide) _ 0 [] rfl O0.out ⟨b, 0, none⟩ n c (bvl U n) rfl (by rw [bvl_len]; omega) BA.out (bvl_one U n) (by unfold maxLen; omega) (by omega) (by simp) ?_; intro v5 w5 hown5 hg5 _ _; have M5 := hid (Mod.of_grown (S := fun kk => w2.heap.size ≤ kk) hg5 (fun kk hk => (own_lt O0.out kk hk).1)); have O5 := hid hown5; clear hown5 hg5)
  obtain ⟨g, cc, cur, rfl, g1, g2, g3, g4, g5⟩ := own_blk (by have := O5.out; rwa [Nat.zero_add, List.nil_append] at this) h16
  have HG := hid g4
  have HGC := hid g5
  have hs2 : w.heap.size + 1 < w2.heap.size := by have := hs1.out; have := z2.out; omega
  have hg0 : w.heap.size + 1 < g := by omega
  have HR5 := hid (show Blk w5 (w.heap.size + 1) #[.slice none 0 0] 41 from (HR2.out.alloc (.cells #[] 4)).of_block (M5.out.block _ (by simp; omega) (by omega)))
  have L5 := hid (show Below w.heap.size w w5 from (L2.out.alloc (by omega) (.cells #[] 4)).trans (M5.out.below (by simp; omega) (fun c hc h => by omega)))
  have hg5 := g4.lt
  clear g4 g5 cm cm2 hz0 hz1 hz2 hi0
  have P0 := hid (show (w5.alloc (.cells #[] 33)).ownsRow w5.heap.size 33 1 (.slice (some ⟨w5.heap.size, 0, none⟩) 0 0) 0 [] from row_empty (Blk.new w5 #[] 33) (Nat.le_refl _))
  go_wp2
  go_loopg [8, 9] (n + 1) (fun gk v8 v9 wr => ∃ i cur, v9 = .int .i64 ((i : Nat) : Int) ∧ gk = n + 1 - i ∧ i ≤ n ∧ (frees U i).length ≤ k ∧ Hid ((frees U i).length = k → Ends U k i) ∧ Hid (wr.ownsRow w5.heap.size 33 1 v8 (frees U i).length (u32v (frees U i))) ∧ Hid (Blk wr g cur 4) ∧ Hid (∀ j, j < n → cur[j]? = some (.bool (U j || decide (j < i)))) ∧ Hid (Mod (fun c => c = g ∨ w5.heap.size ≤ c) w5 wr))
  case atStart =>
    refine ⟨0, cur, rfl, rfl, by omega, by simp [frees], hid (fun h => ?_), P0, hid (HG.out.alloc _), hid (fun j hj => by rw [HGC.out j hj]; simp), hid ((Mod.refl _ w5).alloc _)⟩
    have : k = 0 := by rw [← h]; rfl
    subst this
    exact ⟨rfl, fun _ => rfl, fun h => by omega⟩
  case round =>
    obtain ⟨i, cur', rfl, hgk, hin, htk, HE, OO, HGr, HGCr, MR⟩ := hrel
    obtain ⟨p8, c8, rfl, _⟩ := own_row OO.out
    obtain ⟨t, ht⟩ : ∃ t, t = (frees U i).length := ⟨_, rfl⟩
    have HT' := hid ht
    rw [← ht] at htk OO ⊢
    clear ht
    by_cases htk2 : t < k
    · have hlt : i < n := by
        by_cases e : i < n
        · exact e
        · have : i = n := by omega
          subst this
          have := HF.out
          have := HT'.out
          omega
      have ci : wr.cell? ⟨g, i, none⟩ = some (.bool (U i)) := by have := HGr.out.cellv (HGCr.out i hlt); rwa [decide_eq_false (Nat.lt_irrefl _), Bool.or_false] at this
      have fi := HGr.out.frozen i
      have m0 : (0 : Int) ≤ (i : Int) := Int.natCast_nonneg _
      have m1 : (i : Int) < (n : Int) := by omega
      have m2 : (i : Int) < 512 := by omega
      have m3 : (t : Int) < (k : Int) := by omega
      have m4 : (i : Int) < (cc : Int) := by omega
      have m5 : IntKind.u32.wrap (i : Int) = (i : Int) := by simp [IntKind.wrap, IntKind.bits, IntKind.signed]; omega
      have HSU := hid (frees_succ U i)
      cases hu : U i with
      | true =>
        rw [hu] at ci HSU
        have HU := hid hu
        clear hu
        go_wp2
        go_roundg (n + 1 - (i + 1))
        case measure => omega
        case rel =>
          have e1 : frees U (i + 1) = frees U i := by rw [HSU.out]; simp
          refine ⟨i + 1, cur', by go_num, rfl, by omega, by rw [e1, ← HT'.out]; omega, hid (fun h => by rw [e1, ← HT'.out] at h; omega), hid (by rw [e1, ← HT'.out]; exact OO.out), HGr, hid (fun j hj => ?_), MR⟩
          rw [HGCr.out j hj]
          by_cases e : j = i
          · subst e; rw [HU.out]; rfl
          · rw [decide_eq_decide.2 (show j < i ↔ j < i + 1 by omega)]
      | false =>
        rw [hu] at ci HSU
        have HU := hid hu
        clear hu
        have e1 := hid (show frees U (i + 1) = frees U i ++ [i] by rw [HSU.out]; simp)
        have O1 := hid (show ((wr.setCell ⟨g, i, none⟩ (.bool true)).alloc (.cells #[.int .u32 (i : Int)] 33)).ownsRow w5.heap.size 33 1 (.slice p8 t c8) t (u32v (frees U i)) from by
          refine (Mod.row (S := fun c => c = g) ((Mod.refl (fun c => c = g) wr).setCell (p := ⟨g, i, none⟩) (fun _ => rfl) (.bool true)) OO.out (fun c hc e => ?_)).alloc _
          have := (own_lt OO.out c hc).1
          omega)
        have hsz := MR.out.size
        have hzw : (wr.setCell ⟨g, i, none⟩ (.bool true)).heap.size = wr.heap.size := by simp [World.setCell]
        have hnew := new_one (wr.setCell ⟨g, i, none⟩ (.bool true)) (.int .u32 (i : Int)) 33
        rw [hzw] at hnew
        have HNW := hid hnew
        clear hnew hzw
        go_wp2_with (at_builtin; refine wpList_append_own_at _ rfl (.tmp 41) (.tmp 44) 30 rfl w5.heap.size 33 j0 (.int .u32 0) 1 4 rfl hj0 hy0 hy1 hy2 rfl (by decide) _ t (u32v (frees U i)) rfl O1.out ⟨wr.heap.size, 0, none⟩ 1 1 [.int .u32 (i : Int)] rfl rfl HNW.out (by simp [Value.oneCell']) (by unfold maxLen; omega) (by omega) (by simp [World.setCell]; omega) ?_; intro v4 w4 hown4 hg4 _ hv4; have O4 := hid hown4; have G4 := hid hg4; clear hown4 hg4 hv4)
        go_roundg (n + 1 - (i + 1))
        case measure => omega
        case rel =>
          have MG : Mod (fun c => w5.heap.size ≤ c) _ w4 := Mod.of_grown G4.out (fun c hc => (own_lt O1.out c hc).1)
          have hlen1 : (frees U (i + 1)).length = t + 1 := by rw [e1.out, List.length_append, ← HT'.out]; rfl
          have HGs := (HGr.out.set i (.bool true)).alloc (.cells #[.int .u32 (i : Int)] 33)
          refine ⟨i + 1, cur'.setIfInBounds i (.bool true), by go_num, rfl, by omega, by rw [hlen1]; omega, hid (fun h => ?_), hid ?_, hid (HGs.of_block (MG.block _ HGs.lt (by omega))), hid (fun j hj => ?_), hid ?_⟩
          · exact ⟨h, fun h0 => by omega, fun _ => ⟨by omega, HU.out⟩⟩
          · rw [hlen1, e1.out, show u32v (frees U i ++ [i]) = u32v (frees U i) ++ [.int .u32 (i : Int)] from by simp [u32v]]
            exact O4.out
          · rw [blk_set HGCr.out hlt j hj]
            by_cases e : j = i
            · subst e; rw [if_pos rfl, decide_eq_true (by omega), Bool.or_true]
            · rw [if_neg e, decide_eq_decide.2 (show j < i ↔ j < i + 1 by omega)]
          · refine (((MR.out.setCell (p := ⟨g, i, none⟩) (fun _ => Or.inl rfl) _).alloc _)).step MG (fun c hc h => Or.inr h)
    · have htk3 : t = k := by omega
      subst htk3
      have HEE := hid (HE.out HT'.out.symm)
      have HRr := hid (HR5.out.of_block (MR.out.block _ HR5.out.lt (by omega)))
      have cr : wr.cell? ⟨w.heap.size + 1, 0, none⟩ = some (.slice none 0 0) := HRr.out.cellv rfl
      have fr := HRr.out.frozen 0
      have L6 := hid (show Below w.heap.size w wr from L5.out.trans (MR.out.below L5.out.size (fun c hc h => by have := L5.out.size; omega)))
      go_wp2
      have HG7 := HGr.out.other (a := ⟨w.heap.size + 1, 0, none⟩) (by show w.heap.size + 1 ≠ g; omega) (.slice (some ⟨g, 0, none⟩) n cc)
      have OF : (wr.setCell ⟨w.heap.size + 1, 0, none⟩ (.slice (some ⟨g, 0, none⟩) n cc)).ownsRow w5.heap.size 33 1 (.slice p8 t c8) t (u32v (frees U i)) :=
        Mod.row (S := fun c => c = w.heap.size + 1) ((Mod.refl (fun c => c = w.heap.size + 1) wr).setCell (p := ⟨w.heap.size + 1, 0, none⟩) (fun _ => rfl) _) OO.out (fun c hc e => by
          have := (own_lt OO.out c hc).1
          have := L5.out.size
          omega)
      refine ret_map3 rfl rfl rfl rfl rfl (HRr.out.set 0 (.slice (some ⟨g, 0, none⟩) n cc)) rfl ⟨_, _, i, rfl, HEE.out, hin, ⟨g, cc, rfl, g1, g2, HG7.lt, fun j hj => HG7.cellv (HGCr.out j hj)⟩, ?_, ?_⟩
      · obtain ⟨o1, o2⟩ := OF
        refine ⟨o1, ?_⟩
        rcases o2 with o2 | ⟨gg, cap, cu, q1, q2, q3⟩
        · exact Or.inl o2
        · exact Or.inr ⟨gg, cap, cu, q1, Nat.le_trans L5.out.size q2, q3⟩
      · exact (((Mod.of_below L6.out (fun c => w.heap.size ≤ c)).setCell (p := ⟨w.heap.size + 1, 0, none⟩) (fun _ => Nat.le_succ _) _).below (Nat.le_refl _) (fun c hc h => by omega))
end Go.Proofs.YtdmlldhlfofegaaDoor
