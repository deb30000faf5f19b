/- The document's map: what Give and Take make. -/
import Derived.Test.YtdmlldhlfofegaaDoorRefUsed
namespace Go.Proofs.YtdmlldhlfofegaaDoor
open Go.RowKit

def bvl (U : Nat → Bool) (n : Nat) : List Value := (List.range n).map (fun j => .bool (U j))
theorem bvl_len (U : Nat → Bool) (n : Nat) : (bvl U n).length = n := by simp [bvl]
theorem bvl_one (U : Nat → Bool) (n : Nat) : ∀ u ∈ bvl U n, u.oneCell' = true := by intro u hu; unfold bvl at hu; obtain ⟨x, _, rfl⟩ := List.mem_map.1 hu; rfl
theorem bvl_at {W : World} {b n : Nat} {U : Nat → Bool} (h : ∀ i, i < n → W.cell? ⟨b, i, none⟩ = some (.bool (U i))) : ∀ j v, (bvl U n)[j]? = some v → W.cell? ((⟨b, 0, none⟩ : Addr).add j) = some v := fun j v hv => by
  have hj : j < n := by have := (List.getElem?_eq_some_iff.1 hv).1; rwa [bvl_len] at this
  rw [Addr.add_mid, Nat.zero_add, h j hj]
  unfold bvl at hv
  simpa [hj] using hv
/-- An own row of truths as a block. -/
theorem own_blk {w : World} {base n : Nat} {v : Value} {U : Nat → Bool} (h : w.ownsRow base 4 1 v n (bvl U n)) (hn : 0 < n) :
    ∃ g c cur, v = .slice (some ⟨g, 0, none⟩) n c ∧ n ≤ c ∧ c ≤ 9223372036854775807 ∧ base ≤ g ∧ Blk w g cur 4 ∧ ∀ i, i < n → cur[i]? = some (.bool (U i)) := by
  rcases h.2 with ⟨h1, h2⟩ | ⟨g, cap, cur, h1, h2, h3, h4, h5, h6, h7⟩
  · omega
  · refine ⟨g, cap, cur, h1, h4, by simpa [maxLen] using h5, h2, h3, fun i hi => ?_⟩
    rw [← Array.getElem?_toList, ← List.getElem?_take_of_lt (show i < n * 1 by omega), h7]
    simp [bvl, hi]
theorem blk_set {cur : Array Value} {U : Nat → Bool} {n i : Nat} {q : Bool} (h : ∀ j, j < n → cur[j]? = some (.bool (U j))) (hi : i < n) : ∀ j, j < n → (cur.setIfInBounds i (.bool q))[j]? = some (.bool (if j = i then q else U j)) := fun j hj => by
  by_cases e : j = i
  · subst e
    rw [if_pos rfl, Array.getElem?_setIfInBounds_self_of_lt]
    have := h j hj
    exact (Array.getElem?_eq_some_iff.1 this).1
  · rw [if_neg e, Array.getElem?_setIfInBounds_ne (Ne.symm e)]; exact h j hj
set_option maxRecDepth 100000 in
set_option maxHeartbeats 4000000 in
theorem rgive_yes {w : World} {v : Value} {n : Nat} {U : Nat → Bool} (h : RM w v n U) (hn : n ≤ 512) (i : Nat) (h4 : 4 ≤ i) (hin : i < n) (hu : U i = true) : Calls Tryd.prog 18 #[v, .int .u32 i] w fun e w' => ∃ v', e = .returned (.tuple #[v', .int .i64 0]) ∧ RM w' v' n (fun j => U j && !decide (j = i)) ∧ Below w.heap.size w w' := by
  obtain ⟨i0, hi0, hz0, hz1, hz2⟩ := info_parts info4
  obtain ⟨b, c, rfl, hnc, hcm, hb, hcell⟩ := h
  have HC := hid hcell
  obtain ⟨w1, hw1⟩ : ∃ w1, w1 = (w.alloc (.cells #[.slice (some ⟨b, 0, none⟩) n c] 41)).alloc (.cells #[.slice none 0 0] 41) := ⟨_, rfl⟩
  have hs1 := hid (show w1.heap.size = w.heap.size + 2 by rw [hw1]; simp)
  have HB := hid (show Blk w1 w.heap.size #[.slice (some ⟨b, 0, none⟩) n c] 41 by rw [hw1]; exact (Blk.new w _ _).alloc _)
  have HR := hid (show Blk w1 (w.heap.size + 1) #[.slice none 0 0] 41 by rw [hw1]; have := Blk.new (w.alloc (.cells #[.slice (some ⟨b, 0, none⟩) n c] 41)) #[.slice none 0 0] 41; simpa using this)
  have HL := hid (show Below w.heap.size w w1 by rw [hw1]; exact ((Below.refl w.heap.size w).alloc (Nat.le_refl _) _).alloc (by simp) _)
  have cm : w1.cell? ⟨w.heap.size, 0, none⟩ = some (.slice (some ⟨b, 0, none⟩) n c) := HB.out.cellv rfl
  have n0 : IntKind.u64.wrap (n : Int) = (n : Int) := by simp [IntKind.wrap, IntKind.bits, IntKind.signed]; omega
  have n1 : IntKind.u64.wrap (i : Int) = (i : Int) := by simp [IntKind.wrap, IntKind.bits, IntKind.signed]; omega
  have h4' : ¬ (i : Int) < 4 := by omega
  have hni' : ¬ (n : Int) ≤ (i : Int) := by omega
  have cu : w1.cell? ⟨b, i, none⟩ = some (.bool true) := by rw [← hu]; exact (HL.out.cell hb).trans (HC.out i (by omega))
  have m0 : (0 : Int) ≤ (i : Int) := Int.natCast_nonneg _
  have m2 : (i : Int) < (n : Int) := by omega
  have O0 := hid (show (w1.alloc (.cells #[] 4)).ownsRow w1.heap.size 4 1 (.slice (some ⟨w1.heap.size, 0, none⟩) 0 0) 0 [] from row_empty (Blk.new w1 #[] 4) (Nat.le_refl _))
  have BA := hid (bvl_at (W := w1.alloc (.cells #[] 4)) (b := b) (n := n) (U := U) (fun j hj => (World.cell?_of_block (w := w1) (Below.heap_alloc _ _ _ (Nat.lt_of_lt_of_le hb HL.out.size))).trans ((HL.out.cell hb).trans (HC.out j hj))))
  have cm2 : (w1.alloc (.cells #[] 4)).cell? ⟨w.heap.size, 0, none⟩ = some (.slice (some ⟨b, 0, none⟩) n c) := (HB.out.alloc _).cellv rfl
  clear hcell hu
  go_enter Tryd.func18, Tryd.ntmps18
  go_upto_region 1 with fail
  rw [← hw1]
  clear hw1
  go_upto_region 4 with (at_builtin; refine wpList_append_own_at _ rfl (.tmp 27) (.tmp 29) 39 rfl w1.heap.size 4 i0 (.bool false) 1 1 rfl hi0 hz0 hz1 hz2 rfl (by decide) _ 0 [] rfl O0.out ⟨b, 0, none⟩ n c (bvl U n) rfl (by rw [bvl_len]; omega) BA.out (bvl_one U n) (by unfold maxLen; omega) (by omega) (by simp) ?_; intro v5 w5 hown5 hg5 _ _; have M5 := hid (Mod.of_grown (S := fun kk => w1.heap.size ≤ kk) hg5 (fun kk hk => (own_lt O0.out kk hk).1)); have O5 := hid hown5; clear hown5 hg5)
  obtain ⟨g, cc, cur, rfl, g1, g2, g3, g4, g5⟩ := own_blk (by have := O5.out; rwa [Nat.zero_add, List.nil_append] at this) (by omega)
  have HG := hid g4
  have HGC := hid g5
  have hg0 : w.heap.size + 1 < g := by have := hs1.out; omega
  have HR5 := hid (show Blk w5 (w.heap.size + 1) #[.slice none 0 0] 41 from (HR.out.alloc (.cells #[] 4)).of_block (M5.out.block _ (by have := hs1.out; simp; omega) (by have := hs1.out; omega)))
  have L5 := hid (show Below w.heap.size w w5 from (HL.out.alloc (by have := HL.out.size; omega) (.cells #[] 4)).trans (M5.out.below (by simp; have := HL.out.size; omega) (fun c hc h => by have := hs1.out; omega)))
  have ci : w5.cell? ⟨g, i, none⟩ = some (.bool (U i)) := g4.cellv (g5 i hin)
  have fi := g4.frozen i
  have cr : w5.cell? ⟨w.heap.size + 1, 0, none⟩ = some (.slice none 0 0) := HR5.out.cellv rfl
  have fr := HR5.out.frozen 0
  have hic : (i : Int) < (cc : Int) := by omega
  clear g4 g5 cm cm2 cu
  go_upto_region 5 with fail
  have HG6 := hid (HG.out.set i (.bool false))
  have HR6 := hid (HR5.out.other (a := ⟨g, i, none⟩) (by show g ≠ w.heap.size + 1; omega) (.bool false))
  have L6 := hid (show Below w.heap.size w (w5.setCell ⟨g, i, none⟩ (.bool false)) from ((Mod.of_below L5.out (fun c => w.heap.size ≤ c)).setCell (p := ⟨g, i, none⟩) (fun _ => by show w.heap.size ≤ g; omega) _).below (Nat.le_refl _) (fun c hc h => by omega))
  generalize w5.setCell ⟨g, i, none⟩ (.bool false) = w6 at HG6 HR6 L6 ⊢
  have cr : w6.cell? ⟨w.heap.size + 1, 0, none⟩ = some (.slice none 0 0) := HR6.out.cellv rfl
  have fr := HR6.out.frozen 0
  go_wp2
  have HG7 := HG6.out.other (a := ⟨w.heap.size + 1, 0, none⟩) (by show w.heap.size + 1 ≠ g; omega) (.slice (some ⟨g, 0, none⟩) n cc)
  refine ret_map rfl rfl rfl rfl (HR6.out.set 0 (.slice (some ⟨g, 0, none⟩) n cc)) rfl ⟨_, rfl, ⟨g, cc, rfl, g1, g2, HG7.lt, fun j hj => ?_⟩, ?_⟩
  · rw [HG7.cellv (blk_set HGC.out hin j hj)]
    by_cases e : j = i
    · subst e; simp
    · simp [e]
  · exact (((Mod.of_below L6.out (fun c => w.heap.size ≤ c)).setCell (p := ⟨w.heap.size + 1, 0, none⟩) (fun _ => Nat.le_succ _) _).below (Nat.le_refl _) (fun c hc h => by omega))
end Go.Proofs.YtdmlldhlfofegaaDoor
