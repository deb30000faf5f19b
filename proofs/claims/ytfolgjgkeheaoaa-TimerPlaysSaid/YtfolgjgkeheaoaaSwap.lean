/- Two timers change places. -/
import Derived.Test.YtfolgjgkeheaoaaDefs
namespace Go.Proofs.Ytfolgjgkeheaoaa
open Go.RowKit Go.ChangeMaps

set_option maxRecDepth 100000 in
set_option maxHeartbeats 4000000 in
theorem swap_raw (t hb mb i j n cap : Nat) (ai aj ti tj : Int) (w : World) (cur : Array Value) (D : Int → Option Value)
    (hT : Blk w t #[.slice (some ⟨hb, 0, none⟩) n cap, .map (some mb)] 59) (hH : Blk w hb cur 62) (hM : IMap w mb .u32 D)
    (hi : i < n) (hj : j < n) (_ : n ≤ 1001)
    (ci0 : cur[i * 2]? = some (.int .u32 ai)) (ci1 : cur[i * 2 + 1]? = some (.int .u64 ti))
    (cj0 : cur[j * 2]? = some (.int .u32 aj)) (cj1 : cur[j * 2 + 1]? = some (.int .u64 tj)) :
    Calls Try.prog 25 #[.pointer (some ⟨t, 0, none⟩), .int .i64 i, .int .i64 j] w fun e w' => e = .returned (.tuple #[]) ∧
      Blk w' t #[.slice (some ⟨hb, 0, none⟩) n cap, .map (some mb)] 59 ∧
      Blk w' hb ((((cur.setIfInBounds (i * 2) (.int .u32 aj)).setIfInBounds (i * 2 + 1) (.int .u64 tj)).setIfInBounds (j * 2) (.int .u32 ai)).setIfInBounds (j * 2 + 1) (.int .u64 ti)) 62 ∧
      IMap w' mb .u32 (upd (upd D aj (.int .i64 i)) ai (.int .i64 j)) ∧ Mod (fun k => k = hb ∨ k = mb) w w' := by
  have ht := hT.lt
  have hh := hH.lt
  have hm := hM.lt
  have hth : t ≠ hb := hT.ne hH (by decide)
  have htm : t ≠ mb := hM.not_cells hT
  have hhm : hb ≠ mb := hM.not_cells hH
  have h0 : w.cell? ⟨t, 0, none⟩ = some (.slice (some ⟨hb, 0, none⟩) n cap) := hT.cellv rfl
  have h1 : w.cell? ⟨t, 1, none⟩ = some (.map (some mb)) := hT.cellv rfl
  have d0 : w.cell? ⟨hb, i * 2, none⟩ = some (.int .u32 ai) := hH.cellv ci0
  have d1 : w.cell? ⟨hb, i * 2 + 1, none⟩ = some (.int .u64 ti) := hH.cellv ci1
  have d2 : w.cell? ⟨hb, j * 2, none⟩ = some (.int .u32 aj) := hH.cellv cj0
  have d3 : w.cell? ⟨hb, j * 2 + 1, none⟩ = some (.int .u64 tj) := hH.cellv cj1
  have f0 : w.frozen? ⟨hb, i * 2, none⟩ = false := hH.frozen _
  have f1 : w.frozen? ⟨hb, i * 2 + 1, none⟩ = false := hH.frozen _
  have f2 : w.frozen? ⟨hb, j * 2, none⟩ = false := hH.frozen _
  have f3 : w.frozen? ⟨hb, j * 2 + 1, none⟩ = false := hH.frozen _
  have HT := hid hT; have HH := hid hH; have HM := hid hM
  have H0 := hid ci0; have H1 := hid ci1; have H2 := hid cj0; have H3 := hid cj1
  clear hT hH hM ci0 ci1 cj0 cj1
  go_enter Try.func25, Try.ntmps25
  go_wp2
  obtain ⟨y1, z1⟩ : ∃ z, (w.setCell ⟨hb, i * 2, none⟩ (.int .u32 aj)).cell? ⟨hb, j * 2, none⟩ = some z := by
    refine ⟨_, (HH.out.set (i * 2) (.int .u32 aj)).cellv (Array.getElem?_eq_getElem ?_)⟩
    have := (Array.getElem?_eq_some_iff.1 H2.out).1; simp; omega
  obtain ⟨y2, z2⟩ : ∃ z, ((w.setCell ⟨hb, i * 2, none⟩ (.int .u32 aj)).setCell ⟨hb, i * 2 + 1, none⟩ (.int .u64 tj)).cell? ⟨hb, j * 2 + 1, none⟩ = some z := by
    refine ⟨_, ((HH.out.set (i * 2) (.int .u32 aj)).set (i * 2 + 1) (.int .u64 tj)).cellv (Array.getElem?_eq_getElem ?_)⟩
    have := (Array.getElem?_eq_some_iff.1 H3.out).1; simp; omega
  go_region
  generalize hwq : World.setCell _ _ _ = wq
  have hH : Blk wq hb ((((cur.setIfInBounds (i * 2) (.int .u32 aj)).setIfInBounds (i * 2 + 1) (.int .u64 tj)).setIfInBounds (j * 2) (.int .u32 ai)).setIfInBounds (j * 2 + 1) (.int .u64 ti)) 62 := by
    rw [← hwq]; exact (((HH.out.set _ _).set _ _).set _ _).set _ _
  have hT : Blk wq t #[.slice (some ⟨hb, 0, none⟩) n cap, .map (some mb)] 59 := by
    rw [← hwq]; exact (((HT.out.other (Ne.symm hth) _).other (Ne.symm hth) _).other (Ne.symm hth) _).other (Ne.symm hth) _
  have hM : IMap wq mb .u32 D := by
    rw [← hwq]; exact (((HM.out.other hhm _).other hhm _).other hhm _).other hhm _
  have hMod : Mod (fun k => k = hb ∨ k = mb) w wq := by
    rw [← hwq]; exact ((((Mod.refl _ w).setCell (fun _ => Or.inl rfl) _).setCell (fun _ => Or.inl rfl) _).setCell (fun _ => Or.inl rfl) _).setCell (fun _ => Or.inl rfl) _
  have hsz : i * 2 + 1 < cur.size := (Array.getElem?_eq_some_iff.1 H1.out).1
  have hsz2 : j * 2 + 1 < cur.size := (Array.getElem?_eq_some_iff.1 H3.out).1
  have g0 : wq.cell? ⟨t, 0, none⟩ = some (.slice (some ⟨hb, 0, none⟩) n cap) := hT.cellv rfl
  have g1 : wq.cell? ⟨t, 1, none⟩ = some (.map (some mb)) := hT.cellv rfl
  have e0 : wq.cell? ⟨hb, i * 2, none⟩ = some (.int .u32 aj) := hH.cellv (by
    by_cases hij : i = j
    · subst hij
      have : (Value.int .u32 ai) = .int .u32 aj := Option.some.inj (H0.out.symm.trans H2.out)
      rw [Array.getElem?_setIfInBounds_ne (by omega), Array.getElem?_setIfInBounds_self_of_lt (by simp; omega), this]
    · rw [Array.getElem?_setIfInBounds_ne (by omega), Array.getElem?_setIfInBounds_ne (by omega), Array.getElem?_setIfInBounds_ne (by omega), Array.getElem?_setIfInBounds_self_of_lt (by omega)])
  have e2 : wq.cell? ⟨hb, j * 2, none⟩ = some (.int .u32 ai) := hH.cellv (by
    rw [Array.getElem?_setIfInBounds_ne (by omega), Array.getElem?_setIfInBounds_self_of_lt (by simp; omega)])
  have HW := hid hwq; clear hwq
  have GT := hid hT; have GH := hid hH; have GM := hid hM; have GMod := hid hMod
  clear hT hH hM hMod hsz hsz2
  have ht' : t < wq.heap.size := GT.out.lt
  have hh' : hb < wq.heap.size := GH.out.lt
  clear ht hh hm h0 h1 d0 d1 d2 d3 f0 f1 f2 f3 z1 z2
  go_wp2
  have hM0 : IMap wq.drew.drew mb .u32 D := GM.out.of_block rfl
  obtain ⟨v1, st1, o1, o2, hE1, hS1, hM1⟩ := hM0.put (P := Try.prog) (t := 56) rfl rfl (z := .int .i64 0) (fun _ => rfl) aj (.int .i64 i)
  obtain ⟨v2, st2, o3, o4, hE2, hS2, hM2⟩ := hM1.put (P := Try.prog) (t := 56) rfl rfl (z := .int .i64 0) (fun _ => rfl) ai (.int .i64 j)
  have HM0 := hid hM0; have HM1 := hid hM1; have HM2 := hid hM2
  clear hM0 hM1 hM2
  go_region
  go_end0
  have K : ∀ k, k ≠ mb → (setBlock (setBlock (setBlock (setBlock wq.drew.drew mb o1) mb o2) mb o3) mb o4).heap[k]? = wq.heap[k]? := fun k hk => by
    rw [heap_setBlock_ne _ hk, heap_setBlock_ne _ hk, heap_setBlock_ne _ hk, heap_setBlock_ne _ hk]; rfl
  exact ⟨rfl, GT.out.of_block (K _ htm), GH.out.of_block (K _ hhm), HM2.out, (((GMod.out.drew.drew.setBlock (fun _ => Or.inr rfl) _).setBlock (fun _ => Or.inr rfl) _).setBlock (fun _ => Or.inr rfl) _).setBlock (fun _ => Or.inr rfl) _⟩
end Go.Proofs.Ytfolgjgkeheaoaa
