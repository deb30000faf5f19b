/- SpaceLoad over bytes as they come in. -/
import Derived.Test.YtdmlldhlfofegaaDoorLoads
import Derived.Test.YtdmlldhlfofegaaDoorLaw
namespace Go.Proofs.YtdmlldhlfofegaaDoor
open Go.ChangeShapes Go.WideShapes Go.ChangeAt Go.RowKit Go.Deep

theorem lt_of_cell {w : World} {b o : Nat} {v : Value} (h : w.cell? ⟨b, o, none⟩ = some v) : b < w.heap.size := by
  by_cases hlt : b < w.heap.size
  · exact hlt
  · unfold World.cell? at h
    simp [Array.getElem?_eq_none (Nat.le_of_not_lt hlt)] at h
/-- A slice of bytes, opened. -/
theorem bytes_open {H : Type} {enc : TypeId × Value → H} {W : World} {base fuel : Nat} {v : Value} {x : DataW H × List MemPlace} (h : DataW.trod enc Tryd.prog W base (fun _ => true) true fuel 44 [v] = some x) : ∃ p len cap B, v = .slice p len cap ∧ Bin W p len cap B ∧ len ≤ maxLen := by
  rcases open_ints Tryd.underlying44 Tryd.underlying5 (by kernel_rfl) h with ⟨h0, _⟩ | ⟨a, len, cap, zs, hcs, _, hl, hm, hz, _, hcell, hwf⟩
  · simp at h0; subst h0
    exact ⟨none, 0, 0, fun _ => 0, rfl, fun h => by omega, by simp⟩
  · simp at hcs; subst hcs
    have hz' : zs.length = cap := by simpa using hz
    refine ⟨some a, len, cap, fun i => BitVec.ofInt 8 (zs.getD i 0), rfl, fun hp => ?_, by omega⟩
    have c0 := hcell 0 (by omega)
    obtain ⟨b, off, spot⟩ := a
    have hspot : spot = none := by simpa [Addr.add] using World.cell?_spot c0
    subst hspot
    have cell : ∀ i, i < cap → W.cell? ⟨b, off + i, none⟩ = some (.int .u8 (zs.getD i 0)) := fun i hi => by
      have := hcell i (by omega)
      rwa [add_plain] at this
    refine ⟨b, off, rfl, lt_of_cell (cell 0 (by omega)), hl, hm, fun i hi => ?_⟩
    rw [cell i (by omega)]
    have hmem : zs.getD i 0 ∈ zs := by
      rw [List.getD_eq_getElem?_getD, List.getElem?_eq_getElem (by omega)]; exact List.getElem_mem _
    have hw := hwf _ hmem
    dsimp only
    generalize zs.getD i 0 = y at hw ⊢
    simp [Lit.wf, IntKind.min, IntKind.max, IntKind.signed, IntKind.bits] at hw
    unfold ub
    rw [BitVec.toNat_ofInt]
    congr 2
    have : (y % ((2 ^ 8 : Nat) : Int)) = y := by omega
    rw [this]; omega
theorem spaceLoad_w {H : Type} {enc : TypeId × Value → H} {W : World} (T : Tab W) {base : Nat} {v : Value} {d : DataW H} {ps : List MemPlace} (hv : Value.okWide Tryd.prog W .any base 44 v) (h : DataW.Trod enc Tryd.prog W 0 (fun _ => true) true 44 v d ps) (a1 : Int) (_ : (Lit.int .i64 a1).wf = true) :
    Calls Tryd.prog 6 #[v, .int .i64 a1] W fun e w' => e = .returned (.bool true) ∧ Below W.heap.size W w' := by
  obtain ⟨p0, len0, cap0, rfl⟩ := okWide_slice Tryd.underlying44 hv
  obtain ⟨fuel, hf⟩ := h
  obtain ⟨p, len, cap, B, e, hb, hl⟩ := bytes_open (v := .slice p0 len0 cap0) hf
  cases e
  exact load_law T p0 len0 cap0 B a1 hl hb
end Go.Proofs.YtdmlldhlfofegaaDoor
