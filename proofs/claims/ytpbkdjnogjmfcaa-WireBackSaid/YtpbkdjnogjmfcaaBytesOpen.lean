/- Bytes as they come in. -/
import Derived.Test.YtpbkdjnogjmfcaaShaAll
import Derived.Test.YtpbkdjnogjmfcaaLaw
namespace Go.Proofs.Ytpbkdjnogjmfcaa
open Go.ChangeShapes Go.WideShapes Go.ChangeAt Go.RowKit Go.Deep

theorem lt_of_cell {w : World} {b o : Nat} {v : Value} (h : w.cell? ⟨b, o, none⟩ = some v) : b < w.heap.size := by
  by_cases hlt : b < w.heap.size
  · exact hlt
  · unfold World.cell? at h
    simp [Array.getElem?_eq_none (Nat.le_of_not_lt hlt)] at h
/-- A slice of bytes, opened. -/
theorem bytes_open {H : Type} {enc : TypeId × Value → H} {W : World} {base fuel : Nat} {v : Value} {x : DataW H × List MemPlace} (h : DataW.trod enc Try.prog W base (fun _ => true) true fuel 28 [v] = some x) : ∃ xs, Bytes W v xs ∧ xs.length ≤ maxLen := by
  rcases open_ints Try.underlying28 Try.underlying5 (by kernel_rfl) h with ⟨h0, _⟩ | ⟨a, len, cap, zs, hcs, _, hl, hm, hz, _, hcell, hwf⟩
  · simp at h0; subst h0
    exact ⟨[], ⟨none, 0, rfl, fun h => by simp at h⟩, by simp⟩
  · simp at hcs; subst hcs
    have hz' : zs.length = cap := by simpa using hz
    have hxl : ((zs.take len).map (fun n => (BitVec.ofInt 8 n : W8))).length = len := by simp; omega
    refine ⟨(zs.take len).map (fun n => BitVec.ofInt 8 n), ⟨some a, cap, by rw [hxl], fun hp => ?_⟩, by rw [hxl]; omega⟩
    rw [hxl] at hp
    have c0 := hcell 0 (by omega)
    obtain ⟨b, off, spot⟩ := a
    have hspot : spot = none := by simpa [Addr.add] using World.cell?_spot c0
    subst hspot
    have cell : ∀ i, i < cap → W.cell? ⟨b, off + i, none⟩ = some (.int .u8 (zs.getD i 0)) := fun i hi => by
      have := hcell i (by omega)
      rwa [add_plain] at this
    refine ⟨b, off, rfl, lt_of_cell (cell 0 (by omega)), by rw [hxl]; exact hl, hm, fun i hi => ?_⟩
    rw [hxl] at hi
    rw [cell i (by omega)]
    have hmem : zs.getD i 0 ∈ zs := by
      rw [List.getD_eq_getElem?_getD, List.getElem?_eq_getElem (by omega)]; exact List.getElem_mem _
    have hw := hwf _ hmem
    have e : ((zs.take len).map (fun n => (BitVec.ofInt 8 n : W8))).getD i 0 = BitVec.ofInt 8 (zs.getD i 0) := by
      simp only [List.getD_eq_getElem?_getD, List.getElem?_map]
      rw [List.getElem?_take_of_lt hi, List.getElem?_eq_getElem (show i < zs.length by omega)]; rfl
    rw [e]
    generalize zs.getD i 0 = y at hw ⊢
    simp [Lit.wf, IntKind.min, IntKind.max, IntKind.signed, IntKind.bits] at hw
    unfold ub
    rw [BitVec.toNat_ofInt]
    congr 2
    have : (y % ((2 ^ 8 : Nat) : Int)) = y := by omega
    rw [this]; omega
end Go.Proofs.Ytpbkdjnogjmfcaa
