/- Rows of byte strings as they come in. -/
import Derived.Test.YtkehejkjifgieaaShaAll
import Derived.Test.YtkehejkjifgieaaLaw
namespace Go.Proofs.Ytkehejkjifgieaa
open Go.ChangeShapes Go.WideShapes Go.ChangeAt Go.RowKit Go.Deep

theorem lt_of_cell {w : World} {b o : Nat} {v : Value} (h : w.cell? ⟨b, o, none⟩ = some v) : b < w.heap.size := by
  by_cases hlt : b < w.heap.size
  · exact hlt
  · unfold World.cell? at h
    simp [Array.getElem?_eq_none (Nat.le_of_not_lt hlt)] at h
/-- A slice of bytes, opened. -/
theorem bytes_open {H : Type} {enc : TypeId × Value → H} {W : World} {base fuel : Nat} {v : Value} {x : DataW H × List MemPlace} (h : DataW.trod enc Try.prog W base (fun _ => true) true fuel 29 [v] = some x) : ∃ xs, Bytes W v xs ∧ xs.length ≤ maxLen := by
  rcases open_ints Try.underlying29 Try.underlying5 (by kernel_rfl) h with ⟨h0, _⟩ | ⟨a, len, cap, zs, hcs, _, hl, hm, hz, _, hcell, hwf⟩
  · simp at h0; subst h0
    exact ⟨[], ⟨none, 0, rfl, fun h => by simp at h⟩, by simp⟩
  · simp at hcs; subst hcs
    have hz' : zs.length = cap := by simpa using hz
    have hxl : ((zs.take len).map (fun n => (BitVec.ofInt 8 n : W8))).length = len := by simp; omega
    refine ⟨(zs.take len).map (fun n => BitVec.ofInt 8 n), ⟨some a, cap, by rw [hxl], fun hp => ?_⟩, by rw [hxl]; omega⟩
    rw [hxl] at hp
    have c0 := hcell 0 (by omega)
    obtain ⟨b, off, spot⟩ := a
    have hspot : spot = none := by simpa [Addr.add] using World.cell?_spot c0
    subst hspot
    have cell : ∀ i, i < cap → W.cell? ⟨b, off + i, none⟩ = some (.int .u8 (zs.getD i 0)) := fun i hi => by
      have := hcell i (by omega)
      rwa [add_plain] at this
    refine ⟨b, off, rfl, lt_of_cell (cell 0 (by omega)), by rw [hxl]; exact hl, hm, fun i hi => ?_⟩
    rw [hxl] at hi
    rw [cell i (by omega)]
    have hmem : zs.getD i 0 ∈ zs := by
      rw [List.getD_eq_getElem?_getD, List.getElem?_eq_getElem (by omega)]; exact List.getElem_mem _
    have hw := hwf _ hmem
    have e : ((zs.take len).map (fun n => (BitVec.ofInt 8 n : W8))).getD i 0 = BitVec.ofInt 8 (zs.getD i 0) := by
      simp only [List.getD_eq_getElem?_getD, List.getElem?_map]
      rw [List.getElem?_take_of_lt hi, List.getElem?_eq_getElem (show i < zs.length by omega)]; rfl
    rw [e]
    generalize zs.getD i 0 = y at hw ⊢
    simp [Lit.wf, IntKind.min, IntKind.max, IntKind.signed, IntKind.bits] at hw
    unfold ub
    rw [BitVec.toNat_ofInt]
    congr 2
    have : (y % ((2 ^ 8 : Nat) : Int)) = y := by omega
    rw [this]; omega
set_option maxRecDepth 100000 in
theorem parts_open {H : Type} {enc : TypeId × Value → H} {W : World} {base : Nat} {v : Value} {d : DataW H} {ps : List MemPlace} (hv : Value.okWide Try.prog W .any base 22 v) (h : DataW.Trod enc Try.prog W 0 (fun _ => true) true 22 v d ps) :
    ∃ p n cap X, v = .slice p n cap ∧ n ≤ maxLen ∧ Parts W p n X := by
  obtain ⟨p0, len0, cap0, rfl⟩ := okWide_slice Try.underlying22 hv
  obtain ⟨fuel, hf⟩ := h
  rcases open_slice Try.underlying22 hf with ⟨h0, _⟩ | ⟨a, len, cap, m, n, D, Pl, hcs, hb, hl, hm, hmm, hx, hi⟩
  · simp [Value.cells] at h0
    obtain ⟨rfl, rfl, rfl⟩ := h0
    exact ⟨none, 0, 0, fun _ => [], rfl, Nat.zero_le _, fun i hi => absurd hi (by omega)⟩
  · simp [Value.cells] at hcs
    obtain ⟨rfl, rfl, rfl⟩ := hcs
    have hC : Try.prog.cellsOf 29 = 1 := by kernel_rfl
    have each : ∀ i, i < len0 → ∃ V xs, W.cell? (a.add i) = some V ∧ Bytes W V xs := by
      intro i hil
      obtain ⟨cs', hc, ht⟩ := hi i (by simp at hmm; omega)
      obtain ⟨_, hcl, hat⟩ := World.cells?_some hc
      rw [hC] at hcl
      obtain ⟨V, rfl⟩ : ∃ V, cs' = [V] := by
        match cs', hcl with
        | [V], _ => exact ⟨V, rfl⟩
      have h1 := hat 0 (by rw [hC]; omega)
      obtain ⟨xs, hxs, _⟩ := bytes_open ht
      refine ⟨V, xs, ?_, hxs⟩
      have h2 : W.cell? ((a.add (i * 1)).add 0) = some V := by rw [hC] at h1; exact h1
      rw [add_add, Nat.mul_one, Nat.add_zero] at h2
      exact h2
    by_cases h0 : len0 = 0
    · subst h0
      exact ⟨_, 0, _, fun _ => [], rfl, Nat.zero_le _, fun i hi => absurd hi (by omega)⟩
    · obtain ⟨V0, xs0, hc0, _⟩ := each 0 (by omega)
      obtain ⟨b, off, spot⟩ := a
      have hspot : spot = none := by simpa [Addr.add] using World.cell?_spot hc0
      subst hspot
      have each' : ∀ i, ∃ xs, i < len0 → ∃ V, W.cell? ⟨b, off + i, none⟩ = some V ∧ Bytes W V xs := by
        intro i
        by_cases hil : i < len0
        · obtain ⟨V, xs, h1, h2⟩ := each i hil
          exact ⟨xs, fun _ => ⟨V, by rw [← add_plain]; exact h1, h2⟩⟩
        · exact ⟨[], fun h => absurd h hil⟩
      refine ⟨_, len0, cap0, fun i => (each' i).choose, rfl, by omega, fun i hil => ?_⟩
      obtain ⟨V, h1, h2⟩ := (each' i).choose_spec hil
      refine ⟨b, off, V, rfl, lt_of_cell h1, h1, h2, fun hp k hk => ?_⟩
      obtain ⟨p, cap, rfl, hq⟩ := h2
      obtain ⟨b', o', rfl, hb', _⟩ := hq hp
      cases hk; exact hb'
end Go.Proofs.Ytkehejkjifgieaa
