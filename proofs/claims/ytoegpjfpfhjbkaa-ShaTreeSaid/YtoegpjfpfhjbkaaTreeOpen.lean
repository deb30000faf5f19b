/- ShaTree over hashes as they come in. -/
import Derived.Test.YtoegpjfpfhjbkaaTreeW
import Derived.Test.YtoegpjfpfhjbkaaSumOpen
namespace Go.Proofs.Ytoegpjfpfhjbkaa
open Go.ChangeShapes Go.WideShapes Go.ChangeAt Go.RowKit Go.Deep

theorem hashes_open {H : Type} {enc : TypeId × Value → H} {W : World} {base : Nat} {v : Value} {d : DataW H} {ps : List MemPlace} (hv : Value.okWide Try.prog W .any base 36 v) (h : DataW.Trod enc Try.prog W 0 (fun _ => true) true 36 v d ps) :
    ∃ p n cap X, v = .slice p n cap ∧ Lv W p n cap X := by
  obtain ⟨p0, len0, cap0, rfl⟩ := okWide_slice Try.underlying36 hv
  obtain ⟨fuel, hf⟩ := h
  rcases open_slice Try.underlying36 hf with ⟨h0, _⟩ | ⟨a, len, cap, m, n, D, Pl, hcs, hb, hl, hm, hmm, hx, hi⟩
  · simp [Value.cells] at h0
    obtain ⟨rfl, rfl, rfl⟩ := h0
    exact ⟨none, 0, 0, fun _ _ => 0, rfl, Nat.le_refl _, by simp, fun h => absurd h (by omega)⟩
  · simp [Value.cells] at hcs
    obtain ⟨rfl, rfl, rfl⟩ := hcs
    have hC : Try.prog.cellsOf 23 = 32 := by kernel_rfl
    have each : ∀ i, ∃ B : Nat → W8, i < len0 → ∀ j, j < 32 → W.cell? (a.add (i * 32 + j)) = some (.int .u8 (ub (B j))) := by
      intro i
      by_cases hil : i < len0
      · obtain ⟨cs', hc, ht⟩ := hi i (by simp at hmm; omega)
        obtain ⟨_, hcl, hat⟩ := World.cells?_some hc
        obtain ⟨_, B, hB⟩ := cells_bytes ht
        refine ⟨B, fun _ j hj => ?_⟩
        have h1 := hat j (by rw [hC]; exact hj)
        rw [hC, add_add] at h1
        rw [h1]; exact hB j hj
      · exact ⟨fun _ => 0, fun h => absurd h hil⟩
    refine ⟨_, len0, cap0, fun i => (each i).choose, rfl, hl, hm, fun h0 => ?_⟩
    obtain ⟨b, off, spot⟩ := a
    have c0 := (each 0).choose_spec h0 0 (by decide)
    have hspot : spot = none := by simpa [Addr.add] using World.cell?_spot c0
    subst hspot
    rw [add_plain] at c0
    refine ⟨b, off, rfl, lt_of_cell c0, fun i hi j hj => ?_⟩
    have := (each i).choose_spec hi j hj
    rwa [add_plain, show off + (i * 32 + j) = off + 32 * i + j by omega] at this
theorem shaTree_w {H : Type} {enc : TypeId × Value → H} {W : World} {base : Nat} {v : Value} {d : DataW H} {ps : List MemPlace} (hv : Value.okWide Try.prog W .any base 36 v) (h : DataW.Trod enc Try.prog W 0 (fun _ => true) true 36 v d ps) :
    Calls Try.prog 7 #[v] W fun e w' => e = .returned (.bool true) ∧ Below W.heap.size W w' := by
  obtain ⟨p, n, cap, X, rfl, h2⟩ := hashes_open hv h
  exact tree_walk h2
end Go.Proofs.Ytoegpjfpfhjbkaa
