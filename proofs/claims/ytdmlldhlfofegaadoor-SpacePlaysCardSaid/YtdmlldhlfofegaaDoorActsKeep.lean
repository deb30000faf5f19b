/- Acts with what they keep, in memory and as they come in. -/
import Derived.Test.YtdmlldhlfofegaaDoorLoadsOpen
import Derived.Test.YtdmlldhlfofegaaDoorActsOpen
import Derived.Test.YtdmlldhlfofegaaDoorRefKeep
namespace Go.Proofs.YtdmlldhlfofegaaDoor
open Go.ChangeShapes Go.WideShapes Go.ChangeAt Go.RowKit Go.Deep

def Acts6 (w : World) (p : Option Addr) (len : Nat) : Prop :=
  ∀ i, i < len → ∃ b off K N A q kl kc, ∃ l : Nat → Nat, p = some ⟨b, off, none⟩ ∧ b < w.heap.size ∧ w.cell? ⟨b, off + i * 4, none⟩ = some (.int .i64 K) ∧ w.cell? ⟨b, off + i * 4 + 1, none⟩ = some (.int .i64 N) ∧ w.cell? ⟨b, off + i * 4 + 2, none⟩ = some (.int .u32 ((A : Nat) : Int)) ∧ A < 4294967296 ∧ w.cell? ⟨b, off + i * 4 + 3, none⟩ = some (.slice q kl kc) ∧ kl ≤ maxLen ∧ U32s w q kl l
theorem u32s_open {H : Type} {enc : TypeId × Value → H} {W : World} {base fuel : Nat} {v : Value} {x : DataW H × List MemPlace} (h : DataW.trod enc Tryd.prog W base (fun _ => true) true fuel 30 [v] = some x) : ∃ p len cap, ∃ l : Nat → Nat, v = .slice p len cap ∧ U32s W p len l ∧ len ≤ maxLen := by
  rcases open_ints Tryd.underlying30 Tryd.underlying33 (by kernel_rfl) h with ⟨h0, _⟩ | ⟨a, len, cap, zs, hcs, _, hl, hm, hz, _, hcell, hwf⟩
  · simp at h0; subst h0
    exact ⟨none, 0, 0, fun _ => 0, rfl, fun i h => by omega, by simp⟩
  · simp at hcs; subst hcs
    have hz' : zs.length = cap := by simpa using hz
    refine ⟨some a, len, cap, fun i => (zs.getD i 0).toNat, rfl, fun i hi => ?_, by omega⟩
    have c0 := hcell i (by omega)
    have hmem : zs.getD i 0 ∈ zs := by
      rw [List.getD_eq_getElem?_getD, List.getElem?_eq_getElem (by omega)]; exact List.getElem_mem _
    have hw := hwf _ hmem
    dsimp only
    generalize zs.getD i 0 = y at hw c0 ⊢
    simp [Lit.wf, IntKind.min, IntKind.max, IntKind.signed, IntKind.bits] at hw
    have c00 := hcell 0 (by omega)
    obtain ⟨b, off, spot⟩ := a
    have hspot : spot = none := by simpa [Addr.add] using World.cell?_spot c00
    subst hspot
    rw [add_plain] at c0
    refine ⟨by omega, b, off, rfl, lt_of_cell c0, ?_⟩
    rw [c0, show ((y.toNat : Nat) : Int) = y by omega]
theorem acts6_open {H : Type} {enc : TypeId × Value → H} {W : World} {base : Nat} {v : Value} {d : DataW H} {ps : List MemPlace} (hv : Value.okWide Tryd.prog W .any base 22 v) (h : DataW.Trod enc Tryd.prog W 0 (fun _ => true) true 22 v d ps) :
    ∃ p len cap, v = .slice p len cap ∧ len ≤ maxLen ∧ Acts6 W p len := by
  rcases slice_cells hv Tryd.underlying22 Tryd.underlying35 (by kernel_rfl) (by kernel_rfl) (by decide) h with ⟨p, cap, rfl⟩ | ⟨b, off, len, cap, h0, rfl, h1, h2, h3, h4⟩
  · exact ⟨p, 0, cap, rfl, Nat.zero_le _, fun i hi => absurd hi (by omega)⟩
  · refine ⟨_, len, cap, rfl, by omega, fun i hi => ?_⟩
    obtain ⟨x0, n0, y0, k0, l0⟩ := h4 i hi 0 _ rfl
    obtain ⟨x1, n1, y1, k1, l1⟩ := h4 i hi 1 _ rfl
    obtain ⟨x2, n2, y2, k2, l2⟩ := h4 i hi 2 _ rfl
    obtain ⟨x3, n3, y3, k3, l3⟩ := h4 i hi 3 _ rfl
    obtain ⟨z0, rfl, _⟩ := int_cell Tryd.underlying3 l0
    obtain ⟨z1, rfl, _⟩ := int_cell Tryd.underlying3 l1
    obtain ⟨z2, rfl, w2⟩ := int_cell Tryd.underlying33 l2
    obtain ⟨q, kl, kc, l, rfl, hu, hk⟩ := u32s_open (show DataW.trod enc Tryd.prog W 0 (fun _ => true) true n3 30 [x3] = some y3 from l3)
    simp [Lit.wf, IntKind.min, IntKind.max, IntKind.signed, IntKind.bits] at w2
    obtain ⟨a, rfl⟩ : ∃ a : Nat, z2 = a := ⟨z2.toNat, by omega⟩
    exact ⟨b, off, z0, z1, a, q, kl, kc, l, rfl, h3, by simpa [Nat.add_assoc] using k0, by simpa [Nat.add_assoc] using k1, by simpa [Nat.add_assoc] using k2, by omega, by simpa [Nat.add_assoc] using k3, hk, hu⟩
/-- Whether a sector is used, both say alike. -/
theorem used_both {b m : Nat} {X : Nat → W64} {U : Nat → Bool} (hm2 : m ≤ 512) (h : ∀ i, i < m → U i = used X i) (N : Int) : ∃ u, (∀ W, MapAt W b m X → Calls Tryd.prog 13 #[.pointer (some ⟨b, 0, none⟩), .int .i64 N] W fun e w' => e = .returned (.bool u) ∧ W = w') ∧
    ∀ W v, RM W v m U → Calls Tryd.prog 22 #[v, .int .i64 N] W fun e w' => e = .returned (.bool u) ∧ Below W.heap.size W w' := by
  by_cases hN : N < 0 ∨ (m : Int) ≤ N
  · exact ⟨true, fun W M => used_yes M N hN, fun W v R => rused_yes R N hN⟩
  · obtain ⟨i, rfl⟩ : ∃ i : Nat, N = i := ⟨N.toNat, by omega⟩
    exact ⟨used X i, fun W M => used_in M i (by omega) hm2, fun W v R => by rw [← h i (by omega)]; exact rused_in R i (by omega)⟩
theorem same_n {w : World} {p q : Option Addr} {l : List Nat} {n : Nat} (hn : l.length = n) (c c' : Nat) (hl : n ≤ 8) (hp : Row32 w p l) (hq : Row32 w q l) : Calls Tryd.prog 21 #[.slice p n c, .slice q n c'] w fun e w' => e = .returned (.bool true) ∧ Below w.heap.size w w' := by
  subst hn; exact same_c c c' hl hp hq
theorem row_of_own {w : World} {base n c : Nat} {p : Option Addr} {l : List Nat} (h : w.ownsRow base 33 1 (.slice p n c) n (u32v l)) : Row32 w p l := fun i x hx => by
  obtain ⟨p', c', e, hr⟩ := own_row h
  cases e
  obtain ⟨g, h1, h2, h3, h4, h5⟩ := hr i _ (u32v_get hx)
  have hl : l.length = n := by have := h.1; simpa [u32v] using this
  rcases h.2 with ⟨k1, k2⟩ | ⟨g', cap, cur, k1, k2, k3, k4, k5, k6⟩
  · exact ⟨g, h1, by have := (List.getElem?_eq_some_iff.1 hx).1; omega, h4, h5⟩
  · simp only [maxLen] at k5
    exact ⟨g, h1, by omega, h4, h5⟩
theorem frees_same {U U' : Nat → Bool} {p : Nat} (h : ∀ i, i < p → U i = U' i) : frees U p = frees U' p := by
  unfold frees
  apply List.filter_congr
  intro x hx
  rw [h x (List.mem_range.1 hx)]
theorem ends_same {U U' : Nat → Bool} {k p : Nat} (h : ∀ i, i < p → U i = U' i) (e : Ends U k p) : Ends U' k p := by
  obtain ⟨e1, e2, e3⟩ := e
  refine ⟨by rw [← frees_same h]; exact e1, e2, fun hk => ?_⟩
  obtain ⟨q1, q2⟩ := e3 hk
  exact ⟨q1, by rw [← h _ (by omega)]; exact q2⟩
theorem rm_other {w : World} {rb rc m x : Nat} {U : Nat → Bool} {y : Value} (h : RM w (.agg #[.slice (some ⟨rb, 0, none⟩) m rc]) m U) (hm : 0 < m) (hx : w.cell? ⟨x, 0, none⟩ = some y) (hy : ∀ q, y ≠ .bool q) : rb ≠ x := by
  obtain ⟨b, c, e, _, _, _, h5⟩ := h
  cases e
  rintro rfl
  have := h5 0 hm
  rw [hx] at this
  exact hy _ (Option.some.inj this)
theorem rm_block {w w' : World} {rb rc m : Nat} {U : Nat → Bool} (h : RM w (.agg #[.slice (some ⟨rb, 0, none⟩) m rc]) m U) (hs : w.heap.size ≤ w'.heap.size) (hb : w'.heap[rb]? = w.heap[rb]?) : RM w' (.agg #[.slice (some ⟨rb, 0, none⟩) m rc]) m U := by
  obtain ⟨b, c, e, h1, h2, h3, h5⟩ := h
  cases e
  exact ⟨_, _, rfl, h1, h2, Nat.lt_of_lt_of_le h3 hs, fun i hi => (World.cell?_of_block (w := w) hb).trans (h5 i hi)⟩
theorem rm_form {w : World} {v : Value} {m : Nat} {U : Nat → Bool} (h : RM w v m U) : ∃ rb rc, v = .agg #[.slice (some ⟨rb, 0, none⟩) m rc] := by
  obtain ⟨b, c, e, _⟩ := h
  exact ⟨b, c, e⟩
end Go.Proofs.YtdmlldhlfofegaaDoor
