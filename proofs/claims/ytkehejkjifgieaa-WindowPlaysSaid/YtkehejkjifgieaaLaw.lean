/- A law that returns true and touches none of the old memory: its row, from its walk. Conditions: each parameter's type is readable; the law reads no package variable. -/
import Derived.Test.YtkehejkjifgieaaRows
import Derived.Test.YtkehejkjifgieaaBase
import Derived.ProofKit
import Derived.OpenShut
import Derived.Deep.Slices
import Derived.Deep.Fields
namespace Go.Proofs.Ytkehejkjifgieaa
open Go.ChangeShapes Go.WideShapes Go.ChangeAt Go.RowKit Go.Deep

theorem law_own : ownKnob Try.prog.godebug = none := by kernel_rfl
theorem law_laid : laidOutB Try.prog = true := by kernel_rfl

section
variable {H : Type} {enc : TypeId × Value → H} {P : Program}
theorem trodAll_stays (hl : laidOutB P = true) {W W' : World} (hb : Below W.heap.size W W') : ∀ (ts : List TypeId), (∀ t ∈ ts, P.readableRec t = true ∧ t < P.types.size) → ∀ (vs : List Value) (ds : List (DataW H)) (ps : List MemPlace),
    DataW.TrodAll enc P W 0 (fun _ => true) true ts vs ds ps → (∀ x ∈ ps, x.block < W.heap.size) → DataW.TrodAll enc P W' 0 (fun b => decide (b < W.heap.size)) true ts vs ds ps := by
  intro ts
  induction ts with
  | nil => intro _ vs ds ps h _; cases vs <;> cases ds <;> first | exact h | exact h.elim
  | cons t ts ih =>
    intro hr vs ds ps h hlt
    cases vs with
    | nil => cases ds <;> exact h.elim
    | cons v vs =>
      cases ds with
      | nil => exact h.elim
      | cons d ds =>
        obtain ⟨p, q, h1, h2, rfl⟩ := h
        have ht := hr t List.mem_cons_self
        exact ⟨p, q, Below.trod hl ht.1 ht.2 h1 hb (fun x hx => hlt x (List.mem_append_left _ hx)),
          ih (fun t' ht' => hr t' (List.mem_cons_of_mem _ ht')) vs ds q h2 (fun x hx => hlt x (List.mem_append_right _ hx)), rfl⟩

/-- What the row asks behind the call. -/
theorem post_true {f : Func} {s : ChangeSpec} {W W' : World} {args : Array Value} {ds : List (DataW H)} {before : List MemPlace} {b : Nat} (hl : laidOutB P = true)
    (hW : DataW.Whole enc P f.params.toList s.vars false W args.toList ds [] before) (hv : s.vars = []) (hr : (f.params.toList.all fun t => P.readableRec t && decide (t < P.types.size)) = true)
    (hrt : f.resultTypes = #[b]) (hbt : P.underlying b = some .bool) (h1 : (s.fn H (ds ++ [])).results = [.lit (.bool true)]) (h2 : (s.fn H (ds ++ [])).args = ds) (h3 : (s.fn H (ds ++ [])).vars = [])
    (hb : Below W.heap.size W W') : s.post enc P f false true false false W args (.bool true) W' := by
  have hlt := hW.lt
  have hW' := hW
  obtain ⟨p, q, hA, hV, rfl, hfz, hnd⟩ := hW
  refine ⟨ds, [], _, [], p, [], hW', ?_, ?_, ?_, hb.frame _, fun h => by cases h⟩
  · rw [h1, hrt]
    exact trodAll_cons_mk (shut_bool hbt _) trodAll_mk0
  · rw [h2]
    refine trodAll_stays hl hb _ (fun t ht => ?_) _ _ _ hA (fun x hx => hlt x (List.mem_append_left _ hx))
    have := List.all_eq_true.1 hr t ht
    simpa using this
  · rw [h3, hv]; rfl
end

/-- A slice whose elements are structs of one-cell fields, opened: it is empty, or each field's cell is known. -/
theorem slice_cells {H : Type} {enc : TypeId × Value → H} {P : Program} {w : World} {base : Nat} {t e : TypeId} {fs : Array Field} {v : Value} {d : DataW H} {ps : List MemPlace} {b0 : Nat} {r : Reach} (hv : Value.okWide P w r b0 t v)
    (ht : P.underlying t = some (.slice e)) (he : P.underlying e = some (.struct fs)) (hone : oneCellFields P fs = true) (hC : P.cellsOf e = fs.size) (hpos : 0 < fs.size)
    (h : DataW.Trod enc P w base (fun _ => true) true t v d ps) :
    (∃ p cap, v = .slice p 0 cap) ∨ ∃ (b off len cap : Nat), 0 < len ∧ v = .slice (some ⟨b, off, none⟩) len cap ∧ len ≤ cap ∧ cap ≤ maxLen ∧ b < w.heap.size ∧
      ∀ i, i < len → ∀ (j : Nat) (f : Field), fs[j]? = some f → ∃ (x : Value) (n : Nat) (y : DataW H × List MemPlace), w.cell? ⟨b, off + (i * fs.size + j), none⟩ = some x ∧ DataW.trod enc P w base (fun _ => true) true n f.type [x] = some y := by
  obtain ⟨p0, len0, cap0, rfl⟩ := okWide_slice ht hv
  obtain ⟨fuel, hf⟩ := h
  rcases open_slice ht hf with ⟨h0, _⟩ | ⟨a, len, cap, m, n, D, Pl, hcs, hb, hl, hm, hmm, hx, hi⟩
  · simp [Value.cells] at h0
    obtain ⟨rfl, rfl, rfl⟩ := h0
    exact Or.inl ⟨_, _, rfl⟩
  · simp [Value.cells] at hcs
    obtain ⟨rfl, rfl, rfl⟩ := hcs
    by_cases hl0 : len0 = 0
    · subst hl0; exact Or.inl ⟨_, _, rfl⟩
    · have cell : ∀ i, i < len0 → ∀ (j : Nat) (f : Field), fs[j]? = some f → ∃ (x : Value) (n : Nat) (y : DataW H × List MemPlace), w.cell? (a.add (i * fs.size + j)) = some x ∧ DataW.trod enc P w base (fun _ => true) true n f.type [x] = some y := by
        intro i him j f hj
        obtain ⟨cs', hc, ht'⟩ := hi i (by simp at hmm; omega)
        obtain ⟨ys, n', hn', hy, hlen, hyl, hfy⟩ := DataW.trod_struct he ht'
        obtain ⟨_, hcl, hat⟩ := World.cells?_some hc
        obtain ⟨ho, hk⟩ := hone_of hone j f hj
        have hjl : j < fs.size := (Array.getElem?_eq_some_iff.1 hj).1
        have hcell := hat j (by omega)
        have h1 := hfy j f hj
        rw [ho, hk] at h1
        have hjc : j < cs'.length := by omega
        have hone1 : (cs'.drop j).take 1 = [cs'[j]] := by rw [List.drop_eq_getElem_cons hjc]; rfl
        rw [hone1, List.getElem?_eq_getElem (by omega)] at h1
        refine ⟨_, n', _, ?_, h1⟩
        rw [← hC, ← Go.Deep.add_add, hcell, List.getElem?_eq_getElem hjc]
      obtain ⟨b, off, spot⟩ := a
      obtain ⟨f0, hf0⟩ : ∃ f0, fs[0]? = some f0 := ⟨_, Array.getElem?_eq_getElem hpos⟩
      obtain ⟨x, _, _, hx0, _⟩ := cell 0 (by omega) 0 f0 hf0
      have hspot : spot = none := by simpa [Addr.add] using World.cell?_spot hx0
      subst hspot
      refine Or.inr ⟨b, off, len0, cap0, by omega, rfl, hl, hm, ?_, fun i him j f hj => ?_⟩
      · have := hx0
        unfold World.cell? at this
        by_cases hlt : b < w.heap.size
        · exact hlt
        · simp [Addr.add, Array.getElem?_eq_none (Nat.le_of_not_lt hlt)] at this
      · obtain ⟨x, n, y, h1, h2⟩ := cell i him j f hj
        exact ⟨x, n, y, by rw [← add_plain]; exact h1, h2⟩
theorem int_cell {H : Type} {enc : TypeId × Value → H} {P : Program} {w : World} {base : Nat} {sp : Nat → Bool} {hd : Bool} {n : Nat} {t : TypeId} {k : IntKind} {x : Value} {y : DataW H × List MemPlace} (ht : P.underlying t = some (.int k))
    (h : DataW.trod enc P w base sp hd n t [x] = some y) : ∃ z, x = .int k z ∧ (Lit.int k z).wf = true := by
  obtain ⟨z, h1, _, h2⟩ := DataW.trod_int ht h
  exact ⟨z, by simpa using h1, h2⟩
end Go.Proofs.Ytkehejkjifgieaa
