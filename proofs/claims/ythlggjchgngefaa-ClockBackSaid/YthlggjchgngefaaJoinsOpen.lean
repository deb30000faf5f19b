/- ClockJoin over a date as it comes in. -/
import Derived.Test.YthlggjchgngefaaJoins
import Derived.Test.YthlggjchgngefaaLaw
namespace Go.Proofs.Ythlggjchgngefaa
open Go.ChangeShapes Go.WideShapes Go.ChangeAt Go.RowKit Go.Deep
/-- A struct of one-cell fields, opened: each field's value is known. -/
theorem agg_cells {H : Type} {enc : TypeId × Value → H} {P : Program} {w : World} {base : Nat} {t : TypeId} {fs : Array Field} {v : Value} {d : DataW H} {ps : List MemPlace} {b0 : Nat} {r : Reach} (hv : Value.okWide P w r b0 t v)
    (ht : P.underlying t = some (.struct fs)) (hone : oneCellFields P fs = true) (hC : P.cellsOf t = fs.size) (h : DataW.Trod enc P w base (fun _ => true) true t v d ps) :
    ∃ cs : Array Value, v = .agg cs ∧ cs.size = fs.size ∧ ∀ (j : Nat) (f : Field), fs[j]? = some f → ∃ (x : Value) (n : Nat) (y : DataW H × List MemPlace), cs[j]? = some x ∧ DataW.trod enc P w base (fun _ => true) true n f.type [x] = some y := by
  obtain ⟨cs, rfl, hsz⟩ := okWide_struct ht hv
  obtain ⟨fuel, hf⟩ := h
  obtain ⟨ys, n, _, _, _, hlen, hg⟩ := DataW.trod_struct ht hf
  refine ⟨cs, rfl, hsz.trans hC, fun j f hj => ?_⟩
  obtain ⟨ho, hk⟩ := hone_of hone j f hj
  have hjl : j < fs.size := (Array.getElem?_eq_some_iff.1 hj).1
  have hjc : j < cs.size := by rw [hsz, hC]; exact hjl
  have h1 := hg j f hj
  rw [ho, hk] at h1
  have hone1 : ((Value.agg cs).cells.toList.drop j).take 1 = [cs[j]] := by
    simp only [Value.cells]
    rw [List.drop_eq_getElem_cons (by simpa using hjc)]
    simp
  rw [hone1] at h1
  exact ⟨cs[j], n, _, Array.getElem?_eq_getElem hjc, h1.trans (List.getElem?_eq_getElem (by omega))⟩
theorem date_open {H : Type} {enc : TypeId × Value → H} {W : World} {base : Nat} {v : Value} {d : DataW H} {ps : List MemPlace} (hv : Value.okWide Try.prog W .any base 23 v) (h : DataW.Trod enc Try.prog W 0 (fun _ => true) true 23 v d ps) :
    ∃ y m d h mi s : Int, v = dv y m d h mi s := by
  obtain ⟨cs, rfl, hs, hf⟩ := agg_cells hv Try.underlying23 (by kernel_rfl) (by kernel_rfl) h
  obtain ⟨x0, n0, y0, e0, k0⟩ := hf 0 _ rfl
  obtain ⟨x1, n1, y1, e1, k1⟩ := hf 1 _ rfl
  obtain ⟨x2, n2, y2, e2, k2⟩ := hf 2 _ rfl
  obtain ⟨x3, n3, y3, e3, k3⟩ := hf 3 _ rfl
  obtain ⟨x4, n4, y4, e4, k4⟩ := hf 4 _ rfl
  obtain ⟨x5, n5, y5, e5, k5⟩ := hf 5 _ rfl
  obtain ⟨a0, rfl, _⟩ := int_cell Try.underlying3 k0
  obtain ⟨a1, rfl, _⟩ := int_cell Try.underlying3 k1
  obtain ⟨a2, rfl, _⟩ := int_cell Try.underlying3 k2
  obtain ⟨a3, rfl, _⟩ := int_cell Try.underlying3 k3
  obtain ⟨a4, rfl, _⟩ := int_cell Try.underlying3 k4
  obtain ⟨a5, rfl, _⟩ := int_cell Try.underlying3 k5
  refine ⟨a0, a1, a2, a3, a4, a5, ?_⟩
  unfold dv
  congr 1
  apply Array.ext_getElem?
  intro i
  have h6 : cs.size = 6 := hs
  by_cases hi : i < 6
  · rcases six hi with rfl | rfl | rfl | rfl | rfl | rfl
    · exact e0
    · exact e1
    · exact e2
    · exact e3
    · exact e4
    · exact e5
  · rw [Array.getElem?_eq_none (by omega), Array.getElem?_eq_none (by simp; omega)]
theorem clockJoin_w {H : Type} {enc : TypeId × Value → H} {W : World} {base : Nat} {v : Value} {d : DataW H} {ps : List MemPlace} (hv : Value.okWide Try.prog W .any base 23 v) (hd : DataW.Trod enc Try.prog W 0 (fun _ => true) true 23 v d ps) :
    Calls Try.prog 3 #[v] W fun e w' => e = .returned (.bool true) ∧ Below W.heap.size W w' := by
  obtain ⟨y, m, d, h, mi, s, rfl⟩ := date_open hv hd
  exact joins_walk W y m d h mi s
end Go.Proofs.Ythlggjchgngefaa
