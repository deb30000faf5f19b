/- A stream as it comes in. -/
import Derived.Test.YtpbkdjnogjmfcaaBytesOpen
import Derived.Test.YtpbkdjnogjmfcaaEnc
import Derived.Deep.SlicePairs
namespace Go.Proofs.Ytpbkdjnogjmfcaa
open Go.ChangeShapes Go.WideShapes Go.ChangeAt Go.RowKit Go.Deep

/-- Cells that read as bytes. -/
theorem cells_bytes {H : Type} {enc : TypeId × Value → H} {W : World} {base : Nat} {sp : Nat → Bool} {hd : Bool} {m : Nat} {cs : List Value} {x : DataW H × List MemPlace} (h : DataW.trod enc Try.prog W base sp hd m 22 cs = some x) :
    cs.length = 32 ∧ ∃ B : Nat → W8, ∀ i, i < 32 → cs[i]? = some (.int .u8 (ub (B i))) := by
  obtain ⟨xs, m1, rfl, hx1, hlen, hn3, hel⟩ := DataW.trod_array Try.underlying22 h
  have c5 : Try.prog.cellsOf 5 = 1 := by kernel_rfl
  have c23 : Try.prog.cellsOf 22 = 32 := by kernel_rfl
  rw [c23] at hlen
  refine ⟨hlen, fun i => match cs[i]? with | some (.int _ z) => BitVec.ofInt 8 z | _ => 0, fun i hi => ?_⟩
  have h0 := hel i hi
  rw [c5, Nat.mul_one, List.getElem?_eq_getElem (show i < xs.length by omega)] at h0
  obtain ⟨k, e1, _, hw⟩ := DataW.trod_int Try.underlying5 h0
  have hci : cs[i]? = some (.int .u8 k) := by
    have := congrArg (fun l => l[0]?) e1
    simpa using this
  rw [hci]
  simp [Lit.wf, IntKind.min, IntKind.max, IntKind.signed, IntKind.bits] at hw
  congr 2
  show k = ub (match cs[i]? with | some (.int _ z) => BitVec.ofInt 8 z | _ => 0)
  rw [hci]
  unfold ub
  rw [BitVec.toNat_ofInt]
  have : (k % ((2 ^ 8 : Nat) : Int)) = k := by omega
  rw [this]; omega
theorem take_one {α : Type} {l : List α} {o : Nat} {x : α} (h : (l.drop o).take 1 = [x]) : l[o]? = some x := by
  have := congrArg (fun m => m[0]?) h
  simpa [List.getElem?_take, List.getElem?_drop] using this
theorem drop_get {α : Type} {l : List α} {o k j : Nat} {x : α} (h : ((l.drop o).take k)[j]? = some x) : l[o + j]? = some x := by
  rw [List.getElem?_take] at h
  split at h
  · rwa [List.getElem?_drop] at h
  · cases h
theorem range_getD (B : Nat → W8) {n j : Nat} (h : j < n) : ((List.range n).map B).getD j 0 = B j := by
  rw [List.getD_eq_getElem?_getD, List.getElem?_map, List.getElem?_range h]; rfl
set_option maxRecDepth 10000 in
/-- A slice of cells as it comes in. -/
theorem cells_open {H : Type} {enc : TypeId × Value → H} {W : World} {base fuel : Nat} {v : Value} {x : DataW H × List MemPlace} (h : DataW.trod enc Try.prog W base (fun _ => true) true fuel 23 [v] = some x) : ∃ cs, CellsAt W v cs := by
  rcases open_slice_pairs Try.underlying23 Try.underlying44 (by kernel_rfl) rfl rfl (by kernel_rfl) (by kernel_rfl) h with ⟨h0, _⟩ | ⟨a, len, cap, m, n, V0, V1, D0, D1, P0, P1, hcs, hb, hl, hm, hmm, hx, hi⟩
  · simp at h0; subst h0
    exact ⟨[], none, 0, rfl, Nat.zero_le _, fun h => absurd h (Nat.lt_irrefl 0)⟩
  · simp at hcs; subst hcs
    have each : ∀ i, ∃ c : Int × List W8, i < len → W.cell? (a.add (i * 2)) = some (.int .i64 c.1) ∧ ∃ vb, W.cell? (a.add (i * 2 + 1)) = some vb ∧ Bytes W vb c.2 := by
      intro i
      by_cases hil : i < len
      · obtain ⟨k0, k1, t0, t1⟩ := hi i (by simp at hmm; omega)
        obtain ⟨z, e0, _, _⟩ := DataW.trod_int Try.underlying3 t0
        obtain ⟨bs, e1, _⟩ := bytes_open t1
        refine ⟨(z, bs), fun _ => ⟨?_, V1 i, k1, e1⟩⟩
        rw [k0]
        have : V0 i = .int .i64 z := by simpa using e0
        rw [this]
      · exact ⟨(0, []), fun h => absurd h hil⟩
    obtain ⟨F, hF⟩ : ∃ F : Nat → Int × List W8, ∀ i, i < len → W.cell? (a.add (i * 2)) = some (.int .i64 (F i).1) ∧ ∃ vb, W.cell? (a.add (i * 2 + 1)) = some vb ∧ Bytes W vb (F i).2 := ⟨fun i => (each i).choose, fun i hi => (each i).choose_spec hi⟩
    clear each
    have hlen : ((List.range len).map F).length = len := by simp
    refine ⟨(List.range len).map F, some a, cap, by rw [hlen], by rw [hlen]; omega, fun h0 => ?_⟩
    rw [hlen] at h0 ⊢
    obtain ⟨b, off, spot⟩ := a
    have c0 := (hF 0 h0).1
    have hspot : spot = none := by simpa [Addr.add] using World.cell?_spot c0
    subst hspot
    rw [add_plain] at c0
    refine ⟨b, off, rfl, lt_of_cell c0, hl, fun i hi => ?_⟩
    obtain ⟨d0, vb, d1, d2⟩ := hF i hi
    rw [add_plain] at d0 d1
    have hc : cellAt ((List.range len).map F) i = F i := by
      unfold cellAt
      rw [List.getD_eq_getElem?_getD, List.getElem?_map, List.getElem?_range hi]; rfl
    rw [hc]
    exact ⟨vb, d0, d1, d2⟩
set_option maxRecDepth 10000 in
theorem strm_open {H : Type} {enc : TypeId × Value → H} {W : World} {base : Nat} {v : Value} {d : DataW H} {ps : List MemPlace} (hv : Value.okWide Try.prog W .any base 25 v) (h : DataW.Trod enc Try.prog W 0 (fun _ => true) true 25 v d ps) :
    ∃ (s : Strm) (cv : Value), v = .agg (strmV s cv) ∧ CellsAt W cv s.cells ∧ s.base.length = 32 ∧ s.goal.length = 32 ∧ s.set.length ≤ maxLen ∧ s.frm.length ≤ maxLen ∧ s.til.length ≤ maxLen := by
  obtain ⟨cs, rfl, hcz⟩ := okWide_struct Try.underlying25 hv
  have c69 : Try.prog.cellsOf 25 = 69 := by kernel_rfl
  rw [c69] at hcz
  obtain ⟨fuel, hf⟩ := h
  obtain ⟨xs, n, _, _, _, hxl, hfy⟩ := DataW.trod_struct Try.underlying25 hf
  obtain ⟨l, hl'⟩ : ∃ l, l = cs.toList := ⟨_, rfl⟩
  have one4 : Try.prog.cellsOf 4 = 1 := by kernel_rfl
  have one9 : Try.prog.cellsOf 9 = 1 := by kernel_rfl
  have one22 : Try.prog.cellsOf 22 = 32 := by kernel_rfl
  have one23 : Try.prog.cellsOf 23 = 1 := by kernel_rfl
  have hx7 : xs.length = 7 := hxl
  have gx : ∀ i (hi : i < 7), xs[i]? = some (xs[i]'(by omega)) := fun i hi => List.getElem?_eq_getElem (by omega)
  have f0 : DataW.trod enc Try.prog W 0 (fun _ => true) true n 4 ((l.drop 0).take (Try.prog.cellsOf 4)) = some (xs[0]'(by omega)) := by rw [hl']; exact (hfy 0 _ rfl).trans (gx 0 (by decide))
  rw [one4] at f0
  have f1 : DataW.trod enc Try.prog W 0 (fun _ => true) true n 9 ((l.drop 1).take (Try.prog.cellsOf 9)) = some (xs[1]'(by omega)) := by rw [hl']; exact (hfy 1 _ rfl).trans (gx 1 (by decide))
  rw [one9] at f1
  have f2 : DataW.trod enc Try.prog W 0 (fun _ => true) true n 9 ((l.drop 2).take (Try.prog.cellsOf 9)) = some (xs[2]'(by omega)) := by rw [hl']; exact (hfy 2 _ rfl).trans (gx 2 (by decide))
  rw [one9] at f2
  have f3 : DataW.trod enc Try.prog W 0 (fun _ => true) true n 9 ((l.drop 3).take (Try.prog.cellsOf 9)) = some (xs[3]'(by omega)) := by rw [hl']; exact (hfy 3 _ rfl).trans (gx 3 (by decide))
  rw [one9] at f3
  have f4 : DataW.trod enc Try.prog W 0 (fun _ => true) true n 22 ((l.drop 4).take (Try.prog.cellsOf 22)) = some (xs[4]'(by omega)) := by rw [hl']; exact (hfy 4 _ rfl).trans (gx 4 (by decide))
  rw [one22] at f4
  have f5 : DataW.trod enc Try.prog W 0 (fun _ => true) true n 22 ((l.drop 36).take (Try.prog.cellsOf 22)) = some (xs[5]'(by omega)) := by rw [hl']; exact (hfy 5 _ rfl).trans (gx 5 (by decide))
  rw [one22] at f5
  have f6 : DataW.trod enc Try.prog W 0 (fun _ => true) true n 23 ((l.drop 68).take (Try.prog.cellsOf 23)) = some (xs[6]'(by omega)) := by rw [hl']; exact (hfy 6 _ rfl).trans (gx 6 (by decide))
  rw [one23] at f6
  obtain ⟨q, e0, _⟩ := DataW.trod_bool Try.underlying4 f0
  obtain ⟨s1, e1, _, m1⟩ := DataW.trod_string Try.underlying9 f1
  obtain ⟨s2, e2, _, m2⟩ := DataW.trod_string Try.underlying9 f2
  obtain ⟨s3, e3, _, m3⟩ := DataW.trod_string Try.underlying9 f3
  obtain ⟨_, B4, h4⟩ := cells_bytes f4
  obtain ⟨_, B5, h5⟩ := cells_bytes f5
  have e6 : ∃ cv, (l.drop 68).take 1 = [cv] := by
    have : 68 < l.length := by rw [hl', Array.length_toList]; omega
    exact ⟨l[68], by rw [List.drop_eq_getElem_cons this]; rfl⟩
  obtain ⟨cv, e6⟩ := e6
  obtain ⟨cells, hC⟩ := cells_open (v := cv) (by rw [← e6]; exact f6)
  refine ⟨⟨q, unstr s1, unstr s2, unstr s3, (List.range 32).map B4, (List.range 32).map B5, cells⟩, cv, ?_, hC, by simp, by simp, by rw [unstr_length]; exact m1, by rw [unstr_length]; exact m2, by rw [unstr_length]; exact m3⟩
  congr 1
  refine arr_ext hcz (fun j hj => ?_)
  have hj69 : j < 69 := hj
  rw [← Array.getElem?_toList, ← hl']
  unfold sf
  dsimp only
  by_cases j0 : j = 0
  · subst j0; rw [if_pos rfl]; exact take_one e0
  rw [if_neg j0]
  by_cases j1 : j = 1
  · subst j1; rw [if_pos rfl, str_unstr]; exact take_one e1
  rw [if_neg j1]
  by_cases j2 : j = 2
  · subst j2; rw [if_pos rfl, str_unstr]; exact take_one e2
  rw [if_neg j2]
  by_cases j3 : j = 3
  · subst j3; rw [if_pos rfl, str_unstr]; exact take_one e3
  rw [if_neg j3]
  by_cases j36 : j < 36
  · rw [if_pos j36, range_getD B4 (by omega)]
    have := drop_get (h4 (j - 4) (by omega))
    rwa [show 4 + (j - 4) = j by omega] at this
  rw [if_neg j36]
  by_cases j68 : j < 68
  · rw [if_pos j68, range_getD B5 (by omega)]
    have := drop_get (h5 (j - 36) (by omega))
    rwa [show 36 + (j - 36) = j by omega] at this
  rw [if_neg j68]
  have : j = 68 := by omega
  subst this
  exact take_one e6
end Go.Proofs.Ytpbkdjnogjmfcaa
