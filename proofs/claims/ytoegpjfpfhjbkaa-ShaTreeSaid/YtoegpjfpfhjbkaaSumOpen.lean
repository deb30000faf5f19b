/- ShaSum over bytes and a hash as they come in. -/
import Derived.Test.YtoegpjfpfhjbkaaSum1
import Derived.Test.YtoegpjfpfhjbkaaPiecesOpen
namespace Go.Proofs.Ytoegpjfpfhjbkaa
open Go.ChangeShapes Go.WideShapes Go.ChangeAt Go.RowKit Go.Deep

theorem okWide_arr {P : Program} {W : World} {r : Reach} {base : Nat} {t e : TypeId} {n : Nat} {v : Value} (ht : P.underlying t = some (.array n e)) (h : Value.okWide P W r base t v) : ∃ cs, v = .agg cs ∧ cs.size = P.cellsOf t := by
  simp only [Value.okWide, ht] at h
  obtain ⟨cs, h1, h2, _⟩ := h
  exact ⟨cs, h1, h2⟩
/-- Cells that read as bytes. -/
theorem cells_bytes {H : Type} {enc : TypeId × Value → H} {W : World} {base : Nat} {sp : Nat → Bool} {hd : Bool} {m : Nat} {cs : List Value} {x : DataW H × List MemPlace} (h : DataW.trod enc Try.prog W base sp hd m 23 cs = some x) :
    cs.length = 32 ∧ ∃ B : Nat → W8, ∀ i, i < 32 → cs[i]? = some (.int .u8 (ub (B i))) := by
  obtain ⟨xs, m1, rfl, hx1, hlen, hn3, hel⟩ := DataW.trod_array Try.underlying23 h
  have c5 : Try.prog.cellsOf 5 = 1 := by kernel_rfl
  have c23 : Try.prog.cellsOf 23 = 32 := by kernel_rfl
  rw [c23] at hlen
  refine ⟨hlen, fun i => match cs[i]? with | some (.int _ z) => BitVec.ofInt 8 z | _ => 0, fun i hi => ?_⟩
  have h0 := hel i hi
  rw [c5, Nat.mul_one, List.getElem?_eq_getElem (show i < xs.length by omega)] at h0
  obtain ⟨k, e1, _, hw⟩ := DataW.trod_int Try.underlying5 h0
  have hci : cs[i]? = some (.int .u8 k) := by
    have := congrArg (fun l => l[0]?) e1
    simpa using this
  rw [hci]
  simp [Lit.wf, IntKind.min, IntKind.max, IntKind.signed, IntKind.bits] at hw
  congr 2
  show k = ub (match cs[i]? with | some (.int _ z) => BitVec.ofInt 8 z | _ => 0)
  rw [hci]
  unfold ub
  rw [BitVec.toNat_ofInt]
  have : (k % ((2 ^ 8 : Nat) : Int)) = k := by omega
  rw [this]; omega
theorem hash_open {H : Type} {enc : TypeId × Value → H} {W : World} {base : Nat} {v : Value} {d : DataW H} {ps : List MemPlace} (hv : Value.okWide Try.prog W .any base 23 v) (h : DataW.Trod enc Try.prog W 0 (fun _ => true) true 23 v d ps) :
    ∃ (hs : Array Value) (B : Nat → W8), v = .agg hs ∧ hs.size = 32 ∧ ∀ i, i < 32 → hs[i]? = some (.int .u8 (ub (B i))) := by
  obtain ⟨cs, rfl, _⟩ := okWide_arr Try.underlying23 hv
  obtain ⟨fuel, hf⟩ := h
  obtain ⟨h1, B, h2⟩ := cells_bytes hf
  exact ⟨cs, B, rfl, by simpa [Value.cells] using h1, fun i hi => by have := h2 i hi; rwa [← Array.getElem?_toList]⟩
theorem shaSum_w {H : Type} {enc : TypeId × Value → H} {W : World} {base : Nat} {v u : Value} {d d' : DataW H} {ps ps' : List MemPlace} (hv : Value.okWide Try.prog W .any base 22 v) (h : DataW.Trod enc Try.prog W 0 (fun _ => true) true 22 v d ps)
    (hu : Value.okWide Try.prog W .any base 23 u) (h' : DataW.Trod enc Try.prog W 0 (fun _ => true) true 23 u d' ps') :
    Calls Try.prog 3 #[v, u] W fun e w' => e = .returned (.bool true) ∧ Below W.heap.size W w' := by
  obtain ⟨p0, len0, cap0, rfl⟩ := okWide_slice Try.underlying22 hv
  obtain ⟨fuel, hf⟩ := h
  obtain ⟨xs, hb, _⟩ := bytes_open (v := .slice p0 len0 cap0) hf
  obtain ⟨hs, B, rfl, hz, hx⟩ := hash_open hu h'
  exact sum_walk W _ xs hs hz B hx hb
end Go.Proofs.Ytoegpjfpfhjbkaa
