/- What the listed variable gives the walks: the table's cells; the door's own heap meets it. No condition. -/
import Derived.Test.YtdmlldhlfofegaaDoorOnes
import Derived.Test.YtdmlldhlfofegaaDoorLaw
import Derived.Test.YtdmlldhlfofegaaDoorCards
import Derived.Test.YtdmlldhlfofegaaDoorTie
import Derived.LaidMore
import Derived.Stop.Joined
import Derived.SevenTiedAt
namespace Go.Proofs.YtdmlldhlfofegaaDoor
open Go.ChangeShapes Go.WideShapes Go.ChangeAt Go.RowKit

def tabN : List Nat := [0, 1, 56, 2, 57, 49, 28, 3, 61, 58, 42, 50, 38, 29, 17, 4, 62, 47, 59, 36, 45, 43, 51, 22, 53, 39, 33, 30, 24, 18, 12, 5, 63, 55, 48, 27, 60, 41, 37, 16, 46, 35, 44, 21, 52, 32, 23, 11, 54, 26, 40, 15, 34, 20, 31, 10, 25, 14, 19, 9, 13, 8, 7, 6]
def laidL : List (String × DataW Unit) := [("math/bits.deBruijn64tab", Rows.laid_math_bits_deBruijn64tab)]
theorem laid_tab : (Rows.laid_math_bits_deBruijn64tab : DataW Unit) = .agg (tabN.map (fun n : Nat => .lit (.int .u8 (n : Int)))) := by kernel_rfl
theorem tabN_idx : ∀ r, r < 64 → tabN[idx r]? = some r := by decide +kernel
theorem gTab : Tryd.prog.globalNamed "math/bits.deBruijn64tab" = some 0 := by kernel_rfl
theorem tTab : (Tryd.prog.globals[0]?).map (·.type) = some 67 := by kernel_rfl
theorem door_met (os : Os) (args : Array Value) : laidMetH Tryd.prog laidL ((World.doorLaid Tryd.prog 400 os).forCall (fun _ _ => 0) ⟨#[], args, []⟩).memory :=
  laidMetH_of_parts3 (fuel := 8) (laidMet_of_run' 8 (by kernel_rfl) (by kernel_rfl)) (by kernel_rfl) (by kernel_rfl)
theorem tab_open {W : World} (h : laidMetH Tryd.prog laidL W) : ∃ cs m, W.var? Tryd.prog "math/bits.deBruijn64tab" = some cs ∧ ∃ q, DataW.trod (fun _ => ()) Tryd.prog W 0 (fun _ => true) false m 67 cs.toList = some (Rows.laid_math_bits_deBruijn64tab, q) := by
  rw [MakeChecks.laidMetH_plain _ _ _ (by kernel_rfl)] at h
  obtain ⟨ps, ⟨g0, t0, cs0, f0, p0, q0, hg0, ht0, hv0, hd0, _, _⟩, _⟩ := h
  obtain rfl := Option.some.inj (tTab.symm.trans ((Option.some.inj (gTab.symm.trans hg0)) ▸ ht0))
  exact ⟨cs0, f0, hv0, _, hd0⟩
theorem tab_cells {W : World} {cs : Array Value} {m : Nat} {l : List Nat} {q : List MemPlace} (hv : W.var? Tryd.prog "math/bits.deBruijn64tab" = some cs)
    (hd : DataW.trod (fun _ => ()) Tryd.prog W 0 (fun _ => true) false m 67 cs.toList = some (.agg (l.map (fun n : Nat => .lit (.int .u8 (n : Int)))), q)) (i k : Nat) (hi : i < 64) (hk : l[i]? = some k) :
    W.cell? ⟨0, i, none⟩ = some (.int .u8 (k : Int)) := by
  obtain ⟨xs, m1, rfl, hx1, hlen, hn3, hel⟩ := DataW.trod_array Tryd.underlying67 hd
  have c5 : Tryd.prog.cellsOf 5 = 1 := by kernel_rfl
  simp only [Prod.mk.injEq, DataW.agg.injEq] at hx1
  obtain ⟨x, hx⟩ : ∃ x, xs[i]? = some x := ⟨_, List.getElem?_eq_getElem (by omega)⟩
  have h0 := hel i hi
  rw [hx, c5, Nat.mul_one] at h0
  obtain ⟨k', e1, e2, _⟩ := DataW.trod_int Tryd.underlying5 h0
  have hk' : k' = (k : Int) := by
    have := congrArg (fun l => l[i]?) hx1.1
    simp only [List.getElem?_map, hk, hx, Option.map_some] at this
    rw [e2] at this
    simpa using this.symm
  subst hk'
  rw [World.var?_cell gTab hv i, ← Array.getElem?_toList]
  have := congrArg (fun l => l[0]?) e1
  simpa using this
theorem tab_of_laid {W : World} (h : laidMetH Tryd.prog laidL W) : Tab W := by
  obtain ⟨cs, m, hv, q, hd⟩ := tab_open h
  rw [show (Rows.laid_math_bits_deBruijn64tab : DataW Unit) = _ from laid_tab] at hd
  exact fun r hr => tab_cells hv hd (idx r) r (idx_lt r) (tabN_idx r hr)
end Go.Proofs.YtdmlldhlfofegaaDoor
