/- What the texts on hashes share. -/
import Derived.Test.YtkehejkjifgieaaShaAll
import Derived.Maps.AppendAt
import Derived.Deep.RegionLaw
import Derived.Deep.AppendLies
import Derived.Laws.IdiomStrings
namespace Go.Proofs.Ytkehejkjifgieaa
open Go.RowKit Go.ChangeMaps

theorem info5 : (Try.prog.info? 5).map (fun i => (i.zero, i.size, i.bytes)) = some (some (.int .u8 0), 1, 1) := by kernel_rfl
theorem Fn.storeAll' {w : World} {b n : Nat} {T : TypeId} {f g : Nat → Value} (h : Fn w b T n f) {zs : Array Value} (hz : zs = Go.Proofs.Ytkehejkjifgieaa.arr n g) : Fn (w.setCells b 0 zs.toList) b T n g := by subst hz; exact h.storeAll g
theorem Fn.range' {w : World} {b n : Nat} {T : TypeId} {f : Nat → Value} (h : Fn w b T n f) (zs : Array Value) (hz : zs.size = n) (hf : ∀ j, j < n → zs[j]? = some (f j)) : w.rangeAt b 0 zs.toList := by
  intro j v hv
  have hj : j < n := by rw [← hz]; simpa using (List.getElem?_eq_some_iff.1 hv).1
  rw [Array.getElem?_toList, hf j hj] at hv
  rw [Nat.zero_add, h.cell hj]; exact hv

end Go.Proofs.Ytkehejkjifgieaa
