/- A region that draws its order, whose operations and callees leave the old memory as it is: one walk in the order of the text. Condition: each operation yields one value whatever was made besides. -/
import Derived.Test.YtkehejkjifgieaaFn
import Derived.BigQuiet
import Derived.Deep.RegionWith
namespace Go.Proofs.Ytkehejkjifgieaa
open Go.RowKit

/-- A world in which the memory of w0 is as it was. -/
structure Wd (w0 : World) where
  w : World
  h : Below w0.heap.size w0 w
instance (w0 : World) : Nonempty (Wd w0) := ⟨⟨w0, Below.refl _ _⟩⟩
theorem Wd.call {P : Program} {f : FuncId} {args : Array Value} {w0 : World} {v : Value} (n : Wd w0) (h : Calls P f args n.w fun e w' => e = .returned v ∧ Below n.w.heap.size n.w w') :
    Calls P f args n.w fun e w'' => e = .returned v ∧ ∃ m : Wd w0, w'' = m.w := h.mono fun _ w' ⟨he, hb⟩ => ⟨he, ⟨w', n.h.trans (hb.mono n.h.size)⟩, rfl⟩
theorem Wd.call_same {P : Program} {f : FuncId} {args : Array Value} {w0 : World} {v : Value} (n : Wd w0) (h : Calls P f args n.w fun e w' => e = .returned v ∧ n.w = w') :
    Calls P f args n.w fun e w'' => e = .returned v ∧ ∃ m : Wd w0, w'' = m.w := h.mono fun _ _ ⟨he, hb⟩ => ⟨he, n, hb.symm⟩
theorem region_wd {P : Program} {id : Nat} {Q : Exit → Act → World → Prop} {a : Act} {w : World} {l : List Oper} (hm : P.follows .mixedOrders = true) (hB : Region.lexB .any l.toArray = true)
    (h : wpQuiet P l.toArray (fun w' => ∃ n : Wd w, w' = n.w) (fun a' => ∀ w', (∃ n : Wd w, w' = n.w) → Q .normal a' w') l a) : (Code.region id l.toArray true).wp P Q a w :=
  wp_region_quiet (C := fun w' => ∃ n : Wd w, w' = n.w) hm hB ⟨⟨w.drew, (Below.refl _ _).drew⟩, rfl⟩ (by simpa using h)
theorem quiet_load_mid {P : Program} {C : World → Prop} {K : Act → Prop} {a : Act} {op : Oper} (ty : TypeId) (x : Operand) (ho : op.op = .load ty x) (b o : Nat) (hx : a.eval x = .pointer (some ⟨b, o, none⟩)) (cs : List Value) (d : TypeDesc)
    (hC : ∀ w, C w → w.rangeAt b o cs) (hu : P.underlying ty = some d) (hd : d.isRow = true) (hi : (P.info? ty).map (·.size) = some cs.length) (h : K (a.put op.dst (.agg cs.toArray))) : op.quiet P a C K :=
  ⟨_, fun w hw => by
    unfold Oper.quietAt execOp
    simp only [ho, hx, Instr.loadAt, Instr.sureAddr, Sem.run_bind, Sem.run_pure, Result.andThen_ok, run_loadVar_mid w b o ty cs d (hC w hw) hu hd hi]
    exact ⟨rfl, rfl⟩, h⟩
theorem quiet_convert {P : Program} {C : World → Prop} {K : Act → Prop} {a : Act} {op : Oper} (src dst : TypeId) (x : Operand) (ho : op.op = .convert src dst x) (v : Value)
    (hC : ∀ w, C w → (convert src dst (a.eval x)).run P w = .ok v w) (h : K (a.put op.dst v)) : op.quiet P a C K :=
  ⟨_, fun w hw => by
    unfold Oper.quietAt execOp
    simp only [ho, Sem.run_bind, Sem.run_pure, Result.andThen_ok, hC w hw]
    exact ⟨rfl, rfl⟩, h⟩
end Go.Proofs.Ytkehejkjifgieaa
