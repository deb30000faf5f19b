/- Own bytes: what append makes of nothing and bytes that came in. -/
import Derived.Test.YtdmlldhlfofegaaDoorRefLoad
import Derived.Maps.AppendAt
namespace Go.Proofs.YtdmlldhlfofegaaDoor
open Go.RowKit

theorem row_empty {w : World} {base b : Nat} {T : TypeId} (h : Blk w b #[] T) (hb : base ≤ b) : w.ownsRow base T 1 (.slice (some ⟨b, 0, none⟩) 0 0) 0 [] :=
  ⟨rfl, Or.inr ⟨b, 0, #[], rfl, hb, h, Nat.le_refl _, Nat.zero_le _, rfl, rfl⟩⟩
theorem append_nil (w : World) (ty : TypeId) (p : Option Addr) (n c c' : Nat) (h : n ≤ c) : (Builtin.append_ #[44, 44] ty #[.slice p n c, .slice none 0 c']).run Tryd.prog w = .ok (.slice p n c) w := by
  obtain ⟨i0, hi, hz0, hz1, hz2⟩ := info_parts info5
  refine run_append_nothing w 44 44 ty 5 i0 Tryd.underlying44 hi p n c h (.slice none 0 c') ⟨Or.inl ⟨_, Tryd.underlying44⟩, fun _ => rfl, ?_, ?_, by simp, by simp⟩
  · rw [hz1]; rfl
  · rw [hz1]; rfl
theorem wpList_append_nil {w : World} {ops : Array Oper} {rest : List Oper} {o : Oper} {a : Act} {Q : Exit → Act → World → Prop} (hgd : o.guard = none) (s x : Operand)
    (ho : o.op = .call { callee := .builtin .append, args := #[s, x], argTypes := #[44, 44] }) (p : Option Addr) (n c c' : Nat) (hs : a.eval s = .slice p n c) (hx : a.eval x = .slice none 0 c') (hle : n ≤ c)
    (h : wpList Tryd.prog ops Q rest (a.put o.dst (.slice p n c)) w) : wpList Tryd.prog ops Q (o :: rest) a w := by
  refine wpList_plain hgd fun K hK => ?_
  unfold Oper.wp execOp
  simp only [ho, resolve, invoke, builtin, Sem.run_bind, Sem.run_pure, Result.andThen_ok, List.map_toArray, List.map_cons, List.map_nil, hs, hx, append_nil w _ p n c c' hle]
  exact hK _ _ h
/-- Bytes that came in. -/
def Bin (w : World) (p : Option Addr) (len cap : Nat) (B : Nat → W8) : Prop := 0 < len → ∃ b off, p = some ⟨b, off, none⟩ ∧ b < w.heap.size ∧ len ≤ cap ∧ cap ≤ maxLen ∧ Bts w b off len B
theorem Bin.below {w w' : World} {p : Option Addr} {len cap : Nat} {B : Nat → W8} (h : Bin w p len cap B) (hb : Below w.heap.size w w') : Bin w' p len cap B := fun h0 => by
  obtain ⟨b, off, h1, h2, h3, h4, h5⟩ := h h0
  exact ⟨b, off, h1, Nat.lt_of_lt_of_le h2 hb.size, h3, h4, h5.below h2 hb⟩
theorem conv_bin {w : World} {p : Option Addr} {len cap : Nat} {B : Nat → W8} (h : Bin w p len cap B) : (convert 44 9 (.slice p len cap)).run Tryd.prog w = .ok (.string (strOf B len)) w := by
  by_cases h0 : 0 < len
  · obtain ⟨b, off, rfl, _, _, _, hS⟩ := h h0
    exact conv_bts hS
  · obtain rfl : len = 0 := by omega
    cases p with
    | none => rfl
    | some ad => rfl
def bvs (B : Nat → W8) (n : Nat) : List Value := (List.range n).map (fun j => .int .u8 (ub (B j)))
theorem bvs_len (B : Nat → W8) (n : Nat) : (bvs B n).length = n := by simp [bvs]
theorem bvs_one (B : Nat → W8) (n : Nat) : ∀ u ∈ bvs B n, u.oneCell' = true := by intro u hu; unfold bvs at hu; obtain ⟨x, _, rfl⟩ := List.mem_map.1 hu; rfl
theorem bvs_at {W : World} {b off n : Nat} {B : Nat → W8} (h : Bts W b off n B) : ∀ j v, (bvs B n)[j]? = some v → W.cell? ((⟨b, off, none⟩ : Addr).add j) = some v := fun j v hv => by
  have hj : j < n := by have := (List.getElem?_eq_some_iff.1 hv).1; rwa [bvs_len] at this
  rw [Addr.add_mid, h j hj]
  unfold bvs at hv
  simpa [hj] using hv
theorem own_bin {w : World} {base n : Nat} {v : Value} {B : Nat → W8} (h : w.ownsRow base 5 1 v n (bvs B n)) : ∃ p c, v = .slice p n c ∧ Bin w p n c B := by
  rcases h.2 with ⟨h1, h2⟩ | ⟨g, cap, cur, h1, h2, h3, h4, h5, h6, h7⟩
  · exact ⟨none, 0, by rw [h1, h2], fun h0 => by omega⟩
  · refine ⟨_, cap, h1, fun h0 => ⟨g, 0, rfl, (Array.getElem?_eq_some_iff.1 h3).1, h4, h5, fun i hi => ?_⟩⟩
    rw [Nat.zero_add, cell_of_row w g i cur 5 (0, 0) h3, ← Array.getElem?_toList, ← List.getElem?_take_of_lt (show i < n * 1 by omega), h7]
    simp [bvs, hi]
end Go.Proofs.YtdmlldhlfofegaaDoor
