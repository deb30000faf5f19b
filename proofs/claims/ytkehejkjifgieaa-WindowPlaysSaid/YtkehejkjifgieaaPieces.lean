/- Slices of bytes that a function has made itself; equal hashes. -/
import Derived.Test.YtkehejkjifgieaaShaAlive
import Derived.Maps.AppendAt
import Derived.Stop.BytesEq
namespace Go.Proofs.Ytkehejkjifgieaa
open Go.RowKit Go.ChangeMaps

theorem own_bytes {w : World} {base : Nat} {v : Value} {xs : List W8} {n : Nat} (hn : xs.length = n) (h : w.ownsRow base 5 1 v n (byv xs)) : Bytes w v xs := by
  rcases h.2 with ⟨rfl, rfl⟩ | ⟨g, cap, cur, rfl, h1, h2, h3, h4, h5, h6⟩
  · exact ⟨none, 0, by rw [hn], fun hp => by omega⟩
  · refine ⟨_, cap, by rw [hn], fun hp => ⟨g, 0, rfl, (Array.getElem?_eq_some_iff.1 h2).1, by omega, h4, fun i hi => ?_⟩⟩
    have hb : Blk w g cur 5 := h2
    rw [Nat.zero_add]
    refine hb.cellv ?_
    rw [← Array.getElem?_toList, ← List.getElem?_take_of_lt (show i < n * 1 by omega), h6]
    unfold byv
    rw [List.getElem?_map, List.getElem?_eq_getElem hi, List.getD_eq_getElem?_getD, List.getElem?_eq_getElem hi]; rfl
theorem own_lt {w : World} {base n : Nat} {v : Value} {xs : List Value} {T : TypeId} (h : w.ownsRow base T 1 v n xs) : ∀ k, v.ownBlock = some k → base ≤ k ∧ k < w.heap.size := by
  intro k hk
  rcases h.2 with ⟨rfl, _⟩ | ⟨g, cap, cur, rfl, h1, h2, _⟩
  · cases hk
  · cases hk; exact ⟨h1, (Array.getElem?_eq_some_iff.1 h2).1⟩
theorem row_empty {w : World} {base b : Nat} {T : TypeId} (h : Blk w b #[] T) (hb : base ≤ b) : w.ownsRow base T 1 (.slice (some ⟨b, 0, none⟩) 0 0) 0 [] :=
  ⟨rfl, Or.inr ⟨b, 0, #[], rfl, hb, h, Nat.le_refl _, Nat.zero_le _, rfl, rfl⟩⟩
set_option maxRecDepth 100000 in
theorem append_nil (w : World) (ty : TypeId) (p : Option Addr) (n c c' : Nat) (h : n ≤ c) : (Builtin.append_ #[29, 29] ty #[.slice p n c, .slice none 0 c']).run Try.prog w = .ok (.slice p n c) w := by
  obtain ⟨i0, hi, hz0, hz1, hz2⟩ := info_parts info5
  refine run_append_nothing w 29 29 ty 5 i0 Try.underlying29 hi p n c h (.slice none 0 c') ⟨Or.inl ⟨_, Try.underlying29⟩, fun _ => rfl, ?_, ?_, by simp, by simp⟩
  · rw [hz1]; rfl
  · rw [hz1]; rfl
theorem wpList_append_nil {w : World} {ops : Array Oper} {rest : List Oper} {o : Oper} {a : Act} {Q : Exit → Act → World → Prop} (hgd : o.guard = none) (s x : Operand)
    (ho : o.op = .call { callee := .builtin .append, args := #[s, x], argTypes := #[29, 29] }) (p : Option Addr) (n c c' : Nat) (hs : a.eval s = .slice p n c) (hx : a.eval x = .slice none 0 c') (hle : n ≤ c)
    (h : wpList Try.prog ops Q rest (a.put o.dst (.slice p n c)) w) : wpList Try.prog ops Q (o :: rest) a w := by
  refine wpList_plain hgd fun K hK => ?_
  unfold Oper.wp execOp
  simp only [ho, resolve, invoke, builtin, Sem.run_bind, Sem.run_pure, Result.andThen_ok, List.map_toArray, List.map_cons, List.map_nil, hs, hx, append_nil w _ p n c c' hle]
  exact hK _ _ h
theorem arr_cells (a : Nat → W8) : arr 32 (fun i => .int .u8 (ub (a i))) = ((((List.range 32).map (fun i => UInt8.ofBitVec (a i))).map Extern.Stop.cell).toArray : Array Value) := by
  unfold arr
  rw [List.map_map]; rfl
set_option maxRecDepth 100000 in
theorem eq32_same (a : Nat → W8) (w : World) : (Op.equalIn 10000 101 (.agg (arr 32 (fun i => .int .u8 (ub (a i))))) (.agg (arr 32 (fun i => .int .u8 (ub (a i)))))).run Try.prog w = .ok true w := by
  rw [arr_cells]
  have := run_equalIn_bytes (P := Try.prog) w 9998 101 5 32 Try.underlying101 Try.underlying5 (fun _ => rfl) ((List.range 32).map (fun i => UInt8.ofBitVec (a i))) ((List.range 32).map (fun i => UInt8.ofBitVec (a i))) (by simp) (by simp)
  rw [this]; simp

end Go.Proofs.Ytkehejkjifgieaa
