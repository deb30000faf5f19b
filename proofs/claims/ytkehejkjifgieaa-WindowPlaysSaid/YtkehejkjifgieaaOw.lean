/- Bytes that a function has made itself, and 'append' to them, whatever is appended. -/
import Derived.Test.YtkehejkjifgieaaRefPad
import Derived.Test.YtkehejkjifgieaaInv
import Derived.Laws.CopyOwn
import Derived.Laws.OwnMore
namespace Go.Proofs.Ytkehejkjifgieaa
open Go.RowKit Go.ChangeMaps

/-- v holds the bytes xs, in memory from block 'base' on that is the function's own. -/
def Ow (w : World) (base : Nat) (v : Value) (xs : List W8) : Prop := w.ownsRow base 5 1 v xs.length (byv xs)
theorem Ow.bytes {w : World} {base : Nat} {v : Value} {xs : List W8} (h : Ow w base v xs) : Bytes w v xs := own_bytes rfl h
theorem Ow.lt {w : World} {base : Nat} {v : Value} {xs : List W8} (h : Ow w base v xs) : ∀ k, v.ownBlock = some k → base ≤ k ∧ k < w.heap.size := own_lt h
theorem Ow.nil (w : World) (base : Nat) : Ow w base (.slice none 0 0) [] := ⟨rfl, Or.inl ⟨rfl, rfl⟩⟩
theorem Ow.empty (w : World) {base : Nat} (h : base ≤ w.heap.size) : Ow (w.alloc (.cells #[] 5)) base (.slice (some ⟨w.heap.size, 0, none⟩) 0 0) [] := row_empty (Blk.new w #[] 5) h
theorem Ow.lower {w : World} {base base' : Nat} {v : Value} {xs : List W8} (h : Ow w base v xs) (hb : base' ≤ base) : Ow w base' v xs := by
  refine ⟨h.1, ?_⟩
  rcases h.2 with h | ⟨g, cap, cur, h1, h2, h3⟩
  · exact Or.inl h
  · exact Or.inr ⟨g, cap, cur, h1, Nat.le_trans hb h2, h3⟩
theorem Ow.of_block {w w' : World} {base : Nat} {v : Value} {xs : List W8} (h : Ow w base v xs) (hb : ∀ k, v.ownBlock = some k → w'.heap[k]? = w.heap[k]?) : Ow w' base v xs := by
  refine ⟨h.1, ?_⟩
  rcases h.2 with h | ⟨g, cap, cur, rfl, h2, h3, h4⟩
  · exact Or.inl h
  · exact Or.inr ⟨g, cap, cur, rfl, h2, (hb g rfl).trans h3, h4⟩
theorem Ow.below {w w' : World} {base : Nat} {v : Value} {xs : List W8} (h : Ow w base v xs) (hb : Below w.heap.size w w') : Ow w' base v xs := h.of_block (fun k hk => hb.block k (h.lt k hk).2)
theorem Ow.mod {S : Nat → Prop} {w w' : World} {base : Nat} {v : Value} {xs : List W8} (h : Ow w base v xs) (hm : Mod S w w') (hs : ∀ k, v.ownBlock = some k → ¬ S k) : Ow w' base v xs := h.of_block (fun k hk => hm.block k (h.lt k hk).2 (hs k hk))
theorem Ow.alloc {w : World} {base : Nat} {v : Value} {xs : List W8} (h : Ow w base v xs) (o : Obj) : Ow (w.alloc o) base v xs := h.of_block (fun k hk => Below.heap_alloc _ _ _ (h.lt k hk).2)
theorem Ow.slice {w : World} {base : Nat} {v : Value} {xs : List W8} (h : Ow w base v xs) : ∃ p c, v = .slice p xs.length c := own_slice h
/-- Cells of bytes just laid. -/
theorem Bytes.lit (w : World) (cs : Array Value) (ys : List W8) (hc : cs.toList = byv ys) (hl : ys.length ≤ 1000) : Bytes (w.alloc (.cells cs 5)) (.slice (some ⟨w.heap.size, 0, none⟩) ys.length ys.length) ys :=
  ⟨_, ys.length, rfl, fun hp => ⟨w.heap.size, 0, rfl, by simp, Nat.le_refl _, by
    unfold maxLen; omega, fun i hi => by
    refine (Blk.new w cs 5).cellv ?_
    rw [← Array.getElem?_toList, hc, Nat.zero_add]
    unfold byv
    rw [List.getElem?_map, List.getElem?_eq_getElem hi, List.getD_eq_getElem?_getD, List.getElem?_eq_getElem hi]; rfl⟩⟩
theorem Bytes.mod {S : Nat → Prop} {w w' : World} {v : Value} {xs : List W8} (h : Bytes w v xs) (hm : Mod S w w') (hs : ∀ k, v.ownBlock = some k → ¬ S k) : Bytes w' v xs := by
  obtain ⟨p, cap, rfl, hc⟩ := h
  refine ⟨p, cap, rfl, fun hx => ?_⟩
  obtain ⟨b, off, rfl, h1, h2, h3, h4⟩ := hc hx
  have := hm.block b h1 (hs b rfl)
  exact ⟨b, off, rfl, Nat.lt_of_lt_of_le h1 hm.size, h2, h3, h4.of_block this⟩
set_option maxRecDepth 100000 in
theorem run_app {w : World} {base : Nat} {v vx : Value} {xs ys : List W8} (O : Ow w base v xs) (hB : Bytes w vx ys) (hlen : xs.length + ys.length ≤ 1000000) (hbase : base ≤ w.heap.size) (ty : TypeId) :
    ∃ v' w', (Builtin.append_ #[29, 29] ty #[v, vx]).run Try.prog w = .ok v' w' ∧ Ow w' base v' (xs ++ ys) ∧ Mod (fun k => v.ownBlock = some k) w w' ∧ (v'.ownBlock = v.ownBlock ∨ v'.ownBlock = some w.heap.size) := by
  obtain ⟨i0, hi, hz0, hz1, hz2⟩ := info_parts info5
  obtain ⟨px, cx, rfl, hq⟩ := hB
  cases px with
  | none =>
    have hy : ys = [] := by
      by_cases h0 : 0 < ys.length
      · obtain ⟨_, _, h, _⟩ := hq h0; cases h
      · exact List.eq_nil_of_length_eq_zero (by omega)
    subst hy
    rw [List.append_nil]
    refine ⟨v, w, ?_, O, Mod.refl _ w, Or.inl rfl⟩
    rcases O.2 with ⟨rfl, _⟩ | ⟨g, cap, cur, rfl, _, _, h3, _⟩
    · exact append_nil w ty none 0 0 cx (Nat.le_refl _)
    · exact append_nil w ty _ _ cap cx h3
  | some ad =>
    have hBy : Bytes w (.slice (some ad) ys.length cx) ys := ⟨_, _, rfl, hq⟩
    obtain ⟨v', w', hr, h2, h3, h4, h5⟩ := run_append_own_at (P := Try.prog) w base 29 ty 5 i0 (.int .u8 0) 1 1 rfl hi hz0 hz1 hz2 rfl (by decide) v xs.length (byv xs) O ad ys.length cx (byv ys) (by rw [byv_length]; omega) (bytes_at hBy) (byv_one ys) (by unfold maxLen; omega) (by omega) hbase
    refine ⟨v', w', hr, ?_, Mod.of_grown h3 (fun kk hk => hk), h5⟩
    unfold Ow
    rw [List.length_append, byv_append]
    exact h2
theorem wpList_app {w : World} {ops : Array Oper} {rest : List Oper} {o : Oper} {a : Act} {Q : Exit → Act → World → Prop} (hgd : o.guard = none) (s x : Operand)
    (ho : o.op = .call { callee := .builtin .append, args := #[s, x], argTypes := #[29, 29] }) {base : Nat} {v vx : Value} {xs ys : List W8} (hs : a.eval s = v) (hx : a.eval x = vx) (O : Ow w base v xs) (hB : Bytes w vx ys)
    (hlen : xs.length + ys.length ≤ 1000000) (hbase : base ≤ w.heap.size)
    (h : ∀ v' w', Ow w' base v' (xs ++ ys) → Mod (fun k => v.ownBlock = some k) w w' → (v'.ownBlock = v.ownBlock ∨ v'.ownBlock = some w.heap.size) → wpList Try.prog ops Q rest (a.put o.dst v') w') : wpList Try.prog ops Q (o :: rest) a w := by
  refine wpList_plain hgd fun K hK => ?_
  obtain ⟨v', w', hr, h2, h3, h4⟩ := run_app O hB hlen hbase o.type
  unfold Oper.wp execOp
  simp only [ho, resolve, invoke, builtin, Sem.run_bind, Sem.run_pure, Result.andThen_ok, List.map_toArray, List.map_cons, List.map_nil, hs, hx, hr]
  exact hK _ _ (h v' w' h2 h3 h4)
theorem outcome_app {w : World} {K : Value → World → Prop} {o : Oper} {ρ : Operand → Value} {s x : Operand} (ho : o.op = .call { callee := .builtin .append, args := #[s, x], argTypes := #[29, 29] })
    {base : Nat} {v vx : Value} {xs ys : List W8} (hs : ρ s = v) (hx : ρ x = vx) (O : Ow w base v xs) (hB : Bytes w vx ys) (hlen : xs.length + ys.length ≤ 1000000) (hbase : base ≤ w.heap.size)
    (h : ∀ v' w', Ow w' base v' (xs ++ ys) → Mod (fun k => v.ownBlock = some k) w w' → (v'.ownBlock = v.ownBlock ∨ v'.ownBlock = some w.heap.size) → K v' w') : outcome Try.prog K ((execOp ρ o).run Try.prog w) := by
  obtain ⟨v', w', hr, h2, h3, h4⟩ := run_app O hB hlen hbase o.type
  refine outcome_value ?_ (h v' w' h2 h3 h4)
  unfold execOp
  simp only [ho, resolve, invoke, builtin, Sem.run_bind, Sem.run_pure, Result.andThen_ok, List.map_toArray, List.map_cons, List.map_nil, hs, hx, hr]
theorem Mod.own_below {w0 w w' : World} {base : Nat} {v : Value} {xs : List W8} (hm : Mod (fun k => v.ownBlock = some k) w w') (O : Ow w base v xs) (hbase : base ≤ w.heap.size) (hb : Below base w0 w) : Below base w0 w' :=
  hb.trans (hm.below hbase (fun k hk e => by have := (O.lt k e).1; omega))
end Go.Proofs.Ytkehejkjifgieaa
