/- Rows of values of one cell, and parts of them: append of one value, slicing. -/
import Derived.Test.YtkehejkjifgieaaOpn
import Derived.ArgAppend
import Derived.Maps.AppendAt
namespace Go.Proofs.Ytkehejkjifgieaa
open Go.RowKit Go.ChangeMaps

/-- v is a row of one's own that holds xs. -/
def Rw (w : World) (base : Nat) (T : TypeId) (v : Value) (xs : List Value) : Prop := w.ownsRow base T 1 v xs.length xs
section
variable {w w' : World} {base : Nat} {T : TypeId} {v : Value} {xs : List Value}
theorem Rw.nil (w : World) (base : Nat) (T : TypeId) : Rw w base T (.slice none 0 0) [] := ⟨rfl, Or.inl ⟨rfl, rfl⟩⟩
theorem Rw.empty {b : Nat} (h : Blk w b #[] T) (hb : base ≤ b) : Rw w base T (.slice (some ⟨b, 0, none⟩) 0 0) [] := row_empty h hb
theorem Rw.lt (h : Rw w base T v xs) : ∀ k, v.ownBlock = some k → base ≤ k ∧ k < w.heap.size := own_lt h
theorem Rw.slice (h : Rw w base T v xs) : ∃ p c, v = .slice p xs.length c := own_slice h
theorem Rw.mod {S : Nat → Prop} (h : Rw w base T v xs) (m : Mod S w w') (hs : ∀ k, v.ownBlock = some k → ¬ S k) : Rw w' base T v xs := m.row h hs
theorem Rw.below (h : Rw w base T v xs) (hb : Below w.heap.size w w') : Rw w' base T v xs := h.mod (Mod.of_below hb (fun _ => False)) (fun _ _ h => h)
theorem Rw.alloc (h : Rw w base T v xs) (o : Obj) : Rw (w.alloc o) base T v xs := World.ownsRow.alloc h o
theorem Rw.cell (h : Rw w base T v xs) {i : Nat} (hi : i < xs.length) : ∃ g cap, v = .slice (some ⟨g, 0, none⟩) xs.length cap ∧ xs.length ≤ cap ∧ w.cell? ⟨g, i, none⟩ = some xs[i] := by
  rcases h.2 with ⟨rfl, h0⟩ | ⟨g, cap, cur, rfl, _, h2, h3, h4, h5, h6⟩
  · omega
  · refine ⟨g, cap, rfl, h3, ?_⟩
    have hb : Blk w g cur T := h2
    refine hb.cellv ?_
    rw [← Array.getElem?_toList, ← List.getElem?_take_of_lt (show i < xs.length * 1 by omega), h6, List.getElem?_eq_getElem hi]
theorem Rw.kind (h : Rw w base T v xs) {k : Nat} (hk : v.ownBlock = some k) : ∃ cs, Blk w k cs T := by
  rcases h.2 with ⟨rfl, _⟩ | ⟨g, cap, cur, rfl, _, h2, _⟩
  · cases hk
  · cases hk; exact ⟨cur, h2⟩
theorem Ow.kind {ys : List W8} (h : Ow w base v ys) {k : Nat} (hk : v.ownBlock = some k) : ∃ cs, Blk w k cs 5 := by
  rcases h.2 with ⟨rfl, _⟩ | ⟨g, cap, cur, rfl, _, h2, _⟩
  · cases hk
  · cases hk; exact ⟨cur, h2⟩
end
theorem info_slice : (Try.prog.info? 29).map (fun i => (i.zero, i.size, i.bytes)) = some (some (.slice none 0 0), 1, 24) := by kernel_rfl
theorem info_string : (Try.prog.info? 9).map (fun i => (i.zero, i.size, i.bytes)) = some (some (.string ⟨#[]⟩), 1, 16) := by kernel_rfl
theorem one_news {w : World} {g : Nat} {x : Value} (hx : w.cell? ⟨g, 0, none⟩ = some x) : ∀ j u, [x][j]? = some u → w.cell? ((⟨g, 0, none⟩ : Addr).add j) = some u := by
  intro j u hu
  match j, hu with
  | 0, hu => cases hu; exact hx
  | j + 1, hu => simp at hu
theorem run_push {w : World} {base : Nat} {t e : TypeId} {z : Value} {by_ : Nat} (ht : Try.prog.underlying t = some (.slice e)) (hinf : (Try.prog.info? e).map (fun i => (i.zero, i.size, i.bytes)) = some (some z, 1, by_)) (hz : z.cells.size = 1) (hby : by_ ≤ 24)
    {v : Value} {xs : List Value} (O : Rw w base e v xs) {g c : Nat} {x : Value} (hx : w.cell? ⟨g, 0, none⟩ = some x) (h1 : x.oneCell' = true) (hl : xs.length ≤ 1000000) (hb : base ≤ w.heap.size) (ty : TypeId) :
    ∃ v' w', (Builtin.append_ #[t, t] ty #[v, .slice (some ⟨g, 0, none⟩) 1 c]).run Try.prog w = .ok v' w' ∧ Rw w' base e v' (xs ++ [x]) ∧ Mod (fun k => v.ownBlock = some k) w w' ∧ (v'.ownBlock = v.ownBlock ∨ v'.ownBlock = some w.heap.size) := by
  obtain ⟨i0, hi, hz0, hz1, hz2⟩ := info_parts hinf
  have hb1 : (xs.length + 1) * by_ ≤ 140737488355328 := Nat.le_trans (Nat.mul_le_mul (show xs.length + 1 ≤ 1000001 by omega) hby) (by decide)
  obtain ⟨v', w', hr, h2, h3, h4, h5⟩ := run_append_own_at (P := Try.prog) w base t ty e i0 z 1 by_ ht hi hz0 hz1 hz2 hz (by decide) v xs.length xs O ⟨g, 0, none⟩ 1 c [x] rfl (one_news hx) (fun u hu => by rw [List.mem_singleton] at hu; rw [hu]; exact h1) (by unfold maxLen; omega) hb1 hb
  refine ⟨v', w', hr, ?_, Mod.of_grown h3 (fun kk hk => hk), h5⟩
  unfold Rw
  rw [List.length_append]
  exact h2
theorem wpList_push {w : World} {ops : Array Oper} {rest : List Oper} {o : Oper} {a : Act} {Q : Exit → Act → World → Prop} (hgd : o.guard = none) (s x : Operand) (t e : TypeId) {z : Value} {by_ : Nat}
    (ho : o.op = .call { callee := .builtin .append, args := #[s, x], argTypes := #[t, t] }) (ht : Try.prog.underlying t = some (.slice e)) (hinf : (Try.prog.info? e).map (fun i => (i.zero, i.size, i.bytes)) = some (some z, 1, by_)) (hz : z.cells.size = 1) (hby : by_ ≤ 24)
    {base : Nat} {v : Value} {xs : List Value} {g c : Nat} {u : Value} (hs : a.eval s = v) (hx : a.eval x = .slice (some ⟨g, 0, none⟩) 1 c) (O : Rw w base e v xs) (hu : w.cell? ⟨g, 0, none⟩ = some u) (h1 : u.oneCell' = true)
    (hl : xs.length ≤ 1000000) (hbase : base ≤ w.heap.size)
    (h : ∀ v' w', Rw w' base e v' (xs ++ [u]) → Mod (fun k => v.ownBlock = some k) w w' → (v'.ownBlock = v.ownBlock ∨ v'.ownBlock = some w.heap.size) → wpList Try.prog ops Q rest (a.put o.dst v') w') : wpList Try.prog ops Q (o :: rest) a w := by
  refine wpList_plain hgd fun K hK => ?_
  obtain ⟨v', w', hr, h2, h3, h4⟩ := run_push ht hinf hz hby O hu h1 hl hbase (c := c) o.type
  unfold Oper.wp execOp
  simp only [ho, resolve, invoke, builtin, Sem.run_bind, Sem.run_pure, Result.andThen_ok, List.map_toArray, List.map_cons, List.map_nil, hs, hx, hr]
  exact hK _ _ (h v' w' h2 h3 h4)

/-- v is a part of a row of one's own, with room behind it; it holds xs. -/
def Seg (w : World) (base : Nat) (T : TypeId) (v : Value) (xs : List Value) : Prop :=
  (v = .slice none 0 0 ∧ xs = []) ∨ ∃ g off cap cur, v = .slice (some ⟨g, off, none⟩) xs.length cap ∧ base ≤ g ∧ Blk w g cur T ∧ xs.length ≤ cap ∧ cap ≤ maxLen ∧ off + cap ≤ cur.size ∧ ∀ i (hi : i < xs.length), cur[off + i]? = some xs[i]
section
variable {w w' : World} {base : Nat} {T : TypeId} {v : Value} {xs : List Value}
theorem Seg.nil (w : World) (base : Nat) (T : TypeId) : Seg w base T (.slice none 0 0) [] := Or.inl ⟨rfl, rfl⟩
theorem Seg.lt (h : Seg w base T v xs) : ∀ k, v.ownBlock = some k → base ≤ k ∧ k < w.heap.size := by
  intro k hk
  rcases h with ⟨rfl, _⟩ | ⟨g, off, cap, cur, rfl, h1, h2, _⟩
  · cases hk
  · cases hk; exact ⟨h1, h2.lt⟩
theorem Seg.slice (h : Seg w base T v xs) : ∃ p c, v = .slice p xs.length c ∧ xs.length ≤ c := by
  rcases h with ⟨rfl, rfl⟩ | ⟨g, off, cap, cur, rfl, h1, h2, h3, _⟩
  · exact ⟨none, 0, rfl, Nat.le_refl _⟩
  · exact ⟨_, cap, rfl, h3⟩
theorem Seg.kind (h : Seg w base T v xs) {k : Nat} (hk : v.ownBlock = some k) : ∃ cs, Blk w k cs T := by
  rcases h with ⟨rfl, _⟩ | ⟨g, off, cap, cur, rfl, _, h2, _⟩
  · cases hk
  · cases hk; exact ⟨cur, h2⟩
theorem Seg.of_block (h : Seg w base T v xs) (hb : ∀ k, v.ownBlock = some k → w'.heap[k]? = w.heap[k]?) : Seg w' base T v xs := by
  rcases h with ⟨rfl, rfl⟩ | ⟨g, off, cap, cur, rfl, h1, h2, h3⟩
  · exact Or.inl ⟨rfl, rfl⟩
  · exact Or.inr ⟨g, off, cap, cur, rfl, h1, h2.of_block (hb g rfl), h3⟩
theorem Seg.mod {S : Nat → Prop} (h : Seg w base T v xs) (m : Mod S w w') (hs : ∀ k, v.ownBlock = some k → ¬ S k) : Seg w' base T v xs := h.of_block (fun k hk => m.block k (h.lt k hk).2 (hs k hk))
theorem Seg.below (h : Seg w base T v xs) (hb : Below w.heap.size w w') : Seg w' base T v xs := h.of_block (fun k hk => hb.block k (h.lt k hk).2)
theorem Seg.cell (h : Seg w base T v xs) {i : Nat} (hi : i < xs.length) : ∃ g off cap, v = .slice (some ⟨g, off, none⟩) xs.length cap ∧ xs.length ≤ cap ∧ w.cell? ⟨g, off + i, none⟩ = some xs[i] := by
  rcases h with ⟨rfl, rfl⟩ | ⟨g, off, cap, cur, rfl, h1, h2, h3, h4, h5, h6⟩
  · simp at hi
  · exact ⟨g, off, cap, rfl, h3, h2.cellv (h6 i hi)⟩
/-- The part behind the first one. -/
theorem Seg.tail {x : Value} (h : Seg w base T v (x :: xs)) : ∃ g off cap, v = .slice (some ⟨g, off, none⟩) (xs.length + 1) cap ∧ xs.length + 1 ≤ cap ∧ Seg w base T (.slice (some (cutAt ⟨g, off, none⟩ cap 1)) xs.length (cap - 1)) xs := by
  rcases h with ⟨rfl, h⟩ | ⟨g, off, cap, cur, rfl, h1, h2, h3, h4, h5, h6⟩
  · cases h
  · refine ⟨g, off, cap, rfl, h3, ?_⟩
    rw [List.length_cons] at h3
    by_cases hc : cap = 1
    · have hx : xs = [] := List.eq_nil_of_length_eq_zero (by omega)
      subst hx
      unfold cutAt
      rw [if_pos hc]
      exact Or.inr ⟨g, off, cap - 1, cur, rfl, h1, h2, Nat.zero_le _, by omega, by omega, fun i hi => absurd hi (Nat.not_lt_zero i)⟩
    · unfold cutAt
      rw [if_neg hc, Addr.add_mid]
      refine Or.inr ⟨g, off + 1, cap - 1, cur, rfl, h1, h2, by omega, by omega, by omega, fun i hi => ?_⟩
      have := h6 (i + 1) (by rw [List.length_cons]; omega)
      rw [show off + 1 + i = off + (i + 1) by omega, this]
      rfl
theorem Seg.of_row (h : Rw w base T v xs) : Seg w base T v xs := by
  rcases h.2 with ⟨rfl, h0⟩ | ⟨g, cap, cur, rfl, h1, h2, h3, h4, h5, h6⟩
  · exact Or.inl ⟨rfl, List.eq_nil_of_length_eq_zero h0⟩
  · refine Or.inr ⟨g, 0, cap, cur, rfl, h1, h2, h3, h4, by omega, fun i hi => ?_⟩
    rw [Nat.zero_add, ← Array.getElem?_toList, ← List.getElem?_take_of_lt (show i < xs.length * 1 by omega), h6, List.getElem?_eq_getElem hi]
end
set_option maxRecDepth 100000 in
theorem run_seg {w : World} {base : Nat} {t e : TypeId} {z : Value} {by_ : Nat} (ht : Try.prog.underlying t = some (.slice e)) (hinf : (Try.prog.info? e).map (fun i => (i.zero, i.size, i.bytes)) = some (some z, 1, by_)) (hz : z.cells.size = 1) (hby : by_ ≤ 24)
    {v : Value} {xs : List Value} (O : Seg w base e v xs) {g c : Nat} {x : Value} (hx : w.cell? ⟨g, 0, none⟩ = some x) (h1 : x.oneCell' = true) (hl : xs.length ≤ 1000000) (hb : base ≤ w.heap.size) (ty : TypeId) :
    ∃ v' w', (Builtin.append_ #[t, t] ty #[v, .slice (some ⟨g, 0, none⟩) 1 c]).run Try.prog w = .ok v' w' ∧ Seg w' base e v' (xs ++ [x]) ∧ Mod (fun k => v.ownBlock = some k) w w' ∧ (v'.ownBlock = v.ownBlock ∨ v'.ownBlock = some w.heap.size) := by
  obtain ⟨i0, hi, hz0, hz1, hz2⟩ := info_parts hinf
  have hb1 : (xs.length + 1) * by_ ≤ 140737488355328 := Nat.le_trans (Nat.mul_le_mul (show xs.length + 1 ≤ 1000001 by omega) hby) (by decide)
  rcases O with ⟨rfl, rfl⟩ | ⟨gv, off, cap, cur, rfl, k1, k2, k3, k4, k5, k6⟩
  · obtain ⟨v', w', hr, h2, h3, h4⟩ := run_push ht hinf hz hby (Rw.nil w base e) (c := c) hx h1 (Nat.zero_le _) hb ty
    exact ⟨v', w', hr, Seg.of_row h2, h3, h4⟩
  · by_cases hroom : xs.length + 1 ≤ cap
    · have hr := run_append_room_cells (P := Try.prog) w t ty e i0 ht hi gv off xs.length cap ⟨g, 0, none⟩ 1 c [x] (by rw [hz1]; rfl) (one_news hx) (fun u hu => by rw [List.mem_singleton] at hu; rw [hu]; exact h1) hroom
        (fun j hj => by rw [k2.cell]; simp; simp at hj; rw [hz1]; omega) (fun j hj => k2.frozen _)
      rw [hz1, Nat.mul_one] at hr
      have hset : w.setCells gv (off + xs.length) [x] = w.setCell ⟨gv, off + xs.length, none⟩ x := rfl
      rw [hset] at hr
      refine ⟨_, _, hr, Or.inr ⟨gv, off, cap, _, by rw [List.length_append]; rfl, k1, k2.set _ _, by rw [List.length_append]; exact hroom, k4, by simpa using k5, fun i hi => ?_⟩, (Mod.refl (fun k => (Value.slice (some ⟨gv, off, none⟩) xs.length cap).ownBlock = some k) w).setCell (p := ⟨gv, off + xs.length, none⟩) (fun _ => rfl) _, Or.inl rfl⟩
      rw [List.length_append] at hi
      by_cases hx2 : i < xs.length
      · rw [Array.getElem?_setIfInBounds_ne (by omega), k6 i hx2, List.getElem_append_left hx2]
      · have e : i = xs.length := by simp at hi; omega
        subst e
        rw [Array.getElem?_setIfInBounds_self_of_lt (by omega)]
        simp
    · have hk : ∀ j u, xs[j]? = some u → w.cell? ((⟨gv, off, none⟩ : Addr).add j) = some u := fun j u hu => by
        obtain ⟨hj, hu⟩ := List.getElem?_eq_some_iff.1 hu
        rw [Addr.add_mid, ← hu]
        exact k2.cellv (k6 j hj)
      obtain ⟨v', w', hr, h2, h3⟩ := run_append_arg_grows (P := Try.prog) w t ty e i0 z 1 by_ ht hi hz0 hz1 hz2 hz (by decide) ⟨gv, off, none⟩ xs.length cap xs (by omega) hk ⟨g, 0, none⟩ 1 c [x] rfl (one_news hx) (by omega) (by unfold maxLen; omega) hb1
      have hR : Rw w' w.heap.size e v' (xs ++ [x]) := by unfold Rw; rw [List.length_append]; exact h2
      have hS := Seg.of_row hR
      refine ⟨v', w', hr, ?_, Mod.of_grown h3 (fun kk hk => by cases hk), ?_⟩
      · rcases hS with h | ⟨g', o', c', cu', q1, q2, q3⟩
        · exact Or.inl h
        · exact Or.inr ⟨g', o', c', cu', q1, Nat.le_trans hb q2, q3⟩
      · rcases h2.2 with ⟨_, h0⟩ | ⟨g', cap', cur', q1, q2, q3, _⟩
        · omega
        · right
          have hlt : g' < w'.heap.size := (Array.getElem?_eq_some_iff.1 q3).1
          have hsz : g' = w.heap.size := by
            have e1 := run_append_grow (P := Try.prog) w t ty e i0 z ht hi hz0 ⟨gv, off, none⟩ xs.length cap xs (by rw [hz1, Nat.mul_one]) hk ⟨g, 0, none⟩ 1 c [x] (by rw [hz1]; rfl) (one_news hx) (by omega) (by omega) (growslice_fits (by omega) (by rw [hz2]; exact hb1))
            rw [e1] at hr
            have := (Result.ok.inj hr).1
            rw [q1] at this
            injection this with e2 _ _
            injection e2 with e3
            injection e3 with e4 _ _
            exact e4.symm
          rw [q1, hsz]; rfl
theorem outcome_seg {w : World} {K : Value → World → Prop} {o : Oper} {ρ : Operand → Value} {s x : Operand} {t e : TypeId} {z : Value} {by_ : Nat}
    (ho : o.op = .call { callee := .builtin .append, args := #[s, x], argTypes := #[t, t] }) (ht : Try.prog.underlying t = some (.slice e)) (hinf : (Try.prog.info? e).map (fun i => (i.zero, i.size, i.bytes)) = some (some z, 1, by_)) (hz : z.cells.size = 1) (hby : by_ ≤ 24)
    {base : Nat} {v : Value} {xs : List Value} {g c : Nat} {u : Value} (hs : ρ s = v) (hx : ρ x = .slice (some ⟨g, 0, none⟩) 1 c) (O : Seg w base e v xs) (hu : w.cell? ⟨g, 0, none⟩ = some u) (h1 : u.oneCell' = true)
    (hl : xs.length ≤ 1000000) (hbase : base ≤ w.heap.size)
    (h : ∀ v' w', Seg w' base e v' (xs ++ [u]) → Mod (fun k => v.ownBlock = some k) w w' → (v'.ownBlock = v.ownBlock ∨ v'.ownBlock = some w.heap.size) → K v' w') : outcome Try.prog K ((execOp ρ o).run Try.prog w) := by
  obtain ⟨v', w', hr, h2, h3, h4⟩ := run_seg ht hinf hz hby O hu h1 hl hbase (c := c) o.type
  refine outcome_value ?_ (h v' w' h2 h3 h4)
  unfold execOp
  simp only [ho, resolve, invoke, builtin, Sem.run_bind, Sem.run_pure, Result.andThen_ok, List.map_toArray, List.map_cons, List.map_nil, hs, hx, hr]
end Go.Proofs.Ytkehejkjifgieaa
