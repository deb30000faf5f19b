/- What Set's steps do to the places and the map; no walk. -/
import Derived.Test.YtfolgjgkeheaoaaSettle
namespace Go.Proofs.Ytfolgjgkeheaoaa
open Go.RowKit Go.ChangeMaps

def put (f : Nat → Ent) (i : Nat) (e : Ent) : Nat → Ent := fun k => if k = i then e else f k
def Has (n : Nat) (f : Nat → Ent) (x : Int) : Prop := ∃ k, k < n ∧ (f k).1 = x

theorem news_alloc (w : World) (cs : Array Value) (T : TypeId) : ∀ j u, cs.toList[j]? = some u → (w.alloc (.cells cs T)).cell? ((⟨w.heap.size, 0, none⟩ : Addr).add j) = some u := by
  intro j u h
  have hj : (w.alloc (.cells cs T)).cell? ⟨w.heap.size, j, none⟩ = some u := ((Blk.new w cs T).cell j).trans (by rw [← Array.getElem?_toList]; exact h)
  unfold Addr.add
  by_cases e : j = 0
  · subst e; simpa using hj
  · simpa [e] using hj

theorem Tm.row_own {w : World} {t mb n : Nat} {sv : Value} {f : Nat → Ent} (h : Tm w t mb sv n f) :
    ∃ xs, w.ownsRow 0 62 2 sv n xs ∧ ∀ k, k < n → xs[k * 2]? = some (.int .u32 (f k).1) ∧ xs[k * 2 + 1]? = some (.int .u64 (f k).2) := by
  rcases h.row with ⟨rfl, rfl⟩ | ⟨g, cap, cur, rfl, h1, h2, h3, h4, h5⟩
  · exact ⟨[], World.ownsRow_nil _ _ _ _, fun k hk => absurd hk (by omega)⟩
  · refine ⟨cur.toList.take (n * 2), ⟨?_, Or.inr ⟨g, cap, cur, rfl, Nat.zero_le _, h1, h2, h3, h4, rfl⟩⟩, fun k hk => ?_⟩
    · rw [List.length_take, Array.length_toList]; omega
    · rw [List.getElem?_take_of_lt (by omega), List.getElem?_take_of_lt (by omega), Array.getElem?_toList, Array.getElem?_toList]
      exact h5 k hk

theorem grown_ents {w : World} {n : Nat} {v : Value} {xs : List Value} {f : Nat → Ent} {e : Ent} (h : w.ownsRow 0 62 2 v (n + 1) (xs ++ [.int .u32 e.1, .int .u64 e.2])) (hl : xs.length = n * 2)
    (hx : ∀ k, k < n → xs[k * 2]? = some (.int .u32 (f k).1) ∧ xs[k * 2 + 1]? = some (.int .u64 (f k).2)) :
    ∃ g cap cur, v = .slice (some ⟨g, 0, none⟩) (n + 1) cap ∧ Blk w g cur 62 ∧ n + 1 ≤ cap ∧ cap ≤ maxLen ∧ cur.size = cap * 2 ∧ Ents cur (n + 1) (put f n e) := by
  rcases h.2 with ⟨_, h0⟩ | ⟨g, cap, cur, rfl, _, h1, h2, h3, h4, h5⟩
  · omega
  · refine ⟨g, cap, cur, rfl, h1, h2, h3, h4, fun k hk => ?_⟩
    have key : ∀ j, j < (n + 1) * 2 → cur[j]? = (xs ++ [Value.int .u32 e.1, .int .u64 e.2])[j]? := by
      intro j hj
      rw [← h5, List.getElem?_take_of_lt hj, Array.getElem?_toList]
    rw [key _ (by omega), key _ (by omega)]
    unfold put
    by_cases e1 : k = n
    · subst e1
      rw [if_pos rfl, List.getElem?_append_right (by omega), List.getElem?_append_right (by omega), hl]
      rw [show k * 2 - k * 2 = 0 by omega, show k * 2 + 1 - k * 2 = 1 by omega]
      exact ⟨rfl, rfl⟩
    · rw [if_neg e1, List.getElem?_append_left (by omega), List.getElem?_append_left (by omega)]
      exact hx k (by omega)

theorem Ents.at {cur : Array Value} {n i : Nat} {f : Nat → Ent} (h : Ents cur n f) (hi : i < n) (hc : n * 2 ≤ cur.size) (x : Int) :
    Ents (cur.setIfInBounds (i * 2 + 1) (.int .u64 x)) n (put f i ((f i).1, x)) := by
  intro k hk
  unfold put
  by_cases e1 : k = i
  · subst e1
    rw [if_pos rfl, Array.getElem?_setIfInBounds_ne (by omega), Array.getElem?_setIfInBounds_self_of_lt (by omega)]
    exact ⟨(h k hk).1, rfl⟩
  · rw [if_neg e1, Array.getElem?_setIfInBounds_ne (by omega), Array.getElem?_setIfInBounds_ne (by omega)]
    exact h k hk
theorem put_put (f : Nat → Ent) (i : Nat) (a b : Ent) : put (put f i a) i b = put f i b := by
  funext k; unfold put; by_cases e : k = i
  · rw [if_pos e, if_pos e]
  · rw [if_neg e, if_neg e, if_neg e]
theorem put_self (f : Nat → Ent) (i : Nat) (a : Ent) : put f i a i = a := by unfold put; rw [if_pos rfl]
theorem put_ne {f : Nat → Ent} {i k : Nat} (a : Ent) (h : k ≠ i) : put f i a k = f k := by unfold put; rw [if_neg h]

theorem inj_put_old {n i : Nat} {f : Nat → Ent} (h : Inj n f) (x : Int) : Inj n (put f i ((f i).1, x)) := by
  have e : ∀ k, (put f i ((f i).1, x) k).1 = (f k).1 := by
    intro k; unfold put; by_cases e : k = i
    · subst e; rw [if_pos rfl]
    · rw [if_neg e]
  intro a b ha hb hab
  rw [e, e] at hab; exact h a b ha hb hab
theorem inj_put_new {n : Nat} {f : Nat → Ent} (h : Inj n f) {e : Ent} (hn : ¬ Has n f e.1) : Inj (n + 1) (put f n e) := by
  intro a b ha hb hab
  unfold put at hab
  by_cases e1 : a = n <;> by_cases e2 : b = n
  · omega
  · rw [if_pos e1, if_neg e2] at hab; exact absurd ⟨b, by omega, hab.symm⟩ hn
  · rw [if_neg e1, if_pos e2] at hab; exact absurd ⟨a, by omega, hab⟩ hn
  · rw [if_neg e1, if_neg e2] at hab; exact h a b (by omega) (by omega) hab
theorem where_put_old {w : World} {mb n i : Nat} {f : Nat → Ent} (h : Where w mb n f) (x : Int) : Where w mb n (put f i ((f i).1, x)) := by
  have e : ∀ k, (put f i ((f i).1, x) k).1 = (f k).1 := by
    intro k; unfold put; by_cases e : k = i
    · subst e; rw [if_pos rfl]
    · rw [if_neg e]
  obtain ⟨D, h1, h2, h3⟩ := h
  refine ⟨D, h1, fun k hk => by rw [e]; exact h2 k hk, fun x v hx => ?_⟩
  obtain ⟨k, hk, hk'⟩ := h3 x v hx
  exact ⟨k, hk, by rw [e]; exact hk'⟩
theorem where_put_new {w : World} {mb n : Nat} {f : Nat → Ent} {D : Int → Option Value} {e : Ent} (h2 : ∀ k, k < n → D (f k).1 = some (.int .i64 (k : Int))) (h3 : ∀ x v, D x = some v → ∃ k, k < n ∧ (f k).1 = x)
    (hn : ¬ Has n f e.1) (h : IMap w mb .u32 (upd D e.1 (.int .i64 (n : Int)))) : Where w mb (n + 1) (put f n e) := by
  refine ⟨_, h, fun k hk => ?_, fun x v hx => ?_⟩
  · unfold upd put
    by_cases e1 : k = n
    · subst e1; rw [if_pos rfl, if_pos rfl]
    · rw [if_neg e1, if_neg (fun e2 => hn ⟨k, by omega, e2⟩)]; exact h2 k (by omega)
  · unfold upd at hx
    by_cases e1 : x = e.1
    · exact ⟨n, by omega, by rw [put_self]; exact e1.symm⟩
    · rw [if_neg e1] at hx
      obtain ⟨k, hk, hk'⟩ := h3 x v hx
      exact ⟨k, by omega, by rw [put_ne _ (by omega)]; exact hk'⟩

/-- One place changed: all is in order but what touches it. -/
theorem up_put {n i : Nat} {f : Nat → Ent} (h : Heap n f) (e : Ent) : Up n i (put f i e) i := by
  refine ⟨Nat.le_refl _, fun j j0 jn ji jp => ?_, fun j j0 jn jp i0 => ?_, fun h => absurd rfl h⟩
  · unfold Ord; rw [put_ne _ ji, put_ne _ jp]; exact h j j0 jn
  · rw [put_ne _ (by omega), put_ne _ (by omega)]
    have h1 := h j j0 jn
    have h2 := h i i0 (by omega)
    unfold Ord at h1 h2
    rw [jp] at h1
    rw [lt_no] at *; omega
theorem up_new {n : Nat} {f : Nat → Ent} (h : Heap n f) (e : Ent) : Up (n + 1) n (put f n e) n := by
  refine ⟨Nat.le_refl _, fun j j0 jn ji jp => ?_, fun j j0 jn jp i0 => by omega, fun h => absurd rfl h⟩
  unfold Ord; rw [put_ne _ ji, put_ne _ jp]; exact h j j0 (by omega)
theorem in_put_old {n i : Nat} {f : Nat → Ent} (h : Inj n f) (hi : i < n) (x : Int) (p : Ent) : In n (put f i ((f i).1, x)) p ↔ (p.1 ≠ (f i).1 ∧ In n f p) ∨ p = ((f i).1, x) := by
  constructor
  · rintro ⟨k, hk, e⟩
    by_cases e1 : k = i
    · subst e1; rw [put_self] at e; exact Or.inr e.symm
    · rw [put_ne _ e1] at e
      exact Or.inl ⟨fun e2 => e1 (h k i hk hi (by rw [e]; exact e2)), k, hk, e⟩
  · rintro (⟨h1, k, hk, e⟩ | rfl)
    · exact ⟨k, hk, by rw [put_ne _ (by rintro rfl; rw [e] at h1; exact h1 rfl)]; exact e⟩
    · exact ⟨i, hi, put_self _ _ _⟩
theorem in_put_new {n : Nat} {f : Nat → Ent} {e : Ent} (hn : ¬ Has n f e.1) (p : Ent) : In (n + 1) (put f n e) p ↔ (p.1 ≠ e.1 ∧ In n f p) ∨ p = e := by
  constructor
  · rintro ⟨k, hk, h⟩
    by_cases e1 : k = n
    · subst e1; rw [put_self] at h; exact Or.inr h.symm
    · rw [put_ne _ e1] at h
      exact Or.inl ⟨fun e2 => hn ⟨k, by omega, by rw [h]; exact e2⟩, k, by omega, h⟩
  · rintro (⟨h1, k, hk, h⟩ | rfl)
    · exact ⟨k, by omega, by rw [put_ne _ (by omega)]; exact h⟩
    · exact ⟨n, by omega, put_self _ _ _⟩
theorem has_in {n : Nat} {f : Nat → Ent} {x : Int} : Has n f x ↔ ∃ a, In n f (x, a) := by
  constructor
  · rintro ⟨k, hk, e⟩; exact ⟨(f k).2, k, hk, by rw [← e]⟩
  · rintro ⟨a, k, hk, e⟩; exact ⟨k, hk, by rw [e]⟩
end Go.Proofs.Ytfolgjgkeheaoaa
