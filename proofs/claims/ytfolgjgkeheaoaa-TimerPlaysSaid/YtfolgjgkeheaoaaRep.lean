/- Timers as a list in order; the contracts by that list. -/
import Derived.Test.YtfolgjgkeheaoaaCancel
namespace Go.Proofs.Ytfolgjgkeheaoaa
open Go.RowKit Go.ChangeMaps

def Sorted (m : List Ent) : Prop := m.Pairwise (fun a b => lt a b = true)
def ins (e : Ent) : List Ent → List Ent
  | [] => [e]
  | x :: xs => if lt e x then e :: x :: xs else x :: ins e xs
def without (m : List Ent) (id : Int) : List Ent := m.filter (fun p => decide (p.1 ≠ id))
def setL (m : List Ent) (id at_ : Int) : List Ent := ins (id, at_) (without m id)
def hasL (m : List Ent) (id : Int) : Bool := m.any (fun p => decide (p.1 = id))
/-- The first that are due, at most so many; and what stays. -/
def dueL (now : Int) : Nat → List Ent → List Ent × List Ent
  | 0, m => ([], m)
  | _ + 1, [] => ([], [])
  | k + 1, e :: m => if e.2 ≤ now then (e :: (dueL now k m).1, (dueL now k m).2) else ([], e :: m)

structure Rep (w : World) (t mb : Nat) (sv : Value) (m : List Ent) : Prop where
  ex : ∃ f, Tm w t mb sv m.length f ∧ Heap m.length f ∧ ∀ p, In m.length f p ↔ p ∈ m
  ord : Sorted m
  few : m.length ≤ 1000

theorem ids_of {n : Nat} {f : Nat → Ent} {m : List Ent} (h : Inj n f) (hi : ∀ p, In n f p ↔ p ∈ m) {a b : Ent} (ha : a ∈ m) (hb : b ∈ m) (e : a.1 = b.1) : a = b := by
  obtain ⟨i, i1, i2⟩ := (hi a).2 ha
  obtain ⟨j, j1, j2⟩ := (hi b).2 hb
  have := h i j i1 j1 (by rw [i2, j2]; exact e)
  rw [← i2, ← j2, this]
theorem lt_irrefl (a : Ent) : lt a a = false := by rw [lt_no]; omega
theorem lt_trans {a b c : Ent} (h : lt a b = true) (k : lt b c = true) : lt a c = true := by rw [lt_iff] at *; omega
theorem mem_ins (e : Ent) (m : List Ent) (p : Ent) : p ∈ ins e m ↔ p = e ∨ p ∈ m := by
  induction m with
  | nil => simp [ins]
  | cons x xs ih =>
    unfold ins; split
    · simp
    · simp [ih]; constructor <;> (intro h; rcases h with h | h | h <;> simp [h])
theorem ins_length (e : Ent) (m : List Ent) : (ins e m).length = m.length + 1 := by
  induction m with
  | nil => rfl
  | cons x xs ih => unfold ins; split <;> simp [ih]
theorem ins_sorted {e : Ent} {m : List Ent} (h : Sorted m) (hn : ∀ p ∈ m, p.1 ≠ e.1) : Sorted (ins e m) := by
  induction m with
  | nil => simp [Sorted, ins]
  | cons x xs ih =>
    obtain ⟨h1, h2⟩ := List.pairwise_cons.1 h
    unfold ins; split
    · rename_i hl
      refine List.pairwise_cons.2 ⟨fun y hy => ?_, h⟩
      rcases List.mem_cons.1 hy with rfl | hy
      · exact hl
      · exact lt_trans hl (h1 y hy)
    · rename_i hl
      refine List.pairwise_cons.2 ⟨fun y hy => ?_, ih h2 (fun p hp => hn p (List.mem_cons_of_mem _ hp))⟩
      rcases (mem_ins _ _ _).1 hy with rfl | hy
      · have := hn x List.mem_cons_self
        have hl' : lt y x = false := by simpa using hl
        rw [lt_no] at hl'; rw [lt_iff]; omega
      · exact h1 y hy
theorem without_sorted {m : List Ent} (h : Sorted m) (id : Int) : Sorted (without m id) := h.filter _
theorem mem_without (m : List Ent) (id : Int) (p : Ent) : p ∈ without m id ↔ p.1 ≠ id ∧ p ∈ m := by simp [without, and_comm]
theorem without_none {m : List Ent} {id : Int} (h : ∀ p ∈ m, p.1 ≠ id) : without m id = m := by
  unfold without; rw [List.filter_eq_self]; intro p hp; simpa using h p hp
theorem without_length {m : List Ent} {id : Int} (h : Sorted m) (hid : ∀ a ∈ m, ∀ b ∈ m, a.1 = b.1 → a = b) (hh : ∃ a ∈ m, a.1 = id) : (without m id).length + 1 = m.length := by
  induction m with
  | nil => obtain ⟨a, ha, _⟩ := hh; cases ha
  | cons x xs ih =>
    obtain ⟨h1, h2⟩ := List.pairwise_cons.1 h
    by_cases e : x.1 = id
    · have : without (x :: xs) id = xs := by
        have k : ∀ p ∈ xs, p.1 ≠ id := by
          intro p hp e2
          have := hid x List.mem_cons_self p (List.mem_cons_of_mem _ hp) (by rw [e, e2])
          have hl := h1 p hp
          rw [← this, lt_irrefl] at hl; cases hl
        have : without (x :: xs) id = without xs id := by simp [without, e]
        rw [this]; exact without_none k
      rw [this]; rfl
    · have : without (x :: xs) id = x :: without xs id := by simp [without, e]
      rw [this, List.length_cons, List.length_cons, ih h2 (fun a ha b hb => hid a (List.mem_cons_of_mem _ ha) b (List.mem_cons_of_mem _ hb))]
      obtain ⟨a, ha, hae⟩ := hh
      rcases List.mem_cons.1 ha with rfl | ha
      · exact absurd hae e
      · exact ⟨a, ha, hae⟩
theorem hasL_iff (m : List Ent) (id : Int) : hasL m id = true ↔ ∃ a ∈ m, a.1 = id := by simp [hasL]
theorem has_iff {n : Nat} {f : Nat → Ent} {m : List Ent} (hi : ∀ p, In n f p ↔ p ∈ m) (id : Int) : Has n f id ↔ ∃ a ∈ m, a.1 = id := by
  constructor
  · rintro ⟨k, hk, e⟩; exact ⟨f k, (hi _).1 ⟨k, hk, rfl⟩, e⟩
  · rintro ⟨a, ha, e⟩
    obtain ⟨k, hk, e'⟩ := (hi a).2 ha
    exact ⟨k, hk, by rw [e']; exact e⟩
theorem top_head {n : Nat} {f : Nat → Ent} {e : Ent} {m : List Ent} (hh : Heap n f) (hn : 0 < n) (hi : ∀ p, In n f p ↔ p ∈ e :: m) (hs : Sorted (e :: m)) : f 0 = e := by
  have h0 := (hi (f 0)).1 ⟨0, hn, rfl⟩
  rcases List.mem_cons.1 h0 with h | h
  · exact h
  · have := (List.pairwise_cons.1 hs).1 _ h
    obtain ⟨k, hk, ek⟩ := (hi e).2 List.mem_cons_self
    have h2 := heap_top hh k hk
    rw [ek, this] at h2; cases h2

theorem Rep.ids {w : World} {t mb : Nat} {sv : Value} {m : List Ent} (h : Rep w t mb sv m) : ∀ a ∈ m, ∀ b ∈ m, a.1 = b.1 → a = b := by
  obtain ⟨f, h1, h2, h3⟩ := h.ex
  exact fun a ha b hb e => ids_of h1.inj h3 ha hb e
theorem Rep.tm {w w' : World} {t mb : Nat} {sv : Value} {m : List Ent} (h : Rep w t mb sv m) (hk : ∀ n f, Tm w t mb sv n f → Tm w' t mb sv n f) : Rep w' t mb sv m := by
  obtain ⟨f, h1, h2, h3⟩ := h.ex
  exact ⟨⟨f, hk _ _ h1, h2, h3⟩, h.ord, h.few⟩
theorem Rep.below {w w' : World} {t mb : Nat} {sv : Value} {m : List Ent} (h : Rep w t mb sv m) (hb : Below w.heap.size w w') : Rep w' t mb sv m := h.tm fun _ _ k => k.below hb
theorem Rep.lts {w : World} {t mb : Nat} {sv : Value} {m : List Ent} (h : Rep w t mb sv m) : t < w.heap.size ∧ ∀ k, Own sv mb k → k < w.heap.size := by
  obtain ⟨f, h1, h2, h3⟩ := h.ex
  refine ⟨h1.blk.lt, ?_⟩
  rintro k (e | rfl)
  · exact h1.own_lt k e
  · exact h1.map.lt

theorem Rep.kind {w : World} {t mb : Nat} {sv : Value} {m : List Ent} (h : Rep w t mb sv m) {k : Nat} (hk : k = t ∨ Own sv mb k) {cs : Array Value} {T : TypeId} {fz : Nat × Nat} (hc : w.heap[k]? = some (.cells cs T fz)) : T = 59 ∨ T = 62 := by
  obtain ⟨f, h1, h2, h3⟩ := h.ex
  obtain ⟨D, hD, _⟩ := h1.map
  rcases hk with rfl | hk | rfl
  · have := h1.blk; unfold Blk at this; rw [hc] at this; cases this; exact Or.inl rfl
  · rcases h1.row with ⟨r, _⟩ | ⟨g', cap, cur, r1, r2, r3⟩
    · rw [r] at hk; cases hk
    · rw [r1] at hk; cases hk; unfold Blk at r2; rw [hc] at r2; cases r2; exact Or.inr rfl
  · exact absurd rfl (hD.not_cells hc)
theorem Rep.keeps {w w' : World} {t mb : Nat} {sv : Value} {m : List Ent} (h : Rep w t mb sv m) (M : Mod (fun k => k = t ∨ Own sv mb k) w w') {b : Nat} {cs : Array Value} {T : TypeId} {fz : Nat × Nat} (hc : w.heap[b]? = some (.cells cs T fz)) (h1 : T ≠ 59) (h2 : T ≠ 62) : w'.heap[b]? = some (.cells cs T fz) :=
  (M.block b (Array.getElem?_eq_some_iff.1 hc).1 (fun hs => (h.kind hs hc).elim h1 h2)).trans hc
theorem Rep.keeps_row {w w' : World} {t mb : Nat} {sv : Value} {m : List Ent} (h : Rep w t mb sv m) (M : Mod (fun k => k = t ∨ Own sv mb k) w w') {base size n : Nat} {v : Value} {xs : List Value} {T : TypeId} (ho : w.ownsRow base T size v n xs) (h1 : T ≠ 59) (h2 : T ≠ 62) : w'.ownsRow base T size v n xs := by
  refine ⟨ho.1, ?_⟩
  rcases ho.2 with k1 | ⟨g, cap, cur, rfl, k2, k3, k4⟩
  · exact Or.inl k1
  · exact Or.inr ⟨g, cap, cur, rfl, k2, h.keeps M k3 h1 h2, k4⟩
theorem Rep.apart {w w' : World} {t mb : Nat} {sv : Value} {m : List Ent} (h : Rep w t mb sv m) {S : Nat → Prop} (M : Mod S w w') (hs : ∀ k, S k → k < w.heap.size → ∃ cs T fz, w.heap[k]? = some (.cells cs T fz) ∧ T ≠ 59 ∧ T ≠ 62) : Rep w' t mb sv m := by
  have key : ∀ k, (k = t ∨ Own sv mb k) → ¬ S k := by
    intro k hk hS
    have hlt : k < w.heap.size := by
      rcases hk with rfl | hk
      · exact h.lts.1
      · exact h.lts.2 k hk
    obtain ⟨cs, T, fz, hc, h1, h2⟩ := hs k hS hlt
    exact (h.kind hk hc).elim h1 h2
  exact h.tm fun _ _ k => k.mod M (key _ (Or.inl rfl)) (key _ (Or.inr (Or.inr rfl))) (fun g hg => key _ (Or.inr (Or.inl hg)))

theorem new_r (w : World) : Calls Try.prog 7 #[] w fun e w' => ∃ t mb sv, e = .returned (.pointer (some ⟨t, 0, none⟩)) ∧ w.heap.size ≤ t ∧ (∀ k, Own sv mb k → w.heap.size ≤ k) ∧ Below w.heap.size w w' ∧ Rep w' t mb sv [] := by
  refine (new_c w).mono ?_
  rintro e w' ⟨rfl, hb, T⟩
  refine ⟨_, _, _, rfl, by omega, ?_, hb, ⟨_, T, fun j j0 jn => absurd jn (by simp), fun p => ⟨?_, fun h => by cases h⟩⟩, List.Pairwise.nil, by simp⟩
  · rintro k (h | rfl)
    · cases h
    · exact Nat.le_refl _
  · rintro ⟨k, hk, _⟩; cases hk

/-- What Set answers. -/
theorem set_r {w : World} {t mb : Nat} {sv : Value} {m : List Ent} (h : Rep w t mb sv m) (id at_ : Int) :
    Calls Try.prog 8 #[.pointer (some ⟨t, 0, none⟩), .int .u32 id, .int .u64 at_] w fun e w' => Mod (fun k => k = t ∨ Own sv mb k) w w' ∧ ∃ sv', (∀ k, Own sv' mb k → Own sv mb k ∨ w.heap.size ≤ k) ∧
      e = .returned (.int .i64 (if hasL m id = false ∧ 1000 ≤ m.length then 7 else 0)) ∧ Rep w' t mb sv' (if hasL m id = false ∧ 1000 ≤ m.length then m else setL m id at_) := by
  obtain ⟨f, h1, h2, h3⟩ := h.ex
  refine (set_c h1 h2 h.few).mono ?_
  rintro e w' ⟨x, rfl, M, F, D⟩
  refine ⟨M, ?_⟩
  have hb : hasL m id = false ↔ ¬ Has m.length f id := by rw [has_iff h3, ← hasL_iff]; simp
  by_cases hx : x = 7
  · obtain ⟨f1, f2, f3⟩ := F hx
    have c : hasL m id = false ∧ 1000 ≤ m.length := ⟨hb.2 f1, f2⟩
    rw [if_pos c, if_pos c]
    exact ⟨sv, fun _ => Or.inl, by rw [hx], ⟨f, f3, h2, h3⟩, h.ord, h.few⟩
  · obtain ⟨d1, d2, sv', n', f', d3, d3', d4, d5, d6, d7⟩ := D hx
    have c : ¬ (hasL m id = false ∧ 1000 ≤ m.length) := by
      rintro ⟨c1, c2⟩
      rcases d2 with d2 | d2
      · exact hb.1 c1 d2
      · omega
    rw [if_neg c, if_neg c]
    have hl : (setL m id at_).length = n' := by
      unfold setL
      rw [ins_length]
      by_cases hh : Has m.length f id
      · rw [d5 hh]
        exact without_length h.ord h.ids ((has_iff h3 id).1 hh)
      · rw [d6 hh, without_none]
        intro p hp e; exact hh ((has_iff h3 id).2 ⟨p, hp, e⟩)
    refine ⟨sv', d3', by rw [d1], ⟨f', by rw [hl]; exact d3, by rw [hl]; exact d4, fun p => by rw [hl, d7, setL, mem_ins, mem_without, h3, or_comm]⟩, ?_, ?_⟩
    · exact ins_sorted (without_sorted h.ord _) (fun p hp => ((mem_without _ _ _).1 hp).1)
    · rw [hl]
      by_cases hh : Has m.length f id
      · rw [d5 hh]; exact h.few
      · rw [d6 hh]
        rcases d2 with d2 | d2
        · exact absurd d2 hh
        · omega

theorem set_ok {w : World} {t mb : Nat} {sv : Value} {m : List Ent} (h : Rep w t mb sv m) (id at_ : Int) (hc : ¬ (hasL m id = false ∧ 1000 ≤ m.length)) {m' : List Ent} (hm : setL m id at_ = m') :
    Calls Try.prog 8 #[.pointer (some ⟨t, 0, none⟩), .int .u32 id, .int .u64 at_] w fun e w' => Mod (fun k => k = t ∨ Own sv mb k) w w' ∧ ∃ sv', (∀ k, Own sv' mb k → Own sv mb k ∨ w.heap.size ≤ k) ∧
      e = .returned (.int .i64 0) ∧ Rep w' t mb sv' m' := by
  subst hm
  refine (set_r h id at_).mono ?_
  rintro e w' ⟨M, sv', L, rfl, R⟩
  rw [if_neg hc] at R
  exact ⟨M, sv', L, by rw [if_neg hc], R⟩
theorem set_no {w : World} {t mb : Nat} {sv : Value} {m : List Ent} (h : Rep w t mb sv m) (id at_ : Int) (hc : hasL m id = false ∧ 1000 ≤ m.length) :
    Calls Try.prog 8 #[.pointer (some ⟨t, 0, none⟩), .int .u32 id, .int .u64 at_] w fun e w' => Mod (fun k => k = t ∨ Own sv mb k) w w' ∧ ∃ sv', (∀ k, Own sv' mb k → Own sv mb k ∨ w.heap.size ≤ k) ∧
      e = .returned (.int .i64 7) ∧ Rep w' t mb sv' m := by
  refine (set_r h id at_).mono ?_
  rintro e w' ⟨M, sv', L, rfl, R⟩
  rw [if_pos hc] at R
  exact ⟨M, sv', L, by rw [if_pos hc], R⟩

theorem cancel_r {w : World} {t mb : Nat} {sv : Value} {m : List Ent} (h : Rep w t mb sv m) (id : Int) :
    Calls Try.prog 15 #[.pointer (some ⟨t, 0, none⟩), .int .u32 id] w fun e w' => e = .returned (.bool (hasL m id)) ∧ Mod (fun k => k = t ∨ Own sv mb k) w w' ∧ ∃ sv', sv'.ownBlock = sv.ownBlock ∧ Rep w' t mb sv' (without m id) := by
  obtain ⟨f, h1, h2, h3⟩ := h.ex
  by_cases hh : Has m.length f id
  · have hl := without_length h.ord h.ids ((has_iff h3 id).1 hh)
    have hb : hasL m id = true := (hasL_iff m id).2 ((has_iff h3 id).1 hh)
    obtain ⟨i, hi, e⟩ := hh
    rw [← hl] at h1 h2 h3 hi
    refine (cancel_old h1 h2 hi e.symm).mono ?_
    rintro e w' ⟨rfl, M, sv', f', o, T, H, I⟩
    refine ⟨by rw [hb], M, sv', o, ⟨f', T, H, fun p => ?_⟩, without_sorted h.ord _, by have := h.few; omega⟩
    rw [I, mem_without, h3]
  · have hn : ∀ p ∈ m, p.1 ≠ id := fun p hp e => hh ((has_iff h3 id).2 ⟨p, hp, e⟩)
    have hb : hasL m id = false := by
      rw [← Bool.not_eq_true, hasL_iff]; rintro ⟨a, ha, e⟩; exact hn a ha e
    refine (cancel_none h1 hh).mono ?_
    rintro e w' ⟨rfl, rfl⟩
    exact ⟨by rw [hb], Mod.refl _ _, sv, rfl, by rw [without_none hn]; exact h⟩

theorem at_r {w : World} {t mb : Nat} {sv : Value} {m : List Ent} (h : Rep w t mb sv m) (id : Int) :
    Calls Try.prog 13 #[.pointer (some ⟨t, 0, none⟩), .int .u32 id] w fun e w' => e = .returned (.tuple #[.int .u64 (((m.find? (fun p => decide (p.1 = id))).map (·.2)).getD 0), .bool (hasL m id)]) ∧ w' = w := by
  obtain ⟨f, h1, h2, h3⟩ := h.ex
  by_cases hh : Has m.length f id
  · have hb : hasL m id = true := (hasL_iff m id).2 ((has_iff h3 id).1 hh)
    obtain ⟨i, hi, e⟩ := hh
    refine (at_old h1 hi e.symm).mono ?_
    rintro e' w' ⟨rfl, rfl⟩
    refine ⟨?_, rfl⟩
    have hm : f i ∈ m := (h3 _).1 ⟨i, hi, rfl⟩
    cases hf : m.find? (fun p => decide (p.1 = id)) with
    | none =>
      have := List.find?_eq_none.1 hf _ hm
      simp [e] at this
    | some p =>
      have h4 := List.find?_some hf
      have h5 := List.mem_of_find?_eq_some hf
      have : p = f i := h.ids p h5 (f i) hm (by rw [e]; simpa using h4)
      rw [hb, this]; rfl
  · have hn : ∀ p ∈ m, p.1 ≠ id := fun p hp e => hh ((has_iff h3 id).2 ⟨p, hp, e⟩)
    have hb : hasL m id = false := by
      rw [← Bool.not_eq_true, hasL_iff]; rintro ⟨a, ha, e⟩; exact hn a ha e
    refine (at_none h1 hh).mono ?_
    rintro e' w' ⟨rfl, rfl⟩
    refine ⟨?_, rfl⟩
    have : m.find? (fun p => decide (p.1 = id)) = none := List.find?_eq_none.2 (fun p hp => by simpa using hn p hp)
    rw [this, hb]; rfl

theorem len_r {w : World} {t mb : Nat} {sv : Value} {m : List Ent} (h : Rep w t mb sv m) :
    Calls Try.prog 10 #[.pointer (some ⟨t, 0, none⟩)] w fun e w' => e = .returned (.int .i64 m.length) ∧ w' = w := by
  obtain ⟨f, h1, h2, h3⟩ := h.ex
  exact len_c h1

theorem next_r {w : World} {t mb : Nat} {sv : Value} {m : List Ent} (h : Rep w t mb sv m) :
    Calls Try.prog 11 #[.pointer (some ⟨t, 0, none⟩)] w fun e w' => e = .returned (.tuple #[.int .u32 ((m.head?.map (·.1)).getD 0), .int .u64 ((m.head?.map (·.2)).getD 0), .bool m.head?.isSome]) ∧ Below w.heap.size w w' := by
  obtain ⟨f, h1, h2, h3⟩ := h.ex
  cases m with
  | nil =>
    refine (next_empty h1).mono ?_
    rintro e w' ⟨rfl, rfl⟩
    exact ⟨rfl, Below.refl _ _⟩
  | cons a m =>
    have e := top_head h2 (by simp) h3 h.ord
    refine (next_c h1 (by simp)).mono ?_
    rintro e' w' ⟨rfl, hb⟩
    rw [e]
    exact ⟨rfl, hb⟩
/-- The first one goes. -/
theorem remove_r {w : World} {t mb : Nat} {sv : Value} {a : Ent} {m : List Ent} (h : Rep w t mb sv (a :: m)) :
    Calls Try.prog 21 #[.pointer (some ⟨t, 0, none⟩), .int .i64 0] w fun e w' => e = .returned (.tuple #[]) ∧ Mod (fun k => k = t ∨ Own sv mb k) w w' ∧ ∃ sv', sv'.ownBlock = sv.ownBlock ∧ Rep w' t mb sv' m := by
  obtain ⟨f, h1, h2, h3⟩ := h.ex
  have e := top_head h2 (by simp) h3 h.ord
  refine (remove_c (m := m.length) h1 h2 (i := 0) rfl (by omega)).mono ?_
  rintro e' w' ⟨rfl, M, sv', f', o, T, H, I⟩
  refine ⟨rfl, M, sv', o, ⟨f', T, H, fun p => ?_⟩, (List.pairwise_cons.1 h.ord).2, by have := h.few; simp at this; omega⟩
  rw [I]
  have h3' := h3 p
  rw [List.length_cons] at h3'
  rw [h3', e, List.mem_cons]
  constructor
  · rintro ⟨k1, rfl | k2⟩
    · exact absurd rfl k1
    · exact k2
  · intro hp
    refine ⟨fun e2 => ?_, Or.inr hp⟩
    have := h.ids p (List.mem_cons_of_mem _ hp) a List.mem_cons_self e2
    have hl := (List.pairwise_cons.1 h.ord).1 p hp
    rw [this, lt_irrefl] at hl; cases hl
end Go.Proofs.Ytfolgjgkeheaoaa
