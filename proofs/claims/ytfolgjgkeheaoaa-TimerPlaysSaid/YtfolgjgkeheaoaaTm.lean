/- The contracts of less and swap over timers as a function from places to entries. -/
import Derived.Test.YtfolgjgkeheaoaaSwap
namespace Go.Proofs.Ytfolgjgkeheaoaa
open Go.RowKit Go.ChangeMaps

def Own (sv : Value) (mb : Nat) : Nat → Prop := fun k => sv.ownBlock = some k ∨ k = mb

theorem Where.mono {w w' : World} {mb n : Nat} {f : Nat → Ent} (h : Where w mb n f) (hb : w'.heap[mb]? = w.heap[mb]?) : Where w' mb n f := by
  obtain ⟨D, h1, h2⟩ := h
  exact ⟨D, h1.of_block hb, h2⟩
theorem Where.lt {w : World} {mb n : Nat} {f : Nat → Ent} (h : Where w mb n f) : mb < w.heap.size := by
  obtain ⟨D, h1, h2⟩ := h
  exact h1.lt
theorem Tm.of_blocks {w w' : World} {t mb n : Nat} {sv : Value} {f : Nat → Ent} (h : Tm w t mb sv n f) (h1 : w'.heap[t]? = w.heap[t]?) (h2 : w'.heap[mb]? = w.heap[mb]?)
    (h3 : ∀ g, sv.ownBlock = some g → w'.heap[g]? = w.heap[g]?) : Tm w' t mb sv n f := by
  refine ⟨h.blk.of_block h1, ?_, h.map.mono h2, h.inj, h.few⟩
  rcases h.row with r | ⟨g, cap, cur, r1, r2, r3⟩
  · exact Or.inl r
  · exact Or.inr ⟨g, cap, cur, r1, r2.of_block (h3 g (by rw [r1]; rfl)), r3⟩
theorem Tm.own_lt {w : World} {t mb n : Nat} {sv : Value} {f : Nat → Ent} (h : Tm w t mb sv n f) : ∀ g, sv.ownBlock = some g → g < w.heap.size := by
  intro g hg
  rcases h.row with ⟨r, _⟩ | ⟨g', cap, cur, r1, r2, r3⟩
  · rw [r] at hg; cases hg
  · rw [r1] at hg; cases hg; exact r2.lt
theorem Tm.below {w w' : World} {t mb n : Nat} {sv : Value} {f : Nat → Ent} (h : Tm w t mb sv n f) (hb : Below w.heap.size w w') : Tm w' t mb sv n f :=
  h.of_blocks (hb.block t h.blk.lt) (hb.block mb h.map.lt) (fun g hg => hb.block g (h.own_lt g hg))
theorem Tm.drew {w : World} {t mb n : Nat} {sv : Value} {f : Nat → Ent} (h : Tm w t mb sv n f) : Tm w.drew t mb sv n f := h.of_blocks rfl rfl (fun _ _ => rfl)
theorem Tm.mod {w w' : World} {t mb n : Nat} {sv : Value} {f : Nat → Ent} (h : Tm w t mb sv n f) {S : Nat → Prop} (m : Mod S w w') (h1 : ¬ S t) (h2 : ¬ S mb) (h3 : ∀ g, sv.ownBlock = some g → ¬ S g) : Tm w' t mb sv n f :=
  h.of_blocks (m.block t h.blk.lt h1) (m.block mb h.map.lt h2) (fun g hg => m.block g (h.own_lt g hg) (h3 g hg))
theorem Tm.pos {w : World} {t mb n : Nat} {sv : Value} {f : Nat → Ent} (h : Tm w t mb sv n f) (hn : 0 < n) :
    ∃ g cap cur, sv = .slice (some ⟨g, 0, none⟩) n cap ∧ Blk w g cur 62 ∧ n ≤ cap ∧ cap ≤ maxLen ∧ cur.size = cap * 2 ∧ Ents cur n f := by
  rcases h.row with ⟨_, r⟩ | r
  · omega
  · exact r

theorem less_c {w : World} {t mb n : Nat} {sv : Value} {f : Nat → Ent} (h : Tm w t mb sv n f) {i j : Nat} {x y : Int} (hx : x = i) (hy : y = j) (hi : i < n) (hj : j < n) :
    Calls Try.prog 26 #[.pointer (some ⟨t, 0, none⟩), .int .i64 x, .int .i64 y] w fun e w' => e = .returned (.bool (lt (f i) (f j))) ∧ Below w.heap.size w w' := by
  subst hx; subst hy
  obtain ⟨g, cap, cur, rfl, hb, h1, h2, h3, h4⟩ := h.pos (by omega)
  exact less_raw t g i j n cap (f i).1 (f j).1 (f i).2 (f j).2 w h.blk.lt hb.lt (h.blk.cellv rfl) hi hj h.few h1 (hb.cellv (h4 i hi).1) (hb.cellv (h4 i hi).2) (hb.cellv (h4 j hj).1) (hb.cellv (h4 j hj).2)

theorem swap_c {w : World} {t mb n : Nat} {sv : Value} {f : Nat → Ent} (h : Tm w t mb sv n f) {i j : Nat} {x y : Int} (hx : x = i) (hy : y = j) (hi : i < n) (hj : j < n) :
    Calls Try.prog 25 #[.pointer (some ⟨t, 0, none⟩), .int .i64 x, .int .i64 y] w fun e w' => e = .returned (.tuple #[]) ∧ Tm w' t mb sv n (sw f i j) ∧ Mod (Own sv mb) w w' := by
  subst hx; subst hy
  obtain ⟨g, cap, cur, rfl, hb, h1, h2, h3, h4⟩ := h.pos (by omega)
  obtain ⟨D, hD, hD1, hD2⟩ := h.map
  refine (swap_raw t g mb i j n cap (f i).1 (f j).1 (f i).2 (f j).2 w cur D h.blk hb hD hi hj h.few (h4 i hi).1 (h4 i hi).2 (h4 j hj).1 (h4 j hj).2).mono ?_
  rintro e w' ⟨he, k1, k2, k3, k4⟩
  refine ⟨he, ⟨k1, Or.inr ⟨g, cap, _, rfl, k2, h1, h2, by simp [h3], h4.sw hi hj (by omega)⟩, ⟨_, k3, ?_, ?_⟩, inj_sw hi hj h.inj, h.few⟩, k4.weaken ?_⟩
  · intro k hk
    unfold upd sw
    by_cases e1 : k = i
    · subst e1
      rw [if_pos rfl]
      by_cases e2 : (f j).1 = (f k).1
      · have := h.inj j k hj hk e2; subst this; rw [if_pos rfl]
      · rw [if_neg e2, if_pos rfl]
    · rw [if_neg e1]
      by_cases e2 : k = j
      · subst e2; rw [if_pos rfl, if_pos rfl]
      · rw [if_neg e2, if_neg (fun e => e1 (h.inj _ _ hk hi e)), if_neg (fun e => e2 (h.inj _ _ hk hj e))]; exact hD1 k hk
  · intro x v hx
    have key : ∃ k, k < n ∧ (f k).1 = x := by
      unfold upd at hx
      by_cases e1 : x = (f i).1
      · exact ⟨i, hi, e1.symm⟩
      · rw [if_neg e1] at hx
        by_cases e2 : x = (f j).1
        · exact ⟨j, hj, e2.symm⟩
        · rw [if_neg e2] at hx; exact hD2 x v hx
    obtain ⟨k, hk, e⟩ := key
    obtain ⟨k', hk', e'⟩ := (in_sw hi hj (f k)).2 ⟨k, hk, rfl⟩
    exact ⟨k', hk', by rw [e']; exact e⟩
  · rintro k _ (rfl | rfl)
    · exact Or.inl rfl
    · exact Or.inr rfl
theorem Own.not_t {w : World} {t mb n : Nat} {sv : Value} {f : Nat → Ent} (h : Tm w t mb sv n f) : ¬ Own sv mb t := by
  obtain ⟨D, hD, hD1, hD2⟩ := h.map
  rintro (e | e)
  · rcases h.row with ⟨r, _⟩ | ⟨g', cap, cur, r1, r2, r3⟩
    · rw [r] at e; cases e
    · rw [r1] at e; cases e; exact h.blk.ne r2 (by decide) rfl
  · subst e; exact hD.not_cells h.blk rfl
end Go.Proofs.Ytfolgjgkeheaoaa
