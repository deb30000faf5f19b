/- A map's Keep, New, Copy. -/
import Derived.Test.YtdmlldhlfofegaaDoorSmall
import Derived.Laws.Rows
namespace Go.Proofs.YtdmlldhlfofegaaDoor
open Go.RowKit

/-- The labels alone, so many of them. -/
def labX : Nat → Nat → W64
  | 0 => fun _ => 0#64
  | k + 1 => setX (labX k) k
/-- A map that keeps the first k of a list. -/
def keepX (n : Nat) (l : Nat → Nat) : Nat → Nat → W64
  | 0 => labX 4
  | k + 1 => if l k < n then setX (keepX n l k) (l k) else keepX n l k
theorem used_zero (j : Nat) : used (labX 0) j = false := by simp [used, labX]
theorem used_lab (k j : Nat) : used (labX k) j = decide (j < k) := by
  induction k with
  | zero => rw [used_zero]; simp
  | succ k ih =>
    rw [labX, used_set, ih, Bool.eq_iff_iff]
    simp; omega
theorem used_keep (n : Nat) (l : Nat → Nat) (k j : Nat) : used (keepX n l k) j = true ↔ j < 4 ∨ (j < n ∧ ∃ i, i < k ∧ l i = j) := by
  induction k with
  | zero => rw [keepX, used_lab]; simp
  | succ k ih =>
    rw [keepX]
    by_cases h : l k < n
    · rw [if_pos h, used_set]
      simp only [Bool.or_eq_true, decide_eq_true_eq, ih]
      constructor
      · rintro ((h1 | ⟨h1, i, h2, h3⟩) | h1)
        · exact Or.inl h1
        · exact Or.inr ⟨h1, i, by omega, h3⟩
        · subst h1; exact Or.inr ⟨h, k, by omega, rfl⟩
      · rintro (h1 | ⟨h1, i, h2, h3⟩)
        · exact Or.inl (Or.inl h1)
        · by_cases e : i = k
          · subst e; exact Or.inr h3.symm
          · exact Or.inl (Or.inr ⟨h1, i, by omega, h3⟩)
    · rw [if_neg h, ih]
      constructor
      · rintro (h1 | ⟨h1, i, h2, h3⟩)
        · exact Or.inl h1
        · exact Or.inr ⟨h1, i, by omega, h3⟩
      · rintro (h1 | ⟨h1, i, h2, h3⟩)
        · exact Or.inl h1
        · by_cases e : i = k
          · subst e; omega
          · exact Or.inr ⟨h1, i, by omega, h3⟩
/-- Numbers lie at a slice. -/
def U32s (w : World) (p : Option Addr) (len : Nat) (l : Nat → Nat) : Prop := ∀ i, i < len → l i < 4294967296 ∧ ∃ b off, p = some ⟨b, off, none⟩ ∧ b < w.heap.size ∧ w.cell? ⟨b, off + i, none⟩ = some (.int .u32 (l i))
theorem U32s.keep {w w' : World} {p : Option Addr} {len : Nat} {l : Nat → Nat} (h : U32s w p len l) {S : Nat → Prop} (m : Mod S w w') (hs : 0 < len → ∀ b off, p = some ⟨b, off, none⟩ → ¬ S b) : U32s w' p len l := by
  intro i hi
  obtain ⟨h0, b, off, e, h1, h2⟩ := h i hi
  exact ⟨h0, b, off, e, Nat.lt_of_lt_of_le h1 m.size, (World.cell?_of_block (w := w) (m.block b h1 (hs (by omega) b off e))).trans h2⟩

set_option maxRecDepth 100000 in
set_option maxHeartbeats 4000000 in
theorem keep_c {w : World} {b n : Nat} {X : Nat → W64} (M : MapAt w b n X) (hn : n ≤ 512) (p : Option Addr) (len cap : Nat) (l : Nat → Nat) (hl : U32s w p len l) (hp : 0 < len → ∀ c off, p = some ⟨c, off, none⟩ → c ≠ b) (hlen : len ≤ maxLen) :
    Calls Tryd.prog 19 #[.pointer (some ⟨b, 0, none⟩), .slice p len cap] w fun e w' => e = .returned (.tuple #[]) ∧ MapAt w' b n (keepX n l len) ∧ Mod (fun k => k = b) w w' := by
  unfold maxLen at hlen
  have HM := hid M
  have HL := hid hl
  have hb := Fn.lt M
  have f1 : w.frozen? ⟨b, 1, none⟩ = false := M.frozen _
  have f2 : w.frozen? ⟨b, 2, none⟩ = false := M.frozen _
  have f3 : w.frozen? ⟨b, 3, none⟩ = false := M.frozen _
  have f4 : w.frozen? ⟨b, 4, none⟩ = false := M.frozen _
  have f5 : w.frozen? ⟨b, 5, none⟩ = false := M.frozen _
  have f6 : w.frozen? ⟨b, 6, none⟩ = false := M.frozen _
  have f7 : w.frozen? ⟨b, 7, none⟩ = false := M.frozen _
  have f8 : w.frozen? ⟨b, 8, none⟩ = false := M.frozen _
  have c1 := M.word (k := 0) (by omega)
  have c2 := M.word (k := 1) (by omega)
  have c3 := M.word (k := 2) (by omega)
  have c4 := M.word (k := 3) (by omega)
  have c5 := M.word (k := 4) (by omega)
  have c6 := M.word (k := 5) (by omega)
  have c7 := M.word (k := 6) (by omega)
  have c8 := M.word (k := 7) (by omega)
  clear M hl
  go_enter Tryd.func19, Tryd.ntmps19
  go_wp2_with fail
  obtain ⟨W0, hW0⟩ : ∃ W0, W0 = ((((((((w.setCell ⟨b, 1, none⟩ (.int .u64 0)).setCell ⟨b, 2, none⟩ (.int .u64 0)).setCell ⟨b, 3, none⟩ (.int .u64 0)).setCell ⟨b, 4, none⟩ (.int .u64 0)).setCell ⟨b, 5, none⟩ (.int .u64 0)).setCell ⟨b, 6, none⟩ (.int .u64 0)).setCell ⟨b, 7, none⟩ (.int .u64 0)).setCell ⟨b, 8, none⟩ (.int .u64 0)) := ⟨_, rfl⟩
  have M0 := hid (show MapAt W0 b n (labX 0) by
    rw [hW0]
    have := (((((((HM.out.put 0 0#64).put 1 0#64).put 2 0#64).put 3 0#64).put 4 0#64).put 5 0#64).put 6 0#64).put 7 0#64
    refine Fn.congr this (fun j hj => ?_)
    by_cases e : j = 0
    · rw [if_pos e, if_pos e]
    · rw [if_neg e, if_neg e]
      have hc : j = 1 ∨ j = 2 ∨ j = 3 ∨ j = 4 ∨ j = 5 ∨ j = 6 ∨ j = 7 ∨ j = 8 := by omega
      rcases hc with rfl | rfl | rfl | rfl | rfl | rfl | rfl | rfl <;> rfl)
  have R0 := hid (show Mod (fun k => k = b) w W0 by
    rw [hW0]
    exact ((((((((Mod.refl (fun k => k = b) w).setCell (p := ⟨b, 1, none⟩) (fun _ => rfl) _).setCell (p := ⟨b, 2, none⟩) (fun _ => rfl) _).setCell (p := ⟨b, 3, none⟩) (fun _ => rfl) _).setCell (p := ⟨b, 4, none⟩) (fun _ => rfl) _).setCell (p := ⟨b, 5, none⟩) (fun _ => rfl) _).setCell (p := ⟨b, 6, none⟩) (fun _ => rfl) _).setCell (p := ⟨b, 7, none⟩) (fun _ => rfl) _).setCell (p := ⟨b, 8, none⟩) (fun _ => rfl) _)
  rw [← hW0]
  clear hW0 c1 c2 c3 c4 c5 c6 c7 c8 f1 f2 f3 f4 f5 f6 f7 f8
  go_loopg [4, 13] 4 (fun g _ v13 wr => ∃ k : Nat, v13 = .int .i64 k ∧ g = 4 - k ∧ k ≤ 4 ∧ Hid (MapAt wr b n (labX k)) ∧ Hid (Mod (fun k => k = b) w wr))
  case atStart => exact ⟨0, rfl, rfl, by omega, M0, R0⟩
  case round =>
    clear M0 R0
    obtain ⟨k, rfl, rfl, hk, M, R⟩ := hrel
    by_cases hlt : k < 4
    · go_wp2_with (go_at_call 30; refine (set_c M.out k (by omega)).mono ?_; rintro e w2 ⟨rfl, hM, hR⟩; have M2 := hid hM; have R2 := hid (R.out.trans hR); clear hM hR)
      go_roundg (4 - (k + 1))
      case measure => omega
      case rel => exact ⟨k + 1, by go_num, rfl, by omega, M2, R2⟩
    · have hk4 : k = 4 := by omega
      subst hk4
      go_wp2_with fail
      go_loopg [6, 22] len (fun g _ v22 wr => ∃ k : Nat, v22 = .int .i64 k ∧ g = len - k ∧ k ≤ len ∧ Hid (MapAt wr b n (keepX n l k)) ∧ Hid (Mod (fun k => k = b) w wr))
      case atStart => exact ⟨0, rfl, rfl, by omega, M, R⟩
      case round =>
        clear M R
        obtain ⟨k, rfl, rfl, hk, M, R⟩ := hrel
        by_cases hlt : k < len
        · obtain ⟨l0, c, off, rfl, hc1, hc2⟩ := (HL.out.keep R.out (fun c off e => hp c off e)) k hlt
          have m0 := M.out.len
          by_cases hln : l k < n
          · have HK := hid (show keepX n l (k + 1) = setX (keepX n l k) (l k) by rw [keepX, if_pos hln])
            go_wp2_with (go_at_call 30; refine (set_c M.out (l k) (by omega)).mono ?_; rintro e w2 ⟨rfl, hM, hR⟩; have M2 := hid hM; have R2 := hid (R.out.trans hR); clear hM hR)
            go_roundg (len - (k + 1))
            case measure => omega
            case rel => exact ⟨k + 1, by go_num, rfl, by omega, by rw [HK.out]; exact M2, R2⟩
          · have HK := hid (show keepX n l (k + 1) = keepX n l k by rw [keepX, if_neg hln])
            go_wp2_with fail
            go_roundg (len - (k + 1))
            case measure => omega
            case rel => exact ⟨k + 1, by go_num, rfl, by omega, by rw [HK.out]; exact M, R⟩
        · have hkl : k = len := by omega
          subst hkl
          go_wp2_with fail
          go_end0
          exact ⟨rfl, M.out, R.out⟩
end Go.Proofs.YtdmlldhlfofegaaDoor
