/- The live question. -/
import Derived.Test.YtfolgjgkeheaoaaDue
namespace Go.Proofs.Ytfolgjgkeheaoaa
open Go.RowKit Go.ChangeMaps

/-- Timers whose blocks all are base's or later ones. -/
def Out (base t mb : Nat) (sv : Value) : Prop := base ≤ t ∧ ∀ k, Own sv mb k → base ≤ k
theorem Out.below {base t mb : Nat} {sv : Value} {w w1 w2 : World} (h : Out base t mb sv) (hb : Below base w w1) (M : Mod (fun k => k = t ∨ Own sv mb k) w1 w2) (hw : base ≤ w.heap.size) : Below base w w2 :=
  hb.trans (M.below (Nat.le_trans hw hb.size) (fun k hk hs => by
    rcases hs with rfl | hs
    · have := h.1; omega
    · have := h.2 k hs; omega))
theorem Out.next {base t mb : Nat} {sv sv' : Value} {w : World} (h : Out base t mb sv) (hs : ∀ k, Own sv' mb k → Own sv mb k ∨ w.heap.size ≤ k) (hw : base ≤ w.heap.size) : Out base t mb sv' :=
  ⟨h.1, fun k hk => by
    rcases hs k hk with h1 | h1
    · exact h.2 k h1
    · omega⟩
theorem Out.same {base t mb : Nat} {sv sv' : Value} (h : Out base t mb sv) (hs : sv'.ownBlock = sv.ownBlock) : Out base t mb sv' :=
  ⟨h.1, fun k hk => h.2 k (by unfold Own at *; rw [hs] at hk; exact hk)⟩

theorem s1 : setL [] 1 5 = [(1, 5)] := by simp [setL, without, ins]
theorem s2 : setL [(1, 5)] 2 3 = [(2, 3), (1, 5)] := by simp [setL, without, ins, lt]
theorem s3 : dueL 5 (9 : Int).toNat [(2, 3), (1, 5)] = ([(2, 3), (1, 5)], []) := by
  rw [show (9 : Int).toNat = 6 + 1 + 1 + 1 from rfl]
  simp [dueL]
theorem s4 : ¬ (hasL [] 1 = false ∧ 1000 ≤ ([] : List Ent).length) := by simp
theorem s5 : ¬ (hasL [(1, 5)] 2 = false ∧ 1000 ≤ ([(1, 5)] : List Ent).length) := by simp
theorem two_cells {w : World} {base : Nat} {v a b : Value} {T : TypeId} (h : w.ownsRow base T 1 v 2 [a, b]) :
    ∃ g cap, w.cell? ⟨g, 0, none⟩ = some a ∧ w.cell? ⟨g, 1, none⟩ = some b ∧ g < w.heap.size ∧ v = .slice (some ⟨g, 0, none⟩) 2 cap := by
  rcases h.2 with ⟨_, h⟩ | ⟨g, cap, cur, rfl, q1, q2, q3, q4, q5, q6⟩
  · omega
  · have hb : Blk w g cur T := q2
    refine ⟨g, cap, hb.cellv ?_, hb.cellv ?_, hb.lt, rfl⟩
    · rw [← Array.getElem?_toList, ← List.getElem?_take_of_lt (show 0 < 2 * 1 by omega), q6]; rfl
    · rw [← Array.getElem?_toList, ← List.getElem?_take_of_lt (show 1 < 2 * 1 by omega), q6]; rfl

set_option maxRecDepth 100000 in
set_option maxHeartbeats 400000 in
theorem alive_c (w : World) : Calls Try.prog 9 #[] w fun e w' => e = .returned (.bool true) ∧ Below w.heap.size w w' := by
  go_enter Try.func9, Try.ntmps9
  go_wp2_with first
    | (go_at_call 10; refine (len_r R4'.out).mono ?_; rintro e w5 ⟨rfl, rfl⟩)
    | (go_at_call 12; refine (due_ok R3'.out 5 9 s3 (n := 2) rfl).mono ?_; rintro e w4 ⟨v, rfl, sv4, L4, V4, R4, M4⟩; have O4 := hid (O3.out.same L4); have R4' := hid R4; have B4' := hid (O3.out.below B3'.out M4 (Nat.le_refl _)); clear R4 L4 M4; obtain ⟨g, cap, x0, x1, hg, rfl⟩ := two_cells V4; clear V4)
    | (go_at_call 8; refine (set_ok R2'.out 2 3 s5 s2).mono ?_; rintro e w3 ⟨M3, sv3, L3, rfl, R3⟩; have O3 := hid (O2.out.next L3 B2'.out.size); have R3' := hid R3; have B3' := hid (O2.out.below B2'.out M3 (Nat.le_refl _)); clear R3 L3 M3)
    | (go_at_call 8; refine (set_ok R1'.out 1 5 s4 s1).mono ?_; rintro e w2 ⟨M2, sv2, L2, rfl, R2⟩; have O2 := hid (O1.out.next L2 B1'.out.size); have R2' := hid R2; have B2' := hid (O1.out.below B1'.out M2 (Nat.le_refl _)); clear R2 L2 M2)
    | (go_at_call 7; refine (new_r _).mono ?_; rintro e w1 ⟨t, mb, sv, rfl, L1, L1', B1, R1⟩; have O1 := hid (show Out w.heap.size t mb sv from ⟨L1, L1'⟩); have R1' := hid R1; have B1' := hid B1; clear R1 B1 L1 L1')
  go_ret
  exact ⟨rfl, B4'.out⟩
end Go.Proofs.Ytfolgjgkeheaoaa
