/- The walk of TimerFull. -/
import Derived.Test.YtfolgjgkeheaoaaAlive
namespace Go.Proofs.Ytfolgjgkeheaoaa
open Go.RowKit Go.ChangeMaps

theorem hasL_setL (m : List Ent) (id at_ x : Int) : hasL (setL m id at_) x = true ↔ x = id ∨ hasL m x = true := by
  rw [hasL_iff, hasL_iff]
  constructor
  · rintro ⟨a, ha, e⟩
    rw [setL, mem_ins, mem_without] at ha
    rcases ha with rfl | ⟨_, ha⟩
    · exact Or.inl e.symm
    · exact Or.inr ⟨a, ha, e⟩
  · rintro (rfl | ⟨a, ha, e⟩)
    · exact ⟨(x, at_), (mem_ins _ _ _).2 (Or.inl rfl), rfl⟩
    · by_cases h : x = id
      · exact ⟨(id, at_), (mem_ins _ _ _).2 (Or.inl rfl), h.symm⟩
      · exact ⟨a, (mem_ins _ _ _).2 (Or.inr ((mem_without _ _ _).2 ⟨by rw [e]; exact h, ha⟩)), e⟩
theorem setL_length_new {m : List Ent} {id at_ : Int} (h : hasL m id = false) : (setL m id at_).length = m.length + 1 := by
  unfold setL
  rw [ins_length, without_none]
  intro p hp e
  have := (hasL_iff m id).2 ⟨p, hp, e⟩
  rw [h] at this; cases this
theorem setL_length_old {w : World} {t mb : Nat} {sv : Value} {m : List Ent} {id at_ : Int} (R : Rep w t mb sv m) (h : hasL m id = true) : (setL m id at_).length = m.length := by
  unfold setL
  rw [ins_length]
  exact without_length R.ord R.ids ((hasL_iff m id).1 h)

set_option maxRecDepth 100000 in
set_option maxHeartbeats 1000000 in
theorem full_walk (a0 a1 : Int) (_ : 0 ≤ a0) (_ : a0 < 4294967296) (_ : 0 ≤ a1) (_ : a1 < 18446744073709551616) (w : World) :
    Calls Try.prog 3 #[.int .u32 a0, .int .u64 a1] w fun e w' => e = .returned (.bool true) ∧ Below w.heap.size w w' := by
  go_enter Try.func3, Try.ntmps3
  go_wp2_with (go_at_call 7; refine (new_r _).mono ?_; rintro e w1 ⟨t, mb, sv, rfl, L1, L1', B1, R1⟩; have O1 := hid (show Out w.heap.size t mb sv from ⟨L1, L1'⟩); have R1' := hid R1; have B1' := hid B1; clear R1 B1 L1 L1')
  go_loopg [6] 1000 (fun g v wr => ∃ (k : Nat) (sv' : Value) (m : List Ent), v = .int .u32 k ∧ g = 1000 - k ∧ k ≤ 1000 ∧ Hid (m.length = k) ∧ Hid (Rep wr t mb sv' m) ∧ Hid (Out w.heap.size t mb sv') ∧ Hid (Below w.heap.size w wr) ∧ Hid (∀ x, hasL m x = true ↔ ∃ j : Nat, j < k ∧ x = (a0 + j) % 4294967296))
  case atStart => exact ⟨0, sv, [], rfl, rfl, by omega, hid rfl, R1', O1, B1', hid (fun x => by simp [hasL])⟩
  case round =>
    obtain ⟨k, sv', m, hv, hg, hk, hl, R, O, B, I⟩ := hrel
    subst hv
    by_cases hk0 : k < 1000
    · have hn := hid (show hasL m ((a0 + k) % 4294967296) = false by
        rw [← Bool.not_eq_true, I.out]; rintro ⟨j, hj, e⟩; omega)
      go_wp2_with (go_at_call 8; refine (set_ok R.out _ _ (fun hc => (by have := hc.2; rw [hl.out] at this; omega)) rfl).mono ?_; rintro e w2 ⟨M2, sv2, L2, rfl, R2⟩; have O2 := hid (O.out.next L2 B.out.size); have R2' := hid R2; have B2' := hid (O.out.below B.out M2 (Nat.le_refl _)); clear R2 L2 M2)
      go_roundg (1000 - (k + 1))
      case measure => omega
      case rel =>
        refine ⟨k + 1, sv2, _, by go_num, rfl, by omega, hid ?_, R2', O2, B2', hid (fun x => ?_)⟩
        · rw [setL_length_new hn.out, hl.out]
        · rw [hasL_setL, I.out]
          constructor
          · rintro (rfl | ⟨j, hj, e⟩)
            · exact ⟨k, by omega, rfl⟩
            · exact ⟨j, by omega, e⟩
          · rintro ⟨j, hj, e⟩
            by_cases hjk : j = k
            · subst hjk; exact Or.inl e
            · exact Or.inr ⟨j, by omega, e⟩
    · have hk1 : k = 1000 := by omega
      subst hk1
      have c1 := hid (show hasL m ((a0 + 1000) % 4294967296) = false by
        rw [← Bool.not_eq_true, I.out]; rintro ⟨j, hj, e⟩; omega)
      have c2 := hid (show hasL m ((a0 + 7) % 4294967296) = true by
        rw [I.out]; exact ⟨7, by omega, rfl⟩)
      go_wp2_with first
        | (go_at_call 10; refine (len_r R4.out).mono ?_; rintro e w5 ⟨rfl, rfl⟩)
        | (go_at_call 8; refine (set_ok R3.out _ _ (fun hc => (by have := hc.1; rw [c2.out] at this; cases this)) rfl).mono ?_; rintro e w4 ⟨M4, sv4, L4, rfl, R4'⟩; have R4 := hid R4'; have O4 := hid (O3.out.next L4 B3.out.size); have B4 := hid (O3.out.below B3.out M4 (Nat.le_refl _)); clear R4' L4 M4)
        | (go_at_call 8; refine (set_no R2.out _ _ ⟨c1.out, Nat.le_of_eq hl.out.symm⟩).mono ?_; rintro e w3 ⟨M3, sv3, L3, rfl, R3'⟩; have R3 := hid R3'; have O3 := hid (O.out.next L3 B2.out.size); have B3 := hid (O.out.below B2.out M3 (Nat.le_refl _)); clear R3' L3 M3)
        | (go_at_call 9; refine (alive_c _).mono ?_; rintro e w2 ⟨rfl, hb⟩; have R2 := hid (R.out.below hb); have B2 := hid (B.out.trans (hb.mono B.out.size)); clear hb)
      go_ret
      refine ⟨ret_bool ?_, B4.out⟩
      rw [setL_length_old R3.out c2.out, hl.out]; rfl
theorem timerFull_w {w : World} (a0 : Int) (w0 : (Lit.int .u32 a0).wf = true) (a1 : Int) (w1 : (Lit.int .u64 a1).wf = true) :
    Calls Try.prog 3 #[.int .u32 a0, .int .u64 a1] w fun e w' => e = .returned (.bool true) ∧ Below w.heap.size w w' := by
  simp [Lit.wf, IntKind.min, IntKind.max, IntKind.signed, IntKind.bits] at w0 w1
  exact full_walk a0 a1 (by omega) (by omega) (by omega) (by omega) w
end Go.Proofs.Ytfolgjgkeheaoaa
