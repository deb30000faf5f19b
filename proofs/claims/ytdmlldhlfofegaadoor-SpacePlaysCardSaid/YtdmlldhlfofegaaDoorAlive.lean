/- The live question of the map; no map: nothing. -/
import Derived.Test.YtdmlldhlfofegaaDoorTakeNo
import Derived.Deep.AppendLies
namespace Go.Proofs.YtdmlldhlfofegaaDoor
open Go.RowKit

theorem lab_fun (k : Nat) : used (labX k) = fun j => decide (j < k) := funext (used_lab k)
theorem tight_lab {n k : Nat} (h : k ≤ n) : Tight n (labX k) := fun i hi _ => by rw [used_lab, decide_eq_false (by omega)]
theorem ends_lab : Ends (used (labX 4)) 2 6 := by
  rw [lab_fun]
  exact ⟨by decide, by omega, fun _ => ⟨by omega, by decide⟩⟩
theorem frees_lab : frees (used (labX 4)) 6 = [4, 5] := by rw [lab_fun]; decide
theorem frees_lab16 : 2 ≤ (frees (used (labX 4)) 16).length := by rw [lab_fun]; decide
theorem two_row {w : World} {base : Nat} {vv : Value} {a c : Value} (h : w.ownsRow base 33 1 vv 2 [a, c]) : ∃ g cap, vv = .slice (some ⟨g, 0, none⟩) 2 cap ∧ g < w.heap.size ∧ w.cell? ⟨g, 0, none⟩ = some a ∧ w.cell? ⟨g, 1, none⟩ = some c := by
  obtain ⟨g, cap, rfl, _, hlt⟩ := h.form (by omega)
  have hc := h.cells (g := g) rfl
  exact ⟨g, cap, rfl, hlt, hc 0 a rfl, hc 1 c rfl⟩
set_option maxRecDepth 100000 in
set_option maxHeartbeats 2000000 in
theorem alive_c {w : World} (T : Tab w) : Calls Tryd.prog 9 #[] w fun e w' => e = .returned (.bool true) ∧ Below w.heap.size w w' := by
  have h0 := T.lt
  go_enter Tryd.func9, Tryd.ntmps9
  go_wp2_with fail
  refine (new_yes w 16 (by omega) (by omega)).mono ?_
  rintro e w1 ⟨b, hb, rfl, M1, L1⟩
  have T1 := T.below L1 h0
  have hb0 : b ≠ 0 := by omega
  have HM1 := hid M1; have HL1 := hid L1; have HT1 := hid T1
  clear M1 L1 T1 T
  go_wp2_with fail
  refine (take_yes HM1.out HT1.out hb0 (by omega) (tight_lab (by omega)) 2 (by omega) frees_lab16).mono ?_
  rintro e w2 ⟨vv, p, X', rfl, hE, hp, hX, M2, O2, R2⟩
  have hp6 := hE.inj ends_lab
  subst hp6
  rw [frees_lab] at O2
  obtain ⟨g, cap, rfl, hg, c0, c1⟩ := two_row O2
  have HF := hid (free_c M2 (by omega) (fun i hi _ => by rw [hX, used_lab, decide_eq_false (by omega), decide_eq_false (by omega)]; rfl))
  have hcnt : cnt (used X') 16 = 6 := by
    have : used X' = fun j => (decide (j < 4) || decide (j < 6)) := funext (fun j => by rw [hX, used_lab])
    rw [this]; decide
  rw [hcnt] at HF
  have HL2 := hid (show Below w.heap.size w w2 from (HL1.out.trans (R2.below HL1.out.size (fun k hk e => by omega))))
  clear hE hp hX M2 O2 R2 hcnt
  go_wp2_with (first | (go_at_call 12; refine (take_arg _ _ _ (by decide)).mono ?_; rintro e w' ⟨rfl, rfl⟩) | (go_at_call 11; refine HF.out.mono ?_; rintro e w' ⟨rfl, rfl⟩))
  go_ret
  exact ⟨rfl, HL2.out⟩
end Go.Proofs.YtdmlldhlfofegaaDoor
