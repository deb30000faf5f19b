/- A date as seconds: the program and the document. -/
import Derived.Test.YthlggjchgngefaaRefSplit
import Derived.Deep.QuietTactic
namespace Go.Proofs.Ythlggjchgngefaa
open Go.RowKit

def okB (y m d h mi s : Int) : Bool := decide (1 ≤ d) && decide (d ≤ Cal.dim y m) && decide (0 ≤ h) && decide (h < 24) && decide (0 ≤ mi) && decide (mi < 60) && decide (0 ≤ s) && decide (s < 60)
theorem okB_iff {y m d h mi s : Int} : okB y m d h mi s = true ↔ Cal.valid y m d ∧ Cal.vtime h mi s := by
  unfold okB Cal.valid Cal.vtime
  simp only [Bool.and_eq_true, decide_eq_true_eq]
  constructor
  · intro h; obtain ⟨⟨⟨⟨⟨⟨⟨h1, h2⟩, h3⟩, h4⟩, h5⟩, h6⟩, h7⟩, h8⟩ := h; exact ⟨⟨h1, h2⟩, h3, h4, h5, h6, h7, h8⟩
  · rintro ⟨⟨h1, h2⟩, h3, h4, h5, h6, h7, h8⟩; exact ⟨⟨⟨⟨⟨⟨⟨h1, h2⟩, h3⟩, h4⟩, h5⟩, h6⟩, h7⟩, h8⟩
def JoinAns (y m d h mi s : Int) (e : Ending) : Prop := (okB y m d h mi s = true ∧ e = .returned (.tuple #[.int .u64 (Cal.tn y m d h mi s), .int .i64 0])) ∨ (okB y m d h mi s = false ∧ e = .returned (.tuple #[.int .u64 0, .int .i64 1]))

set_option maxRecDepth 100000 in
theorem isIn_c (w : World) (n l : Int) : Calls Try.prog 24 #[.int .i64 n, .int .i64 l] w fun e w' => e = .returned (.bool (decide (0 ≤ n ∧ n < l))) ∧ w = w' := by
  go_enter Try.func24, Try.ntmps24
  go_wp2
  all_goals
    go_ret
    refine ⟨ret_bool ?_, rfl⟩
    simp
    omega
theorem isIn_yes (w : World) {n l : Int} (h1 : 0 ≤ n) (h2 : n < l) : Calls Try.prog 24 #[.int .i64 n, .int .i64 l] w fun e w' => e = .returned (.bool true) ∧ w = w' :=
  (isIn_c w n l).mono fun _ _ ⟨h3, h4⟩ => ⟨by rw [h3, decide_eq_true ⟨h1, h2⟩], h4⟩
theorem isIn_no (w : World) {n l : Int} (h1 : n < 0 ∨ l ≤ n) : Calls Try.prog 24 #[.int .i64 n, .int .i64 l] w fun e w' => e = .returned (.bool false) ∧ w = w' :=
  (isIn_c w n l).mono fun _ _ ⟨h3, h4⟩ => ⟨by rw [h3, decide_eq_false (by omega)], h4⟩

theorem quiet_add_left {P : Program} {f : FuncId} {args : Array Value} {w : World} {a n : Nat} {v : Value}
    (h : Calls P f args (w.drewN (a + n)) fun e w' => e = .returned v ∧ w.drewN (a + n) = w') :
    Calls P f args (w.drewN (a + n)) fun e w'' => e = .returned v ∧ ∃ m, w'' = w.drewN (a + m) :=
  h.mono fun _ _ ⟨he, hm⟩ => ⟨he, n, hm.symm⟩
theorem quiet_left {P : Program} {f : FuncId} {args : Array Value} {w : World} {n : Nat} {v : Value}
    (h : Calls P f args (w.drewN n) fun e w' => e = .returned v ∧ w.drewN n = w') : Calls P f args (w.drewN n) fun e w'' => e = .returned v ∧ ∃ m, w'' = w.drewN m :=
  h.mono fun _ _ ⟨he, hm⟩ => ⟨he, n, hm.symm⟩

theorem ret2_int {k : IntKind} {a b : Int} {v : Value} (h : a = b) : Ending.returned (.tuple #[.int k a, v]) = Ending.returned (.tuple #[.int k b, v]) := by rw [h]
theorem Below.drewN {B : Nat} {a w : World} (h : Below B a w) (n : Nat) : Below B a (w.drewN n) := ⟨h.os, h.tape, h.output, h.size, h.block⟩
theorem w64 {x : Int} (h : -9223372036854775808 ≤ x) (h' : x ≤ 9223372036854775807) : wrap64 x = x := by unfold wrap64; omega
theorem wu64 {x : Int} (h : 0 ≤ x) (h' : x ≤ 18446744073709551615) : IntKind.u64.wrap x = x := by simp [IntKind.wrap, IntKind.bits, IntKind.signed]; omega
theorem join_num {Y M d T : Int} (h1 : 0 ≤ Y) (h2 : Y ≤ 100000) (h3 : 0 ≤ M) (h4 : M ≤ 1000) (h5 : 1 ≤ d) (h6 : d ≤ 31) (h7 : 0 ≤ T) (h8 : T ≤ 100000) :
    IntKind.u64.wrap (IntKind.u64.wrap (IntKind.u64.wrap (wrap64 (wrap64 (wrap64 (Y + M) + d) - 1)) * 86400) + T) = (Y + M + d - 1) * 86400 + T := by
  rw [w64 (x := Y + M) (by omega) (by omega), w64 (x := Y + M + d) (by omega) (by omega), w64 (x := Y + M + d - 1) (by omega) (by omega), wu64 (x := Y + M + d - 1) (by omega) (by omega), wu64 (x := (Y + M + d - 1) * 86400) (by omega) (by omega), wu64 (by omega) (by omega)]

set_option maxRecDepth 100000 in
set_option maxHeartbeats 2000000 in
theorem join_yes (w : World) (y m d h mi s : Int) (hv : Cal.valid y m d) (ht : Cal.vtime h mi s) : Calls Try.prog 8 #[dv y m d h mi s] w fun e w' => e = .returned (.tuple #[.int .u64 (Cal.tn y m d h mi s), .int .i64 0]) ∧ Below w.heap.size w w' := by
  have hvi := hv.in_
  have hmx := Cal.dn_max hv
  have HT := hid (show Cal.tn y m d h mi s = (Cal.yd (y - 2000).toNat + Cal.md y (m - 1).toNat + d - 1) * 86400 + (h * 3600 + mi * 60 + s) by unfold Cal.tn Cal.dn; omega)
  have hm2 : 0 ≤ Cal.yd (y - 2000).toNat + Cal.md y (m - 1).toNat + d - 1 ∧ Cal.yd (y - 2000).toNat + Cal.md y (m - 1).toNat + d - 1 < 73049 := hmx
  have m1 := Cal.md_bd y (m - 1).toNat
  have y1 := Cal.yd_bd (y - 2000).toNat
  have b := Cal.dim_range y m
  obtain ⟨hv1, hv2⟩ := hv
  obtain ⟨g1, g2, g3, g4⟩ := hvi
  obtain ⟨t1, t2, t3, t4, t5, t6⟩ := ht
  obtain ⟨m1, m2⟩ := m1
  obtain ⟨y1, y2⟩ := y1
  obtain ⟨b1, b2⟩ := b
  obtain ⟨hm2, hm3⟩ := hm2
  clear hmx
  unfold dv
  go_enter Try.func8, Try.ntmps8
  go_wp2_with fail
  go_quiet ((first | (go_at_call 12; exact quiet_left (days_c _ _ _)) | (go_at_call 24; exact quiet_left (isIn_yes _ (by omega) (by omega)))))
  go_wp2_with fail
  go_quiet ((first | (go_at_call 25; exact quiet_add_left (yearDay_c _ _ (by omega) (by omega))) | (go_at_call 26; exact quiet_add_left (monthDay_c _ _ _ (by omega) (by omega)))))
  go_wp2_with fail
  go_ret2
  refine ⟨ret2_int ?_, ?_⟩
  · rw [HT.out, show m.toNat - 1 = (m - 1).toNat by omega, join_num y1 (by omega) m1 (by omega) hv1 (by omega) (by omega) (by omega)]
  · exact Below.drewN ((Below.refl _ _).alloc (Nat.le_refl _) _) _

set_option maxRecDepth 100000 in
set_option maxHeartbeats 2000000 in
theorem join_no0 (w : World) (y m d h mi s : Int) (hd : d < 1)  : Calls Try.prog 8 #[dv y m d h mi s] w fun e w' => e = .returned (.tuple #[.int .u64 0, .int .i64 1]) ∧ Below w.heap.size w w' := by
  unfold dv
  go_enter Try.func8, Try.ntmps8
  go_wp2_with fail
  go_quiet ((first | (go_at_call 12; exact quiet_left (days_c _ _ _)) | (go_at_call 24; refine quiet_left (isIn_yes _ ?_ ?_) <;> omega) | (go_at_call 24; refine quiet_left (isIn_no _ ?_); omega)))
  go_wp2_with fail
  go_ret2
  exact ⟨rfl, Below.drewN ((Below.refl _ _).alloc (Nat.le_refl _) _) _⟩

set_option maxRecDepth 100000 in
set_option maxHeartbeats 2000000 in
theorem join_no1 (w : World) (y m d h mi s : Int) (hd : Cal.dim y m < d) (hd1 : 1 ≤ d) : Calls Try.prog 8 #[dv y m d h mi s] w fun e w' => e = .returned (.tuple #[.int .u64 0, .int .i64 1]) ∧ Below w.heap.size w w' := by
  unfold dv
  go_enter Try.func8, Try.ntmps8
  go_wp2_with fail
  go_quiet ((first | (go_at_call 12; exact quiet_left (days_c _ _ _)) | (go_at_call 24; refine quiet_left (isIn_yes _ ?_ ?_) <;> omega) | (go_at_call 24; refine quiet_left (isIn_no _ ?_); omega)))
  go_wp2_with fail
  go_ret2
  exact ⟨rfl, Below.drewN ((Below.refl _ _).alloc (Nat.le_refl _) _) _⟩

set_option maxRecDepth 100000 in
set_option maxHeartbeats 2000000 in
theorem join_no2 (w : World) (y m d h mi s : Int) (hx : h < 0 ∨ 24 ≤ h) (hd1 : 1 ≤ d) (hd2 : d ≤ Cal.dim y m) : Calls Try.prog 8 #[dv y m d h mi s] w fun e w' => e = .returned (.tuple #[.int .u64 0, .int .i64 1]) ∧ Below w.heap.size w w' := by
  unfold dv
  go_enter Try.func8, Try.ntmps8
  go_wp2_with fail
  go_quiet ((first | (go_at_call 12; exact quiet_left (days_c _ _ _)) | (go_at_call 24; refine quiet_left (isIn_yes _ ?_ ?_) <;> omega) | (go_at_call 24; refine quiet_left (isIn_no _ ?_); omega)))
  go_wp2_with fail
  go_ret2
  exact ⟨rfl, Below.drewN ((Below.refl _ _).alloc (Nat.le_refl _) _) _⟩

set_option maxRecDepth 100000 in
set_option maxHeartbeats 2000000 in
theorem join_no3 (w : World) (y m d h mi s : Int) (hx : mi < 0 ∨ 60 ≤ mi) (hd1 : 1 ≤ d) (hd2 : d ≤ Cal.dim y m) (t1 : 0 ≤ h) (t2 : h < 24) : Calls Try.prog 8 #[dv y m d h mi s] w fun e w' => e = .returned (.tuple #[.int .u64 0, .int .i64 1]) ∧ Below w.heap.size w w' := by
  unfold dv
  go_enter Try.func8, Try.ntmps8
  go_wp2_with fail
  go_quiet ((first | (go_at_call 12; exact quiet_left (days_c _ _ _)) | (go_at_call 24; refine quiet_left (isIn_yes _ ?_ ?_) <;> omega) | (go_at_call 24; refine quiet_left (isIn_no _ ?_); omega)))
  go_wp2_with fail
  go_ret2
  exact ⟨rfl, Below.drewN ((Below.refl _ _).alloc (Nat.le_refl _) _) _⟩

set_option maxRecDepth 100000 in
set_option maxHeartbeats 2000000 in
theorem join_no4 (w : World) (y m d h mi s : Int) (hx : s < 0 ∨ 60 ≤ s) (hd1 : 1 ≤ d) (hd2 : d ≤ Cal.dim y m) (t1 : 0 ≤ h) (t2 : h < 24) (t3 : 0 ≤ mi) (t4 : mi < 60) : Calls Try.prog 8 #[dv y m d h mi s] w fun e w' => e = .returned (.tuple #[.int .u64 0, .int .i64 1]) ∧ Below w.heap.size w w' := by
  unfold dv
  go_enter Try.func8, Try.ntmps8
  go_wp2_with fail
  go_quiet ((first | (go_at_call 12; exact quiet_left (days_c _ _ _)) | (go_at_call 24; refine quiet_left (isIn_yes _ ?_ ?_) <;> omega) | (go_at_call 24; refine quiet_left (isIn_no _ ?_); omega)))
  go_wp2_with fail
  go_ret2
  exact ⟨rfl, Below.drewN ((Below.refl _ _).alloc (Nat.le_refl _) _) _⟩

theorem join_c (w : World) (y m d h mi s : Int) : Calls Try.prog 8 #[dv y m d h mi s] w fun e w' => JoinAns y m d h mi s e ∧ Below w.heap.size w w' := by
  by_cases hok : okB y m d h mi s = true
  · obtain ⟨h1, h2⟩ := okB_iff.1 hok
    exact (join_yes w y m d h mi s h1 h2).mono fun _ _ ⟨e, b⟩ => ⟨Or.inl ⟨hok, e⟩, b⟩
  · have hno : okB y m d h mi s = false := by simpa using hok
    have key : ∀ {e w'}, (e = Ending.returned (.tuple #[.int .u64 0, .int .i64 1]) ∧ Below w.heap.size w w') → JoinAns y m d h mi s e ∧ Below w.heap.size w w' := fun ⟨e, b⟩ => ⟨Or.inr ⟨hno, e⟩, b⟩
    have hn : ¬ (Cal.valid y m d ∧ Cal.vtime h mi s) := fun hh => hok (okB_iff.2 hh)
    unfold Cal.valid Cal.vtime at hn
    by_cases c1 : d < 1
    · exact (join_no0 w y m d h mi s c1).mono fun _ _ x => key x
    by_cases c2 : Cal.dim y m < d
    · exact (join_no1 w y m d h mi s c2 (by omega)).mono fun _ _ x => key x
    by_cases c3 : h < 0 ∨ 24 ≤ h
    · exact (join_no2 w y m d h mi s c3 (by omega) (by omega)).mono fun _ _ x => key x
    by_cases c4 : mi < 0 ∨ 60 ≤ mi
    · exact (join_no3 w y m d h mi s c4 (by omega) (by omega) (by omega) (by omega)).mono fun _ _ x => key x
    by_cases c5 : s < 0 ∨ 60 ≤ s
    · exact (join_no4 w y m d h mi s c5 (by omega) (by omega) (by omega) (by omega) (by omega) (by omega)).mono fun _ _ x => key x
    exact absurd (by omega) hn
end Go.Proofs.Ythlggjchgngefaa
