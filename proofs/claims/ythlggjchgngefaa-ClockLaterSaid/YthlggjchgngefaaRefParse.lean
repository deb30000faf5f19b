/- A text as seconds: the document. -/
import Derived.Test.YthlggjchgngefaaText
namespace Go.Proofs.Ythlggjchgngefaa
open Go.RowKit

/-- A byte of a text. -/
def bt (s : ByteArray) (i : Nat) : Nat := (s.data.toList.getD i 0).toNat
theorem bt_get {s : ByteArray} {i : Nat} (h : i < s.size) : s[i].toNat = bt s i := by
  unfold bt
  have : i < s.data.toList.length := by simpa using h
  rw [List.getD_eq_getElem?_getD, List.getElem?_eq_getElem this]
  rfl
def Seps (s : ByteArray) : Prop := s.size = 19 ∧ bt s 4 = 45 ∧ bt s 7 = 45 ∧ bt s 10 = 84 ∧ bt s 13 = 58 ∧ bt s 16 = 58
def nm (s : ByteArray) (i k : Nat) : Int := numOr (Cal.num (seg s i k) 0)
def Nums (s : ByteArray) : Prop := 0 ≤ nm s 0 4 ∧ 0 ≤ nm s 5 2 ∧ 0 ≤ nm s 8 2 ∧ 0 ≤ nm s 11 2 ∧ 0 ≤ nm s 14 2 ∧ 0 ≤ nm s 17 2
def ParseAns (s : ByteArray) (e : Ending) : Prop := (Seps s ∧ Nums s ∧ JoinAns (nm s 0 4) (nm s 5 2) (nm s 8 2) (nm s 11 2) (nm s 14 2) (nm s 17 2) e) ∨ (¬ (Seps s ∧ Nums s) ∧ e = .returned (.tuple #[.int .u64 0, .int .i64 3]))
theorem ParseAns.same {s : ByteArray} {e e' : Ending} (a : ParseAns s e) (b : ParseAns s e') : e = e' := by
  rcases a with ⟨a1, a2, a3⟩ | ⟨a1, rfl⟩ <;> rcases b with ⟨b1, b2, b3⟩ | ⟨b1, rfl⟩
  · exact a3.same b3
  · exact absurd ⟨a1, a2⟩ b1
  · exact absurd ⟨b1, b2⟩ a1
  · rfl
theorem JoinAns.form {y m d h mi s : Int} {e : Ending} (a : JoinAns y m d h mi s e) : ∃ x c : Int, e = .returned (.tuple #[.int .u64 x, .int .i64 c]) ∧ JoinAns y m d h mi s (.returned (.tuple #[.int .u64 x, .int .i64 c])) := by
  rcases a with ⟨h, rfl⟩ | ⟨h, rfl⟩
  · exact ⟨_, _, rfl, Or.inl ⟨h, rfl⟩⟩
  · exact ⟨_, _, rfl, Or.inr ⟨h, rfl⟩⟩
theorem nm_hi {s : ByteArray} {i k : Nat} (h : i + k ≤ s.size) : nm s i k < 10 ^ k := by
  unfold nm
  have hl : (seg s i k).length = k := by
    unfold seg; simp; have : s.data.size = s.size := rfl; omega
  cases hq : Cal.num (seg s i k) 0 with
  | none => show -100000 < _; have : (0 : Int) < 10 ^ k := Int.pow_pos (by omega); omega
  | some x =>
    have := Cal.num_hi _ _ _ hq
    rw [hl] at this
    show x < _
    omega
theorem number_i (w : World) (s : ByteArray) (i k : Int) (hs : s.size = 19) (hi : 0 ≤ i) (hk : 0 ≤ k) (ha : i + k ≤ 19) (hm : k ≤ 4) :
    Calls Try.prog 29 #[.string s, .int .i64 i, .int .i64 k] w fun e w' => e = .returned (.int .i64 (nm s i.toNat k.toNat)) ∧ w = w' := by
  obtain ⟨i', rfl⟩ := Int.eq_ofNat_of_zero_le hi
  obtain ⟨k', rfl⟩ := Int.eq_ofNat_of_zero_le hk
  exact number_c w s i' k' hs (by omega) (by omega)

set_option maxRecDepth 100000 in
set_option maxHeartbeats 4000000 in
theorem refParse_19 (w : World) (s : ByteArray) (hs : s.size = 19) : Calls Try.prog 15 #[.string s] w fun e w' => ParseAns s e ∧ Below w.heap.size w w' := by
  have HS := hid hs
  have hb : ((s.size : Int) != 19) = false := by simp [hs]
  have h4 : 19 ≤ s.size := by omega
  have h5 : s.size ≤ 19 := by omega
  clear hs
  have g4 := hid (bt_get (s := s) (i := 4) (by omega))
  have g7 := hid (bt_get (s := s) (i := 7) (by omega))
  have g10 := hid (bt_get (s := s) (i := 10) (by omega))
  have g13 := hid (bt_get (s := s) (i := 13) (by omega))
  have g16 := hid (bt_get (s := s) (i := 16) (by omega))
  go_enter Try.func15, Try.ntmps15
  go_wp2_with (go_at_call 29; refine (number_i _ _ _ _ HS.out (by decide) (by decide) (by decide) (by decide)).mono ?_; rintro e w' ⟨rfl, rfl⟩)
  all_goals try (go_at_call 9; refine (refJoin_c _ _ _ _ _ _ _).mono ?_; rintro e w' ⟨hA, hb⟩; obtain ⟨x, c, rfl, hA'⟩ := hA.form; have HA := hid hA'; have L := hid hb; clear hA hb hA'; go_wp2)
  all_goals go_ret2
  all_goals first
    | (refine ⟨Or.inl ⟨⟨HS.out, ?_, ?_, ?_, ?_, ?_⟩, ⟨?_, ?_, ?_, ?_, ?_, ?_⟩, HA.out⟩, ((Below.refl _ _).alloc (Nat.le_refl _) _).trans (L.out.mono (by simp))⟩)
    | (refine ⟨Or.inr ⟨fun hS => ?_, rfl⟩, Below.refl _ _⟩)
    | (refine ⟨Or.inr ⟨fun hS => ?_, rfl⟩, (Below.refl _ _).alloc (Nat.le_refl _) _⟩)
  all_goals try obtain ⟨⟨_, q4, q7, q10, q13, q16⟩, n0, n5, n8, n11, n14, n17⟩ := hS
  all_goals
    have k4 := g4.out
    have k7 := g7.out
    have k10 := g10.out
    have k13 := g13.out
    have k16 := g16.out
    first
      | omega
      | (have hx := bne_iff_ne.1 (by assumption : ((s[16].toNat : Int) != 58) = true); omega)
      | (have hx : (s[16].toNat : Int) = 58 := by simpa using (by assumption : ((s[16].toNat : Int) != 58) = false)
         omega)
theorem refParse_no (w : World) (s : ByteArray) (hs : s.size ≠ 19) : Calls Try.prog 15 #[.string s] w fun e w' => ParseAns s e ∧ Below w.heap.size w w' := by
  have HS := hid hs
  have hb : ((s.size : Int) != 19) = true := by rw [bne_iff_ne]; omega
  clear hs
  go_enter Try.func15, Try.ntmps15
  go_wp2
  go_ret2
  exact ⟨Or.inr ⟨fun h => HS.out h.1.1, rfl⟩, Below.refl _ _⟩
theorem refParse_c (w : World) (s : ByteArray) : Calls Try.prog 15 #[.string s] w fun e w' => ParseAns s e ∧ Below w.heap.size w w' := by
  by_cases h : s.size = 19
  · exact refParse_19 w s h
  · exact refParse_no w s h
end Go.Proofs.Ythlggjchgngefaa
