/- pick; the fates. -/
import Derived.Test.YtkehejkjifgieaaOnceP
import Derived.Test.YtkehejkjifgieaaPartsOpen
namespace Go.Proofs.Ytkehejkjifgieaa
open Go.RowKit Go.ChangeMaps

set_option maxRecDepth 100000 in
theorem pick_no {w : World} {b : Nat} {v : Value} {ls : List (List W8)} (h : Sr w b v ls) (i : Int) (h0 : ls.length = 0 ∨ i < 0) :
    Calls Try.prog 17 #[v, .int .i64 i] w fun e w' => e = .returned (.tuple #[.slice none 0 0, .bool false]) ∧ w' = w := by
  obtain ⟨p, c, rfl⟩ := h.slice
  clear h
  obtain ⟨n, hn⟩ : ∃ n, n = ls.length := ⟨_, rfl⟩
  rw [← hn] at h0 ⊢
  clear hn
  by_cases hz : n = 0
  · subst hz
    go_enter Try.func17, Try.ntmps17
    go_wp2
    go_ret2
    exact ⟨rfl, rfl⟩
  · have hi : i < 0 := by omega
    have hzi : ((n : Int) == 0) = false := by simp; omega
    clear h0
    go_enter Try.func17, Try.ntmps17
    go_wp2
    go_ret2
    exact ⟨rfl, rfl⟩
set_option maxRecDepth 100000 in
set_option maxHeartbeats 1000000 in
theorem pick_yes {w : World} {b : Nat} {v : Value} {ls : List (List W8)} (h : Sr w b v ls) (i : Nat) (h0 : 0 < ls.length) (hl : ∀ l ∈ ls, l.length ≤ 100000) (hn : ls.length ≤ 1000000) :
    Calls Try.prog 17 #[v, .int .i64 (i : Int)] w fun e w' => ∃ vb, e = .returned (.tuple #[vb, .bool true]) ∧ Bytes w' vb (ls.getD (i % ls.length) []) ∧ Below w.heap.size w w' := by
  have hk := Nat.mod_lt i h0
  obtain ⟨g, cap, rfl, hc, hcell⟩ := h.cell (i := i % ls.length) hk
  obtain ⟨d, hd⟩ : ∃ d, d = ls.getD (i % ls.length) [] := ⟨_, rfl⟩
  have hdl : d.length ≤ 100000 := by
    rw [hd, List.getD_eq_getElem?_getD, List.getElem?_eq_getElem hk]
    exact hl _ (List.getElem_mem _)
  rw [← hd] at hcell ⊢
  have hB := hid (bts_bytes w (str d) (by rw [str_size]; omega))
  rw [unstr_str] at hB
  have hL := hid (bts_below w (str d))
  have hcv := conv_bts w (str d)
  obtain ⟨k, hk'⟩ : ∃ k, k = i % ls.length := ⟨_, rfl⟩
  rw [← hk'] at hk hcell
  obtain ⟨n, hn'⟩ : ∃ n, n = ls.length := ⟨_, rfl⟩
  have hki : (i : Int).tmod (n : Int) = (k : Int) := by rw [Int.tmod_eq_emod_of_nonneg (by omega), hk', hn']; rfl
  rw [← hn'] at hk h0 hc hn ⊢
  have hgl : g < w.heap.size := by obtain ⟨cs, hb⟩ := Rw.kind h (k := g) rfl; exact hb.lt
  have hzi : ((n : Int) == 0) = false := by simp; omega
  have hz : ¬ (n : Int) = 0 := by omega
  have hkn : (k : Int) < (n : Int) := by omega
  have hii : ¬ (i : Int) < 0 := by omega
  clear h hd hk' hn' hl
  go_enter Try.func17, Try.ntmps17
  go_wp2
  go_ret2
  exact ⟨_, rfl, hB.out, hL.out⟩
theorem pick_any {w : World} {b : Nat} {v : Value} {ls : List (List W8)} (h : Sr w b v ls) (i : Int) (hl : ∀ l ∈ ls, l.length ≤ 100000) (hn : ls.length ≤ 1000000) :
    Calls Try.prog 17 #[v, .int .i64 i] w fun e w' => ∃ vb bb, e = .returned (.tuple #[vb, .bool bb]) ∧ (bb = true → ∃ d ∈ ls, Bytes w' vb d) ∧ Below w.heap.size w w' := by
  by_cases h0 : ls.length = 0 ∨ i < 0
  · refine (pick_no h i h0).mono ?_
    rintro e w' ⟨rfl, rfl⟩
    exact ⟨_, false, rfl, fun h => Bool.noConfusion h, Below.refl _ _⟩
  · obtain ⟨k, rfl⟩ : ∃ k : Nat, i = (k : Int) := ⟨i.toNat, by omega⟩
    have hk : k % ls.length < ls.length := Nat.mod_lt _ (by omega)
    refine (pick_yes h k (by omega) hl hn).mono ?_
    rintro e w' ⟨vb, rfl, hB, hL⟩
    refine ⟨vb, true, rfl, fun _ => ⟨_, ?_, hB⟩, hL⟩
    rw [List.getD_eq_getElem?_getD, List.getElem?_eq_getElem hk]
    exact List.getElem_mem _
theorem parts_cell1 {w : World} {p : Option Addr} {n : Nat} {X : Nat → List W8} (h : Parts w p n X) {i : Nat} (hi : i < n) : ∃ b off pv nv cv, p = some ⟨b, off, none⟩ ∧ w.cell? ⟨b, off + i, none⟩ = some (.slice pv nv cv) ∧ Bytes w (.slice pv nv cv) (X i) := by
  obtain ⟨b, off, V, h1, _, h3, h4, _⟩ := h i hi
  obtain ⟨pv, cv, rfl, hq⟩ := h4
  exact ⟨b, off, pv, _, cv, h1, h3, ⟨pv, cv, rfl, hq⟩⟩
/-- The fates' cells. -/
def Fates (w : World) (p : Option Addr) (len : Nat) : Prop :=
  ∀ i, i < len → ∃ (b off : Nat) (d a : Int) (nw : Nat), p = some ⟨b, off, none⟩ ∧ b < w.heap.size ∧ w.cell? ⟨b, off + i * 3, none⟩ = some (.int .i64 d) ∧ w.cell? ⟨b, off + i * 3 + 1, none⟩ = some (.int .i64 a) ∧ w.cell? ⟨b, off + i * 3 + 2, none⟩ = some (.int .u64 (nw : Int)) ∧ nw < 18446744073709551616
theorem Fates.below {w w' : World} {p : Option Addr} {len : Nat} (h : Fates w p len) (hb : Below w.heap.size w w') : Fates w' p len := by
  intro i hi
  obtain ⟨b, off, d, a, nw, h1, h2, h3, h4, h5, h6⟩ := h i hi
  exact ⟨b, off, d, a, nw, h1, Nat.lt_of_lt_of_le h2 hb.size, (hb.cell h2).trans h3, (hb.cell h2).trans h4, (hb.cell h2).trans h5, h6⟩
end Go.Proofs.Ytkehejkjifgieaa
