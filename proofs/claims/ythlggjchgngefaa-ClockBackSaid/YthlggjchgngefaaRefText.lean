/- A time's text: the document. -/
import Derived.Test.YthlggjchgngefaaNumber
import Derived.Deep.RegionHeld3
import Derived.Deep.DrawnRows
namespace Go.Proofs.Ythlggjchgngefaa
open Go.RowKit
attribute [local go_sem ↓] Go.wp_at_zero Go.wp_at_succ

def text (y m d h mi s : Int) : List UInt8 := Cal.digs 4 y ++ [45] ++ Cal.digs 2 m ++ [45] ++ Cal.digs 2 d ++ [84] ++ Cal.digs 2 h ++ [58] ++ Cal.digs 2 mi ++ [58] ++ Cal.digs 2 s
def DateOf (t y m d h mi s : Int) : Prop := Cal.valid y m d ∧ Cal.vtime h mi s ∧ Cal.tn y m d h mi s = t
theorem DateOf.inj {t y m d h mi s y' m' d' h' mi' s' : Int} (a : DateOf t y m d h mi s) (b : DateOf t y' m' d' h' mi' s') : y = y' ∧ m = m' ∧ d = d' ∧ h = h' ∧ mi = mi' ∧ s = s' := by
  obtain ⟨a1, a2, a3⟩ := a
  obtain ⟨b1, b2, b3⟩ := b
  unfold Cal.tn at a3 b3
  obtain ⟨p1, p2, p3, p4, p5, p6⟩ := a2
  obtain ⟨q1, q2, q3, q4, q5, q6⟩ := b2
  obtain ⟨rfl, rfl, rfl⟩ := Cal.dn_inj a1 b1 (by omega)
  omega
def TextAns (t : Int) (e : Ending) : Prop := (t < 73049 * 86400 ∧ ∃ y m d h mi s, DateOf t y m d h mi s ∧ e = .returned (.tuple #[str (text y m d h mi s), .int .i64 0])) ∨ (73049 * 86400 ≤ t ∧ e = .returned (.tuple #[.string ⟨#[]⟩, .int .i64 4]))
theorem TextAns.same {t : Int} {e e' : Ending} (a : TextAns t e) (b : TextAns t e') : e = e' := by
  rcases a with ⟨a1, y, m, d, h, mi, s, a2, rfl⟩ | ⟨a1, rfl⟩ <;> rcases b with ⟨b1, y', m', d', h', mi', s', b2, rfl⟩ | ⟨b1, rfl⟩
  · obtain ⟨rfl, rfl, rfl, rfl, rfl, rfl⟩ := a2.inj b2; rfl
  · omega
  · omega
  · rfl
theorem SplitAns.yes {t : Int} {e : Ending} (h : SplitAns t e) (ht : t < 73049 * 86400) : ∃ y m d h mi s : Int, DateOf t y m d h mi s ∧ e = .returned (.tuple #[dv y m d h mi s, .int .i64 0]) := by
  rcases h with ⟨_, v, ⟨y, m, d, h1, h2, rfl⟩, rfl⟩ | ⟨h1, _⟩
  · exact ⟨y, m, d, _, _, _, ⟨h1, by unfold Cal.vtime; omega, by unfold Cal.tn; omega⟩, rfl⟩
  · omega
theorem SplitAns.no {t : Int} {e : Ending} (h : SplitAns t e) (ht : 73049 * 86400 ≤ t) : e = .returned (.tuple #[dv 0 0 0 0 0 0, .int .i64 4]) := by
  rcases h with ⟨h1, _⟩ | ⟨_, rfl⟩
  · omega
  · rfl
theorem six_cells (w : World) (T : TypeId) (a b c d e f : Value) {w' : World} (hb : Below (w.heap.size + 1) (w.alloc (.cells #[a, b, c, d, e, f] T)) w') :
    w'.cell? ⟨w.heap.size, 0, none⟩ = some a ∧ w'.cell? ⟨w.heap.size, 1, none⟩ = some b ∧ w'.cell? ⟨w.heap.size, 2, none⟩ = some c ∧ w'.cell? ⟨w.heap.size, 3, none⟩ = some d ∧ w'.cell? ⟨w.heap.size, 4, none⟩ = some e ∧ w'.cell? ⟨w.heap.size, 5, none⟩ = some f := by
  have h := Blk.new w #[a, b, c, d, e, f] T
  exact ⟨(hb.cell (by simp)).trans (h.cellv rfl), (hb.cell (by simp)).trans (h.cellv rfl), (hb.cell (by simp)).trans (h.cellv rfl), (hb.cell (by simp)).trans (h.cellv rfl), (hb.cell (by simp)).trans (h.cellv rfl), (hb.cell (by simp)).trans (h.cellv rfl)⟩

theorem ret2_str {a : ByteArray} {l : List UInt8} {v : Value} (h : a.data.toList = l) : Ending.returned (.tuple #[.string a, v]) = Ending.returned (.tuple #[str l, v]) := by
  unfold str; rw [← h]
theorem digits_i (w : World) (n k : Int) (h0 : 0 ≤ n) (h1 : n ≤ 10000) (k0 : 0 ≤ k) (k1 : k ≤ 10) : Calls Try.prog 32 #[.int .i64 n, .int .i64 k] w fun e w' => e = .returned (.string ⟨(Cal.digs k.toNat n).toArray⟩) ∧ Below w.heap.size w w' := by
  obtain ⟨m, rfl⟩ := Int.eq_ofNat_of_zero_le k0
  exact digits_c w n m h0 h1 (by omega)
theorem Below.step {w W w3 : World} (h1 : Below w.heap.size w W) (h2 : Below W.heap.size W w3) : Below w.heap.size w w3 := h1.trans (h2.mono h1.size)
theorem carry6 {W w3 : World} (hb : Below W.heap.size W w3) {B : Nat} (hB : B < W.heap.size) {a b c d e f : Value}
    (h : W.cell? ⟨B, 0, none⟩ = some a ∧ W.cell? ⟨B, 1, none⟩ = some b ∧ W.cell? ⟨B, 2, none⟩ = some c ∧ W.cell? ⟨B, 3, none⟩ = some d ∧ W.cell? ⟨B, 4, none⟩ = some e ∧ W.cell? ⟨B, 5, none⟩ = some f) :
    w3.cell? ⟨B, 0, none⟩ = some a ∧ w3.cell? ⟨B, 1, none⟩ = some b ∧ w3.cell? ⟨B, 2, none⟩ = some c ∧ w3.cell? ⟨B, 3, none⟩ = some d ∧ w3.cell? ⟨B, 4, none⟩ = some e ∧ w3.cell? ⟨B, 5, none⟩ = some f :=
  ⟨(hb.cell (p := ⟨B, 0, none⟩) hB).trans h.1, (hb.cell (p := ⟨B, 1, none⟩) hB).trans h.2.1, (hb.cell (p := ⟨B, 2, none⟩) hB).trans h.2.2.1, (hb.cell (p := ⟨B, 3, none⟩) hB).trans h.2.2.2.1, (hb.cell (p := ⟨B, 4, none⟩) hB).trans h.2.2.2.2.1, (hb.cell (p := ⟨B, 5, none⟩) hB).trans h.2.2.2.2.2⟩
theorem bcell {W w1 : World} (hb : Below W.heap.size W w1) : (∀ b o, b < W.heap.size → w1.cell? ⟨b, o, none⟩ = W.cell? ⟨b, o, none⟩) :=
  fun b o h => hb.cell (p := ⟨b, o, none⟩) h
set_option maxRecDepth 100000 in
set_option maxHeartbeats 8000000 in
theorem refText_yes (w : World) (t : Int) (h0 : 0 ≤ t) (h1 : t < 73049 * 86400) : Calls Try.prog 19 #[.int .u64 t] w fun e w' => TextAns t e ∧ Below w.heap.size w w' := by
  go_enter Try.func19, Try.ntmps19
  go_wp2_with (go_at_call 18; refine (refSplit_c _ _ (by omega) (by omega)).mono ?_; rintro e w1 ⟨hA, hb1⟩; obtain ⟨y, m, d, hh, mi, s, hD, rfl⟩ := hA.yes h1; have HD := hid hD; have L1 := hid hb1; clear hA hb1 hD; unfold dv)
  obtain ⟨hv, ht, htn⟩ := HD.out
  clear htn
  obtain ⟨g1, g2, g3, g4⟩ := hv.in_
  obtain ⟨v1, v2⟩ := hv
  obtain ⟨p1, p2, p3, p4, p5, p6⟩ := ht
  obtain ⟨b1, b2⟩ := Cal.dim_range y m
  obtain ⟨W, hW⟩ : ∃ W, W = w1.alloc (.cells #[.int .i64 y, .int .i64 m, .int .i64 d, .int .i64 hh, .int .i64 mi, .int .i64 s] 29) := ⟨_, rfl⟩
  obtain ⟨B, hB⟩ : ∃ B, B = w1.heap.size := ⟨_, rfl⟩
  have C6 := six_cells w1 29 (.int .i64 y) (.int .i64 m) (.int .i64 d) (.int .i64 hh) (.int .i64 mi) (.int .i64 s) (Below.refl _ _)
  rw [← hW, ← hB] at C6
  have LW := hid (show Below w.heap.size w W by rw [hW]; exact L1.out.alloc L1.out.size _)
  have hBW : B < W.heap.size := by rw [hB, hW]; simp
  rw [← hW, ← hB]
  clear hW hB
  have hW2 : W.drew.heap.size = W.heap.size := rfl
  clear hW2
  have LD : Below w.heap.size w W.drew := LW.out.drew
  have hBD : B < W.drew.heap.size := hBW
  have l1 : (Cal.digs 4 y).length = 4 := Cal.digs_length _ _
  have l2 : (Cal.digs 2 m).length = 2 := Cal.digs_length _ _
  have l3 : (Cal.digs 2 d).length = 2 := Cal.digs_length _ _
  have l4 : (Cal.digs 2 hh).length = 2 := Cal.digs_length _ _
  have l5 : (Cal.digs 2 mi).length = 2 := Cal.digs_length _ _
  have l6 : (Cal.digs 2 s).length = 2 := Cal.digs_length _ _
  go_region_held3 (fun w' => w'.cell? ⟨B, 0, none⟩ = some (.int .i64 y) ∧ w'.cell? ⟨B, 1, none⟩ = some (.int .i64 m) ∧ w'.cell? ⟨B, 2, none⟩ = some (.int .i64 d) ∧ w'.cell? ⟨B, 3, none⟩ = some (.int .i64 hh) ∧ w'.cell? ⟨B, 4, none⟩ = some (.int .i64 mi) ∧ w'.cell? ⟨B, 5, none⟩ = some (.int .i64 s))
    (first | assumption | go_keep)
    (first
      | (go_at_call 32; refine (digits_i _ _ _ (by omega) (by omega) (by decide) (by decide)).mono ?_; rintro e w3 ⟨rfl, hb⟩; have k3 := carry6 hb (by assumption) (by assumption); have hz3 : B < w3.heap.size := (Nat.lt_of_lt_of_le (by assumption) hb.size); have L3 : Below w.heap.size w w3 := Below.step (by assumption) hb; clear hb))
  go_wp2_with fail
  go_ret2
  exact ⟨Or.inl ⟨h1, y, m, d, hh, mi, s, HD.out, ret2_str (by simp [text])⟩, L3⟩
set_option maxRecDepth 100000 in
set_option maxHeartbeats 2000000 in
theorem refText_no (w : World) (t : Int) (h0 : 73049 * 86400 ≤ t) (h1 : t ≤ 18446744073709551615) : Calls Try.prog 19 #[.int .u64 t] w fun e w' => TextAns t e ∧ Below w.heap.size w w' := by
  go_enter Try.func19, Try.ntmps19
  go_wp2_with (go_at_call 18; refine (refSplit_c _ _ (by omega) (by omega)).mono ?_; rintro e w1 ⟨hA, hb1⟩; obtain rfl := hA.no h0; have L1 := hid hb1; clear hA hb1; unfold dv)
  go_ret2
  exact ⟨Or.inr ⟨h0, rfl⟩, L1.out.alloc L1.out.size _⟩
theorem refText_c (w : World) (t : Int) (h0 : 0 ≤ t) (h1 : t ≤ 18446744073709551615) : Calls Try.prog 19 #[.int .u64 t] w fun e w' => TextAns t e ∧ Below w.heap.size w w' := by
  by_cases h : t < 73049 * 86400
  · exact refText_yes w t h0 h
  · exact refText_no w t (by omega) h1
end Go.Proofs.Ythlggjchgngefaa
