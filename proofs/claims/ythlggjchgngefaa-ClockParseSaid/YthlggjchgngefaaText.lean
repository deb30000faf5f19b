/- A time's text: the program. -/
import Derived.Test.YthlggjchgngefaaPut
namespace Go.Proofs.Ythlggjchgngefaa
open Go.RowKit

theorem bytes_str {w : World} {base n : Nat} {v : Value} {l : List UInt8} (hn : l.length = n) (hown : w.ownsRow base 5 1 v n (bv l)) : (convert 59 9 v).run Try.prog w = .ok (.string ⟨l.toArray⟩) w := by
  subst hn
  rcases hown.2 with ⟨rfl, h0⟩ | ⟨g, cap, cur, rfl, h1, h2, h3, h4, h5, h6⟩
  · have : l = [] := List.eq_nil_of_length_eq_zero h0
    subst this
    exact run_convert_bytes_nil w _ 5 Try.underlying59 Try.underlying5 0 0 _ Try.underlying9
  · refine run_convert_bytes_back _ _ _ 5 ⟨g, 0, none⟩ cap l Try.underlying59 Try.underlying5 Try.underlying9 (fun j hj => ?_)
    have hb : Blk w g cur 5 := h2
    have hp : (bv l)[j]? = some (.int .u8 (l[j].toNat : Int)) := by simp [bv, hj]
    rw [← h6, List.getElem?_take_of_lt (by omega), Array.getElem?_toList] at hp
    rw [Addr.add_mid, Nat.zero_add]
    exact hb.cellv hp
set_option maxRecDepth 100000 in
set_option maxHeartbeats 4000000 in
theorem text_yes (w : World) (t : Int) (h0 : 0 ≤ t) (h1 : t < 73049 * 86400) : Calls Try.prog 17 #[.int .u64 t] w fun e w' => TextAns t e ∧ Below w.heap.size w w' := by
  go_enter Try.func17, Try.ntmps17
  go_wp2_with (go_at_call 16; refine (split_c _ _ (by omega) (by omega)).mono ?_; rintro e w1 ⟨hA, hb1⟩; obtain ⟨y, m, d, hh, mi, s, hD, rfl⟩ := hA.yes h1; have HD := hid hD; have L1 := hid hb1; clear hA hb1 hD; unfold dv)
  obtain ⟨hv, ht, htn⟩ := HD.out
  clear htn
  obtain ⟨g1, g2, g3, g4⟩ := hv.in_
  obtain ⟨v1, v2⟩ := hv
  obtain ⟨p1, p2, p3, p4, p5, p6⟩ := ht
  obtain ⟨b1, b2⟩ := Cal.dim_range y m
  obtain ⟨W, hW⟩ : ∃ W, W = w1.alloc (.cells #[.int .i64 y, .int .i64 m, .int .i64 d, .int .i64 hh, .int .i64 mi, .int .i64 s] 23) := ⟨_, rfl⟩
  obtain ⟨B, hB⟩ : ∃ B, B = w1.heap.size := ⟨_, rfl⟩
  have C6 := six_cells w1 23 (.int .i64 y) (.int .i64 m) (.int .i64 d) (.int .i64 hh) (.int .i64 mi) (.int .i64 s) (Below.refl _ _)
  rw [← hW, ← hB] at C6
  have LW := hid (show Below w.heap.size w W by rw [hW]; exact L1.out.alloc L1.out.size _)
  have hBW : B < W.heap.size := by rw [hB, hW]; simp
  rw [← hW, ← hB]
  clear hW hB
  obtain ⟨base, hbase⟩ : ∃ base, base = W.heap.size := ⟨_, rfl⟩
  have C := C6
  have O0 := hid (show W.ownsRow W.heap.size 5 1 (.slice none 0 0) 0 (bv []) from World.ownsRow_nil _ _ _ _)
  refine (put_i _ _ _ _ W.heap.size _ _ _ (by omega) (by omega) (by decide) (by decide) (by decide) (by decide) O0.out (Nat.le_refl _)).mono ?_
  rintro e w10 ⟨u1, rfl, hO, hL⟩
  have O1 := hid hO
  have L10 := hid (hL)
  have C := carry6 L10.out hBW C6
  obtain ⟨c0, c1, c2, c3, c4, c5⟩ := C
  clear hO hL
  go_wp2_with fail
  clear c0 c1 c2 c3 c4 c5
  refine (put_i _ _ _ _ W.heap.size _ _ _ (by omega) (by omega) (by decide) (by decide) (by decide) (by decide) O1.out L10.out.size).mono ?_
  rintro e w11 ⟨u2, rfl, hO, hL⟩
  have O2 := hid hO
  have L11 := hid (L10.out.trans hL)
  have C := carry6 L11.out hBW C6
  obtain ⟨c0, c1, c2, c3, c4, c5⟩ := C
  clear hO hL
  go_wp2_with fail
  clear c0 c1 c2 c3 c4 c5
  refine (put_i _ _ _ _ W.heap.size _ _ _ (by omega) (by omega) (by decide) (by decide) (by decide) (by decide) O2.out L11.out.size).mono ?_
  rintro e w12 ⟨u3, rfl, hO, hL⟩
  have O3 := hid hO
  have L12 := hid (L11.out.trans hL)
  have C := carry6 L12.out hBW C6
  obtain ⟨c0, c1, c2, c3, c4, c5⟩ := C
  clear hO hL
  go_wp2_with fail
  clear c0 c1 c2 c3 c4 c5
  refine (put_i _ _ _ _ W.heap.size _ _ _ (by omega) (by omega) (by decide) (by decide) (by decide) (by decide) O3.out L12.out.size).mono ?_
  rintro e w13 ⟨u4, rfl, hO, hL⟩
  have O4 := hid hO
  have L13 := hid (L12.out.trans hL)
  have C := carry6 L13.out hBW C6
  obtain ⟨c0, c1, c2, c3, c4, c5⟩ := C
  clear hO hL
  go_wp2_with fail
  clear c0 c1 c2 c3 c4 c5
  refine (put_i _ _ _ _ W.heap.size _ _ _ (by omega) (by omega) (by decide) (by decide) (by decide) (by decide) O4.out L13.out.size).mono ?_
  rintro e w14 ⟨u5, rfl, hO, hL⟩
  have O5 := hid hO
  have L14 := hid (L13.out.trans hL)
  have C := carry6 L14.out hBW C6
  obtain ⟨c0, c1, c2, c3, c4, c5⟩ := C
  clear hO hL
  go_wp2_with fail
  clear c0 c1 c2 c3 c4 c5
  refine (put_i _ _ _ _ W.heap.size _ _ _ (by omega) (by omega) (by decide) (by decide) (by decide) (by decide) O5.out L14.out.size).mono ?_
  rintro e w15 ⟨u6, rfl, hO, hL⟩
  have O6 := hid hO
  have L15 := hid (L14.out.trans hL)
  have C := carry6 L15.out hBW C6
  obtain ⟨c0, c1, c2, c3, c4, c5⟩ := C
  clear hO hL
  obtain ⟨l, hl⟩ : ∃ l, l = text y m d hh mi s := ⟨_, rfl⟩
  have hcv : (convert 59 9 u6).run Try.prog w15 = .ok (.string ⟨l.toArray⟩) w15 := by
    refine bytes_str (base := W.heap.size) (n := 0 + Int.toNat 4 + 1 + Int.toNat 2 + 1 + Int.toNat 2 + 1 + Int.toNat 2 + 1 + Int.toNat 2 + 1 + Int.toNat 2 + 0) ?_ ?_
    · rw [hl]; simp [text, Cal.digs_length]
    · have := O6.out
      rw [hl]
      have e : (bv (([] : List UInt8) ++ Cal.digs (Int.toNat 4) y ++ (⟨#[45]⟩ : ByteArray).data.toList ++ Cal.digs (Int.toNat 2) m ++ (⟨#[45]⟩ : ByteArray).data.toList ++ Cal.digs (Int.toNat 2) d ++ (⟨#[84]⟩ : ByteArray).data.toList ++ Cal.digs (Int.toNat 2) hh ++ (⟨#[58]⟩ : ByteArray).data.toList ++ Cal.digs (Int.toNat 2) mi ++ (⟨#[58]⟩ : ByteArray).data.toList ++ Cal.digs (Int.toNat 2) s ++ (⟨#[]⟩ : ByteArray).data.toList)) = bv (text y m d hh mi s) := by simp [text]
      rw [e] at this
      exact this
  have HL := hid hl
  clear hl
  go_wp2
  go_ret2
  exact ⟨Or.inl ⟨h1, y, m, d, hh, mi, s, HD.out, ret2_str (by rw [← HL.out])⟩, LW.out.trans (L15.out.mono LW.out.size)⟩
set_option maxRecDepth 100000 in
set_option maxHeartbeats 2000000 in
theorem text_no (w : World) (t : Int) (h0 : 73049 * 86400 ≤ t) (h1 : t ≤ 18446744073709551615) : Calls Try.prog 17 #[.int .u64 t] w fun e w' => TextAns t e ∧ Below w.heap.size w w' := by
  go_enter Try.func17, Try.ntmps17
  go_wp2_with (go_at_call 16; refine (split_c _ _ (by omega) (by omega)).mono ?_; rintro e w1 ⟨hA, hb1⟩; obtain rfl := hA.no h0; have L1 := hid hb1; clear hA hb1; unfold dv)
  go_ret2
  exact ⟨Or.inr ⟨h0, rfl⟩, L1.out.alloc L1.out.size _⟩
theorem text_c (w : World) (t : Int) (h0 : 0 ≤ t) (h1 : t ≤ 18446744073709551615) : Calls Try.prog 17 #[.int .u64 t] w fun e w' => TextAns t e ∧ Below w.heap.size w w' := by
  by_cases h : t < 73049 * 86400
  · exact text_yes w t h0 h
  · exact text_no w t (by omega) h1
end Go.Proofs.Ythlggjchgngefaa
