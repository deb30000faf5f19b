/- The reader of a stream's parts: bytes, one byte, an error. -/
import Derived.Test.YtpbkdjnogjmfcaaStrm
import Derived.Test.YtpbkdjnogjmfcaaNum7
import Derived.Laws.Rows
import Derived.Great.BuildSlice
namespace Go.Proofs.Ytpbkdjnogjmfcaa
open Go.RowKit Go.ChangeMaps

theorem Bytes.mod' {S : Nat → Prop} {w w' : World} {v : Value} {xs : List W8} (h : Bytes w v xs) (hm : Mod S w w') (hs : 0 < xs.length → ∀ k, v.ownBlock = some k → ¬ S k) : Bytes w' v xs := by
  obtain ⟨p, cap, rfl, hc⟩ := h
  refine ⟨p, cap, rfl, fun hx => ?_⟩
  obtain ⟨b, off, rfl, h1, h2, h3, h4⟩ := hc hx
  have := hm.block b h1 (hs hx b rfl)
  exact ⟨b, off, rfl, Nat.lt_of_lt_of_le h1 hm.size, h2, h3, h4.of_block this⟩
theorem Bytes.lt {w : World} {v : Value} {xs : List W8} (h : Bytes w v xs) (h0 : 0 < xs.length) : ∀ k, v.ownBlock = some k → k < w.heap.size := by
  obtain ⟨p, cap, rfl, hc⟩ := h
  obtain ⟨b, off, rfl, h1, _⟩ := hc h0
  intro k hk
  have : b = k := Option.some.inj hk
  omega
theorem Bytes.form {w : World} {v : Value} {xs : List W8} (h : Bytes w v xs) : ∃ p m c, v = .slice p m c := by obtain ⟨p, c, h, _⟩ := h; exact ⟨p, _, c, h⟩
/-- The reader at r: what is left, and the error. Its bytes lie in none of the blocks N. -/
def Rd (T : TypeId) (w : World) (r : Nat) (N : Nat → Prop) (t : Tp) : Prop := ∃ vb, Blk w r #[vb, .int .i64 t.2] T ∧ Bytes w vb t.1 ∧ (0 < t.1.length → ∀ k, vb.ownBlock = some k → ¬ N k)
theorem Rd.lt {T : TypeId} {w : World} {r : Nat} {N : Nat → Prop} {t : Tp} (h : Rd T w r N t) : r < w.heap.size := by obtain ⟨_, h1, _⟩ := h; exact h1.lt
theorem Rd.mod {T : TypeId} {S : Nat → Prop} {w w' : World} {r : Nat} {N : Nat → Prop} {t : Tp} (h : Rd T w r N t) (m : Mod S w w') (hr : ¬ S r) (hN : ∀ k, S k → N k) : Rd T w' r N t := by
  obtain ⟨vb, h1, h2, h3⟩ := h
  exact ⟨vb, m.blk h1 hr, h2.mod' m (fun h0 k hk hs => h3 h0 k hk (hN k hs)), h3⟩
theorem Rd.below {T : TypeId} {w w' : World} {r : Nat} {N : Nat → Prop} {t : Tp} (h : Rd T w r N t) (hb : Below w.heap.size w w') : Rd T w' r N t := by
  obtain ⟨vb, h1, h2, h3⟩ := h
  exact ⟨vb, h1.of_block (hb.block r h1.lt), h2.below hb, h3⟩
/-- New blocks are none of the reader's. -/
theorem Rd.grow {T : TypeId} {w : World} {r : Nat} {N N' : Nat → Prop} {t : Tp} (h : Rd T w r N t) (hN : ∀ k, N' k → N k ∨ w.heap.size ≤ k) : Rd T w r N' t := by
  obtain ⟨vb, h1, h2, h3⟩ := h
  refine ⟨vb, h1, h2, fun h0 k hk hn => ?_⟩
  have := h2.lt h0 k hk
  rcases hN k hn with h | h
  · exact h3 h0 k hk h
  · omega
/-- What is stored into the reader. -/
theorem Rd.put {T : TypeId} {w w1 w' : World} {r : Nat} {N : Nat → Prop} {vb v2 : Value} {e e' : Int} {xs : List W8} (B : Blk w r #[vb, .int .i64 e] T) (L : Below w.heap.size w w1) (hr : N r)
    (hw : w' = (w1.setCell ⟨r, 1, none⟩ (.int .i64 e')).setCell ⟨r, 0, none⟩ v2) (hv : Bytes w1 v2 xs) (ho : 0 < xs.length → ∀ k, v2.ownBlock = some k → ¬ N k) : Rd T w' r N (xs, e') ∧ Mod (fun k => k = r) w1 w' ∧ Mod (fun k => k = r) w w' := by
  have B1 := B.of_block (L.block r B.lt)
  have M : Mod (fun k => k = r) w1 w' := by rw [hw]; exact ((Mod.refl (fun k => k = r) w1).setCell (p := ⟨r, 1, none⟩) (fun _ => rfl) _).setCell (p := ⟨r, 0, none⟩) (fun _ => rfl) _
  refine ⟨⟨v2, ?_, hv.mod' M (fun h0 k hk e => ho h0 k hk (by rw [e]; exact hr)), ho⟩, M, (Mod.of_below L _).trans M⟩
  rw [hw]
  exact (B1.set 1 _).set 0 _
theorem Rd.put1 {T : TypeId} {w w1 w' : World} {r : Nat} {N : Nat → Prop} {vb : Value} {e e' : Int} {xs : List W8} (B : Blk w r #[vb, .int .i64 e] T) (L : Below w.heap.size w w1) (hr : N r)
    (hw : w' = w1.setCell ⟨r, 1, none⟩ (.int .i64 e')) (hv : Bytes w vb xs) (ho : 0 < xs.length → ∀ k, vb.ownBlock = some k → ¬ N k) : Rd T w' r N (xs, e') ∧ Mod (fun k => k = r) w w' := by
  have B1 := B.of_block (L.block r B.lt)
  have M : Mod (fun k => k = r) w1 w' := by rw [hw]; exact ((Mod.refl (fun k => k = r) w1).setCell (p := ⟨r, 1, none⟩) (fun _ => rfl) _)
  have M2 := (Mod.of_below L (fun k => k = r)).trans M
  refine ⟨⟨vb, ?_, hv.mod' M2 (fun h0 k hk e => ho h0 k hk (by rw [e]; exact hr)), ho⟩, M2⟩
  rw [hw]
  exact B1.set 1 _
theorem tBytes_no {n : Nat} {xs : List W8} (h : ¬ n ≤ xs.length) : tBytes n (xs, 0) = ([], (xs, 2)) := (if_pos rfl).trans (if_neg h)
theorem tBytes_yes {n : Nat} {xs : List W8} (h : n ≤ xs.length) : tBytes n (xs, 0) = (xs.take n, (xs.drop n, 0)) := (if_pos rfl).trans (if_pos h)
/-- A cell and its mark in a later world. -/
theorem cell_later {w w1 : World} (L : Below w.heap.size w w1) {b : Nat} {cs : Array Value} {T : TypeId} (B : Blk w b cs T) {i : Nat} {v : Value} (hv : cs[i]? = some v) : w1.cell? ⟨b, i, none⟩ = some v ∧ w1.frozen? ⟨b, i, none⟩ = false :=
  have B1 := B.of_block (L.block b B.lt)
  ⟨B1.cellv hv, B1.frozen i⟩
set_option maxRecDepth 100000 in
set_option maxHeartbeats 1000000 in
theorem rdBytes_c {w : World} {r : Nat} {N : Nat → Prop} {t : Tp} (H : Rd 55 w r N t) (hN : ∀ k, N k → k < w.heap.size) (hr : N r) (hl : t.1.length ≤ 100000) (n : Nat) (hn : n ≤ 1000000) :
    Calls Try.prog 47 #[.pointer (some ⟨r, 0, none⟩), .int .i64 n] w fun e w' => ∃ v, e = .returned v ∧ Ow w' w.heap.size v (tBytes n t).1 ∧ Rd 55 w' r N (tBytes n t).2 ∧ Mod (fun k => k = r) w w' := by
  obtain ⟨vb, B, hb, ho⟩ := H
  obtain ⟨xs, ec⟩ := t
  simp only at B hb ho hl
  by_cases he : ec = 0
  · subst he
    have c0 := B.cellv (i := 0) rfl
    have c1 := B.cellv (i := 1) rfl
    have C0 := takeBytes_c hb hl n (by omega)
    have BH := hid B; have HB := hid hb; have HO := hid ho; have HN := hid hN; have HR := hid hr
    by_cases hk : n ≤ xs.length
    · have hT := hid (tBytes_yes hk)
      simp only [hk, if_true] at C0
      have C := hid C0
      clear C0
      clear B hb ho hN hr
      go_enter Try.func47, Try.ntmps47
      go_wp2_with (go_at_call 58; refine C.out.mono ?_; rintro e w1 ⟨⟨v1, v2, rfl, O1, O2⟩, L1⟩; obtain ⟨p2, m2, c2, rfl⟩ := O2.bytes.form; obtain ⟨d0, f0⟩ := cell_later L1 BH.out (i := 0) rfl; obtain ⟨d1, f1⟩ := cell_later L1 BH.out (i := 1) rfl; have O1' := hid O1; have O2' := hid O2; have L1' := hid L1; clear O1 O2 L1)
      go_ret
      have hrl := BH.out.lt
      obtain ⟨R, M1, M⟩ := Rd.put (e' := 0) BH.out L1'.out HR.out rfl O2'.out.bytes (fun _ k hk hn => by have := (O2'.out.lt k hk).1; have := HN.out k hn; omega)
      rw [hT.out]
      exact ⟨_, rfl, O1'.out.mod M1 (fun k hk e => by have := (O1'.out.lt k hk).1; omega), R, M⟩
    · have hT := hid (tBytes_no hk)
      simp only [hk, if_false] at C0
      have C := hid C0
      clear C0
      clear B hb ho hN hr
      go_enter Try.func47, Try.ntmps47
      go_wp2_with (go_at_call 58; refine C.out.mono ?_; rintro e w1 ⟨rfl, L1⟩; obtain ⟨d0, f0⟩ := cell_later L1 BH.out (i := 0) rfl; obtain ⟨d1, f1⟩ := cell_later L1 BH.out (i := 1) rfl; have L1' := hid L1; clear L1)
      go_ret
      obtain ⟨R, M⟩ := Rd.put1 (e' := 2) BH.out L1'.out HR.out rfl HB.out HO.out
      rw [hT.out]
      exact ⟨_, rfl, Ow.nil _ _, R, M⟩
  · have c1 := B.cellv (i := 1) rfl
    have he2 : (ec == 0) = false := by simp; exact he
    have hT := hid (tBytes_err (n := n) (t := (xs, ec)) he)
    have BH := hid B; have HB := hid hb; have HO := hid ho
    clear B hb ho hN
    go_enter Try.func47, Try.ntmps47
    go_wp2
    go_ret
    rw [hT.out]
    exact ⟨_, rfl, Ow.nil _ _, ⟨vb, BH.out, HB.out, HO.out⟩, Mod.refl _ _⟩
set_option maxRecDepth 100000 in
set_option maxHeartbeats 1000000 in
theorem rdFail_c {w : World} {r : Nat} {N : Nat → Prop} {t : Tp} (H : Rd 55 w r N t) (hr : N r) (is : Bool) :
    Calls Try.prog 25 #[.pointer (some ⟨r, 0, none⟩), .bool is] w fun e w' => e = .returned (.tuple #[]) ∧ Rd 55 w' r N (tFail is t) ∧ Mod (fun k => k = r) w w' := by
  obtain ⟨vb, B, hb, ho⟩ := H
  obtain ⟨xs, ec⟩ := t
  simp only at B hb ho
  have c1 := B.cellv (i := 1) rfl
  have f1 := B.frozen 1
  have BH := hid B; have HB := hid hb; have HO := hid ho; have HR := hid hr
  cases is with
  | false =>
    have hT := hid (show tFail false (xs, ec) = (xs, ec) from if_neg (fun h => by cases h.1))
    clear B hb ho hr
    go_enter Try.func25, Try.ntmps25
    go_wp2
    go_end0
    rw [hT.out]
    exact ⟨rfl, ⟨vb, BH.out, HB.out, HO.out⟩, Mod.refl _ _⟩
  | true =>
    by_cases he : ec = 0
    · subst he
      have hT := hid (show tFail true (xs, 0) = (xs, 3) from if_pos ⟨rfl, rfl⟩)
      clear B hb ho hr
      go_enter Try.func25, Try.ntmps25
      go_wp2
      go_end0
      obtain ⟨R, M⟩ := Rd.put1 (e' := 3) BH.out (Below.refl _ _) HR.out rfl HB.out HO.out
      rw [hT.out]
      exact ⟨rfl, R, M⟩
    · have he2 : (ec == 0) = false := by simp; exact he
      have hT := hid (tFail_err (is := true) (t := (xs, ec)) he)
      clear B hb ho hr
      go_enter Try.func25, Try.ntmps25
      go_wp2
      go_end0
      rw [hT.out]
      exact ⟨rfl, ⟨vb, BH.out, HB.out, HO.out⟩, Mod.refl _ _⟩
end Go.Proofs.Ytpbkdjnogjmfcaa

/- The program's reader: one byte, a short number, a name. -/
namespace Go.Proofs.Ytpbkdjnogjmfcaa
open Go.RowKit Go.ChangeMaps

theorem tBytes_len (n : Nat) (t : Tp) : (tBytes n t).1.length = n ∨ (tBytes n t).1 = [] := by
  by_cases h : t.2 = 0
  · obtain ⟨xs, e⟩ := t
    simp only at h
    subst h
    by_cases hk : n ≤ xs.length
    · rw [tBytes_yes hk]; left; show (xs.take n).length = n; rw [List.length_take]; omega
    · rw [tBytes_no hk]; right; rfl
  · rw [tBytes_err h]; right; rfl
theorem tBytes_le (n : Nat) (t : Tp) : (tBytes n t).2.1.length ≤ t.1.length := by
  by_cases h : t.2 = 0
  · obtain ⟨xs, e⟩ := t
    simp only at h
    subst h
    by_cases hk : n ≤ xs.length
    · rw [tBytes_yes hk]; show (xs.drop n).length ≤ xs.length; rw [List.length_drop]; omega
    · rw [tBytes_no hk]; exact Nat.le_refl _
  · rw [tBytes_err h]; exact Nat.le_refl _
theorem tFail_fst (is : Bool) (t : Tp) : (tFail is t).1 = t.1 := by unfold tFail; split <;> rfl
theorem tShort_no {m : Nat} {xs : List W8} {c : Int} (h : takeN xs = (c, 0, 0)) (hc : c ≠ 0) : tShort m (xs, 0) = (0, (xs, c)) := by
  refine (if_pos rfl).trans ?_
  simp only [h]
  rw [if_neg hc]
theorem tShort_yes {m : Nat} {xs : List W8} {n k : Nat} (h : takeN xs = (0, n, k)) (hn : n ≤ m) : tShort m (xs, 0) = (n, (xs.drop k, 0)) := by
  refine (if_pos rfl).trans ?_
  simp only [h]
  exact if_pos hn
theorem tShort_big {m : Nat} {xs : List W8} {n k : Nat} (h : takeN xs = (0, n, k)) (hn : m < n) : tShort m (xs, 0) = (0, (xs.drop k, 3)) := by
  refine (if_pos rfl).trans ?_
  simp only [h]
  exact if_neg (Nat.not_le.2 hn)
theorem takeN_or (xs : List W8) : (∃ n k, takeN xs = (0, n, k)) ∨ ∃ c, c ≠ 0 ∧ takeN xs = (c, 0, 0) := by
  rcases takeN_code xs with h | h | h
  · left; exact ⟨(takeN xs).2.1, (takeN xs).2.2, by rw [← h]⟩
  · right; exact ⟨2, by decide, h⟩
  · right; exact ⟨3, by decide, h⟩
theorem tShort_le (m : Nat) (t : Tp) : (tShort m t).1 ≤ m ∧ (tShort m t).2.1.length ≤ t.1.length := by
  by_cases h : t.2 = 0
  · obtain ⟨xs, e⟩ := t
    simp only at h
    subst h
    rcases takeN_or xs with ⟨n, k, hq⟩ | ⟨c, hc, hq⟩
    · by_cases hn : n ≤ m
      · rw [tShort_yes hq hn]; refine ⟨hn, ?_⟩; rw [List.length_drop]; exact Nat.sub_le _ _
      · rw [tShort_big hq (Nat.lt_of_not_le hn)]; refine ⟨Nat.zero_le _, ?_⟩; rw [List.length_drop]; exact Nat.sub_le _ _
    · rw [tShort_no hq hc]; exact ⟨Nat.zero_le _, Nat.le_refl _⟩
  · rw [tShort_err h]; exact ⟨Nat.zero_le _, Nat.le_refl _⟩
theorem Bytes.single {w : World} {v : Value} {b : W8} (h : Bytes w v [b]) : ∃ bb off c, v = .slice (some ⟨bb, off, none⟩) 1 c ∧ w.cell? ⟨bb, off, none⟩ = some (.int .u8 (ub b)) := by
  obtain ⟨p, c, rfl, hq⟩ := h
  obtain ⟨bb, off, rfl, _, _, _, hs⟩ := hq (Nat.succ_pos 0)
  exact ⟨bb, off, c, rfl, hs 0 (Nat.succ_pos 0)⟩
theorem Bytes.none {w : World} {v : Value} (h : Bytes w v []) : ∃ p c, v = .slice p 0 c := by obtain ⟨p, c, h, _⟩ := h; exact ⟨p, c, h⟩
set_option maxRecDepth 100000 in
set_option maxHeartbeats 1000000 in
theorem rdByte_c {w : World} {r : Nat} {N : Nat → Prop} {t : Tp} (H : Rd 55 w r N t) (hN : ∀ k, N k → k < w.heap.size) (hr : N r) (hl : t.1.length ≤ 100000) :
    Calls Try.prog 24 #[.pointer (some ⟨r, 0, none⟩)] w fun e w' => e = .returned (.int .u8 (ub (tByte t).1)) ∧ Rd 55 w' r N (tByte t).2 ∧ Mod (fun k => k = r) w w' := by
  have C := rdBytes_c H hN hr hl 1 (by decide)
  rcases tBytes_len 1 t with h1 | h0
  · obtain ⟨b, hb⟩ := List.length_eq_one_iff.1 h1
    have hT := hid (show (tByte t).1 = b by unfold tByte; rw [hb]; rfl)
    rw [hb] at C
    have CH := hid C
    have hT2 := hid (show (tByte t).2 = (tBytes 1 t).2 from rfl)
    clear C hb h1 H hN hr
    go_enter Try.func24, Try.ntmps24
    go_wp2_with (go_at_call 47; refine CH.out.mono ?_; rintro e w1 ⟨v1, rfl, O1, R1, M1⟩; obtain ⟨bb, off, cc, rfl, hcell⟩ := O1.bytes.single; have O1' := hid O1; have R1' := hid R1; have M1' := hid M1; clear O1 R1 M1)
    go_ret
    rw [hT.out, hT2.out]
    exact ⟨rfl, R1'.out, M1'.out⟩
  · have hT := hid (show (tByte t).1 = 0 by unfold tByte; rw [h0]; rfl)
    rw [h0] at C
    have CH := hid C
    have hT2 := hid (show (tByte t).2 = (tBytes 1 t).2 from rfl)
    clear C h0 H hN hr
    go_enter Try.func24, Try.ntmps24
    go_wp2_with (go_at_call 47; refine CH.out.mono ?_; rintro e w1 ⟨v1, rfl, O1, R1, M1⟩; obtain ⟨pp, cc, rfl⟩ := O1.bytes.none; have O1' := hid O1; have R1' := hid R1; have M1' := hid M1; clear O1 R1 M1)
    go_ret
    rw [hT.out, hT2.out]
    exact ⟨rfl, R1'.out, M1'.out⟩
theorem Rd.cell1 {T : TypeId} {w : World} {r : Nat} {N : Nat → Prop} {t : Tp} (h : Rd T w r N t) : w.cell? ⟨r, 1, none⟩ = some (.int .i64 t.2) := by obtain ⟨_, B, _⟩ := h; exact B.cellv rfl
set_option maxRecDepth 100000 in
set_option maxHeartbeats 2000000 in
theorem rdShort_c {w : World} {r : Nat} {N : Nat → Prop} {t : Tp} (H : Rd 55 w r N t) (hN : ∀ k, N k → k < w.heap.size) (hr : N r) (hl : t.1.length ≤ 100000) (m : Nat) (hm : m ≤ 1000) :
    Calls Try.prog 28 #[.pointer (some ⟨r, 0, none⟩), .int .i64 m] w fun e w' => e = .returned (.int .i64 (tShort m t).1) ∧ Rd 55 w' r N (tShort m t).2 ∧ Mod (fun k => k = r) w w' := by
  obtain ⟨vb, B, hb, ho⟩ := H
  obtain ⟨xs, ec⟩ := t
  simp only at B hb ho hl
  have c1 := B.cellv (i := 1) rfl
  have BH := hid B; have HB := hid hb; have HO := hid ho; have HN := hid hN; have HR := hid hr
  by_cases he : ec = 0
  · subst he
    have c0 := B.cellv (i := 0) rfl
    have C0 := numTake_c hb hl
    unfold TakeAns at C0
    rcases takeN_or xs with ⟨n, k, hq⟩ | ⟨c, hc, hq⟩
    · obtain ⟨_, _, hn64⟩ := takeN_put hq
      rw [hq] at C0
      simp only [if_true] at C0
      have C := hid C0
      have hmi : (m : Int) < 18446744073709551616 := by omega
      clear C0
      by_cases hnm : n ≤ m
      · have hni : ¬ (m : Int) < (n : Int) := by omega
        have hn63 : (n : Int) < 9223372036854775808 := by omega
        have hT := hid (tShort_yes hq hnm)
        have HF := hid (show tFail (decide (m < n)) (xs.drop k, 0) = (xs.drop k, 0) from by rw [decide_eq_false (by omega)]; exact if_neg (fun h => by cases h.1))
        clear B hb ho hN hr hq
        go_enter Try.func28, Try.ntmps28
        go_wp2_with (first
          | (go_at_call 25; refine (rdFail_c K.out.1 HR.out (decide (m < n))).mono ?_; rintro e w2 ⟨rfl, R2, M2⟩; have g1 := R2.cell1; rw [HF.out] at g1 R2; have R2' := hid R2; have M2' := hid M2; clear R2 M2)
          | (go_at_call 48; refine C.out.mono ?_; rintro e w1 ⟨⟨v2, rfl, O2⟩, L1⟩; obtain ⟨p2, m2, c2, rfl⟩ := O2.bytes.form; obtain ⟨d0, f0⟩ := cell_later L1 BH.out (i := 0) rfl; obtain ⟨d1, f1⟩ := cell_later L1 BH.out (i := 1) rfl; have O2' := hid O2; have L1' := hid L1; clear O2 L1; have K := hid (Rd.put (e' := 0) BH.out L1'.out HR.out rfl O2'.out.bytes (fun _ k hk hn => by have := (O2'.out.lt k hk).1; have := HN.out k hn; have := BH.out.lt; omega))))
        go_ret
        rw [hT.out]
        exact ⟨rfl, R2'.out, K.out.2.2.trans M2'.out⟩
      · have hni : (m : Int) < (n : Int) := by omega
        have hT := hid (tShort_big hq (Nat.lt_of_not_le hnm))
        have HF := hid (show tFail true (xs.drop k, 0) = (xs.drop k, 3) from if_pos ⟨rfl, rfl⟩)
        clear B hb ho hN hr hq
        go_enter Try.func28, Try.ntmps28
        go_wp2_with (first
          | (go_at_call 25; refine (rdFail_c K.out.1 HR.out true).mono ?_; rintro e w2 ⟨rfl, R2, M2⟩; have g1 := R2.cell1; rw [HF.out] at g1 R2; have R2' := hid R2; have M2' := hid M2; clear R2 M2)
          | (go_at_call 48; refine C.out.mono ?_; rintro e w1 ⟨⟨v2, rfl, O2⟩, L1⟩; obtain ⟨p2, m2, c2, rfl⟩ := O2.bytes.form; obtain ⟨d0, f0⟩ := cell_later L1 BH.out (i := 0) rfl; obtain ⟨d1, f1⟩ := cell_later L1 BH.out (i := 1) rfl; have O2' := hid O2; have L1' := hid L1; clear O2 L1; have K := hid (Rd.put (e' := 0) BH.out L1'.out HR.out rfl O2'.out.bytes (fun _ k hk hn => by have := (O2'.out.lt k hk).1; have := HN.out k hn; have := BH.out.lt; omega))))
        go_ret
        rw [hT.out]
        exact ⟨rfl, R2'.out, K.out.2.2.trans M2'.out⟩
    · rw [hq] at C0
      simp only [if_neg hc] at C0
      have C := hid C0
      have hmi : (m : Int) < 18446744073709551616 := by omega
      have hci : (c == 0) = false := by simp; exact hc
      have hT := hid (tShort_no (m := m) hq hc)
      clear C0
      have HF := hid (show tFail (decide ((m : Int) < 0)) (xs, c) = (xs, c) from tFail_err hc)
      clear B hb ho hN hr hq hc
      go_enter Try.func28, Try.ntmps28
      go_upto_region 7 with (first
        | (go_at_call 25; refine (rdFail_c K.out.1 HR.out (decide ((m : Int) < 0))).mono ?_; rintro e w2 ⟨rfl, R2, M2⟩; have g1 := R2.cell1; rw [HF.out] at g1 R2; have R2' := hid R2; have M2' := hid M2; clear R2 M2)
        | (go_at_call 48; refine C.out.mono ?_; rintro e w1 ⟨rfl, L1⟩; obtain ⟨d0, f0⟩ := cell_later L1 BH.out (i := 0) rfl; obtain ⟨d1, f1⟩ := cell_later L1 BH.out (i := 1) rfl; have L1' := hid L1; clear L1; have K := hid (Rd.put1 (e' := c) BH.out L1'.out HR.out rfl HB.out HO.out)))
      go_upto_region 8 with (go_at_call 25; refine (rdFail_c K.out.1 HR.out (decide ((m : Int) < 0))).mono ?_; rintro e w2 ⟨rfl, R2, M2⟩; have g1 := R2.cell1; rw [HF.out] at g1 R2; have R2' := hid R2; have M2' := hid M2; clear R2 M2)
      clear hmi
      go_wp2
      go_ret
      rw [hT.out]
      exact ⟨rfl, R2'.out, K.out.2.trans M2'.out⟩
  · have he2 : (ec == 0) = false := by simp; exact he
    have hT := hid (tShort_err (m := m) (t := (xs, ec)) he)
    clear B hb ho hN hr
    go_enter Try.func28, Try.ntmps28
    go_wp2
    go_ret
    rw [hT.out]
    exact ⟨rfl, ⟨vb, BH.out, HB.out, HO.out⟩, Mod.refl _ _⟩
end Go.Proofs.Ytpbkdjnogjmfcaa

/- The program's reader: a name, a hash, a cell. -/
namespace Go.Proofs.Ytpbkdjnogjmfcaa
open Go.RowKit Go.ChangeMaps

set_option maxRecDepth 100000 in
set_option maxHeartbeats 1000000 in
theorem rdName_c {w : World} {r : Nat} {N : Nat → Prop} {t : Tp} (H : Rd 55 w r N t) (hN : ∀ k, N k → k < w.heap.size) (hr : N r) (hl : t.1.length ≤ 100000) :
    Calls Try.prog 26 #[.pointer (some ⟨r, 0, none⟩)] w fun e w' => e = .returned (.string (str (tName t).1)) ∧ Rd 55 w' r N (tName t).2 ∧ Mod (fun k => k = r) w w' := by
  have C := hid (rdShort_c H hN hr hl 12 (by decide))
  have hle := tShort_le 12 t
  obtain ⟨n, hn⟩ : ∃ n, n = (tShort 12 t).1 := ⟨_, rfl⟩
  obtain ⟨t1, ht1⟩ : ∃ t1, t1 = (tShort 12 t).2 := ⟨_, rfl⟩
  have hT := hid (show tName t = tBytes n t1 by unfold tName; rw [hn, ht1])
  rw [← hn, ← ht1] at C hle
  have HN := hid hN; have HR := hid hr
  have hl1 : t1.1.length ≤ 100000 := by omega
  have hn12 : n ≤ 1000000 := by omega
  clear H hN hr hn ht1 hle hl
  go_enter Try.func26, Try.ntmps26
  go_wp2_with (first
    | (go_at_call 47; refine (rdBytes_c R1'.out (fun k hk => Nat.lt_of_lt_of_le (HN.out k hk) M1'.out.size) HR.out hl1 n hn12).mono ?_; rintro e w2 ⟨v2, rfl, O2, R2, M2⟩; have hcv := conv_str' O2.bytes; obtain ⟨p2, m2, c2, rfl⟩ := O2.bytes.form; have R2' := hid R2; have M2' := hid M2; clear O2 R2 M2)
    | (go_at_call 28; refine C.out.mono ?_; rintro e w1 ⟨rfl, R1, M1⟩; have R1' := hid R1; have M1' := hid M1; clear R1 M1))
  go_ret
  rw [hT.out]
  exact ⟨rfl, R2'.out, M1'.out.trans M2'.out⟩
/-- A hash's cells. -/
def hl32 (xs : List W8) : Array Value := arr 32 (fun i => .int .u8 (ub (xs.getD i 0)))
theorem hl32_size (xs : List W8) : (hl32 xs).size = 32 := arr_size _ _
theorem zero32_get (i : Nat) : zero32.getD i 0 = 0 := by
  unfold zero32
  rw [List.getD_eq_getElem?_getD, List.getElem?_replicate]
  split <;> rfl
theorem zero_h32 (W : World) : (zeroValue 22).run Try.prog W = .ok (.agg (hl32 zero32)) W := by
  have : hl32 zero32 = arr 32 (fun _ => .int .u8 0) := arr_congr (fun i _ => by rw [zero32_get]; rfl)
  rw [this]; rfl
theorem hl32_one (xs : List W8) : (hl32 xs).all (·.oneCell') = true := by
  unfold hl32 arr
  simp [Value.oneCell']
theorem hl32_range {w : World} {b off : Nat} {xs : List W8} (hl : xs.length = 32) (hs : Src w b off xs) : w.rangeAt b off (hl32 xs).toList := by
  intro j v hv
  have hj : j < 32 := by rw [← hl32_size xs]; simpa using (List.getElem?_eq_some_iff.1 hv).1
  unfold hl32 at hv
  rw [Array.getElem?_toList, arr_get _ _ hj] at hv
  rw [← hv]; exact hs j (by omega)
set_option maxRecDepth 100000 in
set_option maxHeartbeats 2000000 in
theorem rdHash_c {w : World} {r : Nat} {N : Nat → Prop} {t : Tp} (H : Rd 55 w r N t) (hN : ∀ k, N k → k < w.heap.size) (hr : N r) (hl : t.1.length ≤ 100000) :
    Calls Try.prog 27 #[.pointer (some ⟨r, 0, none⟩)] w fun e w' => e = .returned (.agg (hl32 (tHash t).1)) ∧ Rd 55 w' r N (tHash t).2 ∧ Mod (fun k => k = r) w w' := by
  obtain ⟨zs, hzs⟩ : ∃ zs, zs = hl32 zero32 := ⟨_, rfl⟩
  have hz : ∀ W : World, (zeroValue 22).run Try.prog W = .ok (.agg zs) W := by rw [hzs]; exact zero_h32
  have F0 := hid (show Fn (w.alloc (.cells zs 22)) w.heap.size 22 32 _ by rw [hzs]; exact Fn.arr w _ 32 _)
  have L0 := hid ((Below.refl w.heap.size w).alloc (Nat.le_refl _) (.cells zs 22))
  have R0 := hid ((H.grow (N' := fun k => N k ∨ k = w.heap.size) (fun k hk => by rcases hk with hk | hk; exact Or.inl hk; exact Or.inr (by omega))).below L0.out)
  have C := hid (rdBytes_c R0.out (fun k hk => by rcases hk with hk | hk; (have := hN k hk; simp; omega); (simp; omega)) (Or.inl hr) hl 32 (by decide))
  have hrlt := hid H.lt
  have hz0 := hid (show zs.size = 32 by rw [hzs]; exact hl32_size _)
  have hz1 := hid (show zs.all (·.oneCell') = true by rw [hzs]; exact hl32_one _)
  have HZ := hid hzs
  rcases tBytes_len 32 t with h1 | h0
  · have hT := hid (show (tHash t).1 = (tBytes 32 t).1 from if_neg (by omega))
    have hT2 := hid (show (tHash t).2 = (tBytes 32 t).2 from rfl)
    obtain ⟨ys, hys⟩ : ∃ ys, ys = (tBytes 32 t).1 := ⟨_, rfl⟩
    rw [← hys] at C hT h1
    have hy := hid h1
    have hat : ∀ (b o c : Nat) (W : World), (Instr.arrayAt 22 (.slice (some ⟨b, o, none⟩) 32 c)).run Try.prog W = .ok (.pointer (some ⟨b, o, none⟩)) W := fun b o c W => run_arrayAt W 22 5 32 (some ⟨b, o, none⟩) 32 c Try.underlying22 (Nat.le_refl _)
    clear H hN hr hys h1 hzs
    go_enter Try.func27, Try.ntmps27
    go_wp2_with (first
      | (refine wpList_load_mid rfl 22 (.tmp 11) rfl b2 o2 rfl (hl32 ys).toList _ RG.out Try.underlying22 rfl (by rw [Array.length_toList, hl32_size]; kernel_rfl) ?_)
      | (refine wpList_store_mid rfl 22 (.tmp 2) (.tmp 12) rfl w.heap.size 0 (hl32 ys) rfl rfl (there_set F2.out (hl32_size _)) (by rw [hl32_size]; kernel_rfl) (hl32_one _) ?_)
      | (go_at_call 47; refine C.out.mono ?_; rintro e w2 ⟨v2, rfl, O2, R2, M2⟩; obtain ⟨p2, c2, e2, hq⟩ := O2.bytes; rw [hy.out] at e2 hq; obtain ⟨b2, o2, rfl, hb2, hlc2, _, hsrc⟩ := hq (by decide); subst e2; have RG := hid (hl32_range hy.out hsrc); have F2 := hid (F0.out.mod M2 (fun e => by have := hrlt.out; omega)); have R2' := hid R2; have M2' := hid M2; clear O2 R2 M2 hq hsrc))
    obtain ⟨cs9, g1, g2, g3⟩ := F2.out.storeAll (fun j => .int .u8 (ub (ys.getD j 0)))
    have hcs9 := arr_ext g2 g3
    subst hcs9
    rw [hT.out, hT2.out]
    refine bodyPost_ret (v := .agg (hl32 ys)) (results_cell_row (t := 22) (fr := (0, 0)) rfl _ _ w.heap.size _ _ rfl g1 Try.underlying22 rfl (by rw [hl32_size]; kernel_rfl)) rfl ⟨rfl, ?_⟩
    have MA : Mod (fun k => k = r) w w2 := (Mod.of_below L0.out _).trans M2'.out
    refine ⟨(R2'.out.mod (S := fun k => k = w.heap.size) (Mod.setCells (S := fun k => k = w.heap.size) _ 0 w2 (Mod.refl _ _) (fun _ => rfl)) (fun e => by have := hrlt.out; omega) (fun k hk => Or.inr hk)).grow (fun k hk => Or.inl (Or.inl hk)), ?_⟩
    exact Mod.setCells (S := fun k => k = r) _ 0 w2 MA (fun hh => by omega)
  · have hT := hid (show (tHash t).1 = zero32 from if_pos (by rw [h0]; decide))
    have hT2 := hid (show (tHash t).2 = (tBytes 32 t).2 from rfl)
    rw [h0] at C
    clear H hN hr h0 hzs
    go_enter Try.func27, Try.ntmps27
    go_wp2_with (first
      | (refine wpList_store_mid rfl 22 (.tmp 2) (.tmp 9) rfl w.heap.size 0 zs rfl rfl (there_set F2.out hz0.out) (by rw [hz0.out]; kernel_rfl) hz1.out ?_)
      | (go_at_call 47; refine C.out.mono ?_; rintro e w2 ⟨v2, rfl, O2, R2, M2⟩; obtain ⟨p2, c2, rfl⟩ := O2.bytes.none; have F2 := hid (F0.out.mod M2 (fun e => by have := hrlt.out; omega)); have R2' := hid R2; have M2' := hid M2; clear O2 R2 M2))
    rw [hT.out, hT2.out]
    have HZ' := HZ.out
    subst HZ'
    obtain ⟨cs9, g1, g2, g3⟩ := F2.out.storeAll (fun j => .int .u8 (ub (zero32.getD j 0)))
    have hcs9 := arr_ext g2 g3
    subst hcs9
    refine bodyPost_ret (v := .agg (hl32 zero32)) (results_cell_row (t := 22) (fr := (0, 0)) rfl _ _ w.heap.size _ _ rfl g1 Try.underlying22 rfl (by rw [hl32_size]; kernel_rfl)) rfl ⟨rfl, ?_⟩
    have MA : Mod (fun k => k = r) w w2 := (Mod.of_below L0.out _).trans M2'.out
    refine ⟨(R2'.out.mod (S := fun k => k = w.heap.size) (Mod.setCells (S := fun k => k = w.heap.size) _ 0 w2 (Mod.refl _ _) (fun _ => rfl)) (fun e => by have := hrlt.out; omega) (fun k hk => Or.inr hk)).grow (fun k hk => Or.inl (Or.inl hk)), ?_⟩
    exact Mod.setCells (S := fun k => k = r) _ 0 w2 MA (fun hh => by omega)
end Go.Proofs.Ytpbkdjnogjmfcaa

/- The program's reader: a cell. -/
namespace Go.Proofs.Ytpbkdjnogjmfcaa
open Go.RowKit Go.ChangeMaps

theorem tByte_le (t : Tp) : (tByte t).2.1.length ≤ t.1.length := tBytes_le 1 t
theorem ub_bd (b : W8) : 0 ≤ ub b ∧ ub b < 256 := by unfold ub; have := b.isLt; omega
theorem ub_inj {a b : W8} (h : ub a = ub b) : a = b := by unfold ub at h; exact BitVec.eq_of_toNat_eq (by omega)
theorem tCell_C {t : Tp} (h : (tByte (tByte t).2).1 = 67) : tCell t = ((ub (tByte t).1, (tBytes 256 (tByte (tByte t).2).2).1), (tBytes 256 (tByte (tByte t).2).2).2) := if_pos h
theorem tCell_H {t : Tp} (h : (tByte (tByte t).2).1 = 72) : tCell t = ((ub (tByte t).1, []), (tByte (tByte t).2).2) :=
  (if_neg (show ¬ (tByte (tByte t).2).1 = 67 by rw [h]; decide)).trans (if_pos h)
theorem tCell_X {t : Tp} (h : (tByte (tByte t).2).1 ≠ 67) (h2 : (tByte (tByte t).2).1 ≠ 72) : tCell t = ((ub (tByte t).1, []), tFail true (tByte (tByte t).2).2) := (if_neg h).trans (if_neg h2)
theorem cell_fin {T : TypeId} {w wz wf : World} {r b0 b1 : Nat} {N : Nat → Prop} {t : Tp} (R : Rd T wz r (fun k => (N k ∨ k = b0) ∨ k = b1) t) (M : Mod (fun k => k = r) w wz) (hb0 : w.heap.size ≤ b0) (hb1 : w.heap.size ≤ b1) (hr : r < w.heap.size)
    (Mf : Mod (fun k => k = b0 ∨ k = b1) wz wf) : Rd T wf r N t ∧ Mod (fun k => k = r) w wf :=
  ⟨(R.mod Mf (fun h => by rcases h with h | h <;> omega) (fun k hk => by rcases hk with hk | hk; exact Or.inl (Or.inr hk); exact Or.inr hk)).grow (fun k hk => Or.inl (Or.inl (Or.inl hk))), M.step Mf (fun i hi hk => by rcases hk with hk | hk <;> omega)⟩
set_option maxRecDepth 100000 in
set_option maxHeartbeats 2000000 in
theorem rdCell_c {w : World} {r : Nat} {N : Nat → Prop} {t : Tp} (H : Rd 55 w r N t) (hN : ∀ k, N k → k < w.heap.size) (hr : N r) (hl : t.1.length ≤ 100000) :
    Calls Try.prog 29 #[.pointer (some ⟨r, 0, none⟩)] w fun e w' => ∃ v, e = .returned (.agg #[.int .i64 (tCell t).1.1, v]) ∧ Ow w' w.heap.size v (tCell t).1.2 ∧ Rd 55 w' r N (tCell t).2 ∧ Mod (fun k => k = r) w w' := by
  have L0 := hid ((Below.refl w.heap.size w).alloc (Nat.le_refl _) (.cells #[.int .i64 0, .slice none 0 0] 44))
  have hrlt := hid H.lt
  have B0 := hid (Blk.new w #[.int .i64 0, .slice none 0 0] 44)
  have R0 := hid ((H.grow (N' := fun k => N k ∨ k = w.heap.size) (fun k hk => by rcases hk with hk | hk; exact Or.inl hk; exact Or.inr (by omega))).below L0.out)
  have HN0 := hid (show ∀ k, (N k ∨ k = w.heap.size) → k < (w.alloc (.cells #[.int .i64 0, .slice none 0 0] 44)).heap.size from fun k hk => by rcases hk with hk | hk; (have := hN k hk; simp; omega); (simp; omega))
  have HR := hid hr
  have C := hid (rdByte_c R0.out HN0.out (Or.inl hr) hl)
  have hl1 := hid (show (tByte t).2.1.length ≤ 100000 from Nat.le_trans (tByte_le t) hl)
  have hl2 := hid (show (tByte (tByte t).2).2.1.length ≤ 100000 from Nat.le_trans (tByte_le _) hl1.out)
  have hC := hid (@tCell_C t); have hH := hid (@tCell_H t); have hX := hid (@tCell_X t)
  obtain ⟨x, hx⟩ : ∃ x, x = (tByte t).1 := ⟨_, rfl⟩
  obtain ⟨t1, ht1⟩ : ∃ t1, t1 = (tByte t).2 := ⟨_, rfl⟩
  rw [← hx, ← ht1] at C hC hH hX
  rw [← ht1] at hl1 hl2
  obtain ⟨y, hy⟩ : ∃ y, y = (tByte t1).1 := ⟨_, rfl⟩
  obtain ⟨t2, ht2⟩ : ∃ t2, t2 = (tByte t1).2 := ⟨_, rfl⟩
  have hy' := hid hy; have ht2' := hid ht2
  rw [← hy, ← ht2] at hC hH hX
  rw [← ht2] at hl2
  obtain ⟨hx0, hx1⟩ := ub_bd x
  obtain ⟨hy0, hy1⟩ := ub_bd y
  clear H hN hr hx ht1 hy ht2 hl
  go_enter Try.func29, Try.ntmps29
  go_upto_region 2 with (go_at_call 24; refine C.out.mono ?_; rintro e w1 ⟨rfl, R1, M1⟩; have R1' := hid R1; have M1' := hid M1; clear R1 M1)
  have L1 := hid ((Below.refl w1.heap.size w1).alloc (Nat.le_refl _) (.cells #[.int .i64 (ub x), .slice none 0 0] 44))
  have B1 := hid (Blk.new w1 #[.int .i64 (ub x), .slice none 0 0] 44)
  have R2 := hid ((R1'.out.grow (N' := fun k => (N k ∨ k = w.heap.size) ∨ k = w1.heap.size) (fun k hk => by rcases hk with hk | hk; exact Or.inl hk; exact Or.inr (by omega))).below L1.out)
  have h01 := hid M1'.out.size
  have HN1 := hid (show ∀ k, ((N k ∨ k = w.heap.size) ∨ k = w1.heap.size) → k < (w1.alloc (.cells #[.int .i64 (ub x), .slice none 0 0] 44)).heap.size from fun k hk => by
    have := h01.out
    rcases hk with hk | hk
    · have := HN0.out k hk; simp; omega
    · simp; omega)
  have C2 := hid (rdByte_c R2.out HN1.out (Or.inl (Or.inl HR.out)) hl1.out)
  rw [← hy'.out, ← ht2'.out] at C2
  go_upto_region 3 with (go_at_call 24; refine C2.out.mono ?_; rintro e w2 ⟨rfl, R3, M2⟩; have R3' := hid R3; have M2' := hid M2; clear R3 M2)
  have hb1 := hid (show w.heap.size < w1.heap.size by have := h01.out; simp at this; omega)
  have B0a := hid (M1'.out.blk B0.out (fun e => by have := hrlt.out; omega))
  have B0b := hid (M2'.out.blk (B0a.out.alloc _) (fun e => by have := hrlt.out; omega))
  have B1b := hid (M2'.out.blk B1.out (fun e => by have := hrlt.out; have := hb1.out; omega))
  have MA := hid (show Mod (fun k => k = r) w w2 from (((Mod.of_below L0.out _).trans M1'.out).trans (Mod.of_below L1.out _)).trans M2'.out)
  have hne : ¬ w.heap.size = w1.heap.size := by have := hb1.out; omega
  have hne' : ¬ w1.heap.size = w.heap.size := by have := hb1.out; omega
  have h12 := hid M2'.out.size
  by_cases h67 : y = 67
  · have HTT := hid (hC.out h67)
    have e67 : ub y = 67 := by rw [h67]; rfl
    rw [e67]
    have C3 := hid (rdBytes_c R3'.out (fun k hk => Nat.lt_of_lt_of_le (HN1.out k hk) M2'.out.size) (Or.inl (Or.inl HR.out)) hl2.out 256 (by decide))
    clear e67 hy0 hy1 h67
    go_wp2_with (go_at_call 47; refine C3.out.mono ?_; rintro e w3 ⟨v3, rfl, O3, R4, M3⟩; obtain ⟨p3, m3, c3, rfl⟩ := O3.bytes.form; have B0c := M3.blk B0b.out (fun e => by have := hrlt.out; omega); have B1c := M3.blk B1b.out (fun e => by have := hrlt.out; have := hb1.out; omega); have a0 := B0c.cellv (i := 0) rfl; have a1 := B0c.cellv (i := 1) rfl; have f0 := B0c.frozen 0; have f1 := B0c.frozen 1; have d0 := B1c.cellv (i := 0) rfl; have d1 := B1c.cellv (i := 1) rfl; have g0 := B1c.frozen 0; have g1 := B1c.frozen 1; have O3' := hid O3; have R4' := hid R4; have M3' := hid M3; clear O3 R4 M3 B0c B1c)
    rw [HTT.out]
    have hrl := hrlt.out
    have hbl := hb1.out
    have h12' := h12.out
    simp at h12'
    obtain ⟨RF, MF⟩ := cell_fin R4'.out (MA.out.trans M3'.out) (Nat.le_refl _) (Nat.le_of_lt hbl) hrl ((((Mod.refl _ w3).setCell (p := ⟨w1.heap.size, 1, none⟩) (fun _ => Or.inr rfl) (.slice p3 m3 c3)).setCell (p := ⟨w.heap.size, 0, none⟩) (fun _ => Or.inl rfl) (.int .i64 (ub x))).setCell (p := ⟨w.heap.size, 1, none⟩) (fun _ => Or.inl rfl) (.slice p3 m3 c3))
    refine bodyPost_ret (v := .agg #[.int .i64 (ub x), .slice p3 m3 c3]) (by simp [results, Try.results29, go_sem, a0, a1]) rfl ⟨_, rfl, ?_, RF, MF⟩
    refine (O3'.out.mod ((((Mod.refl (fun k => k = w.heap.size ∨ k = w1.heap.size) w3).setCell (p := ⟨w1.heap.size, 1, none⟩) (fun _ => Or.inr rfl) (.slice p3 m3 c3)).setCell (p := ⟨w.heap.size, 0, none⟩) (fun _ => Or.inl rfl) (.int .i64 (ub x))).setCell (p := ⟨w.heap.size, 1, none⟩) (fun _ => Or.inl rfl) (.slice p3 m3 c3)) (fun k hk hh => ?_)).lower (by omega)
    have := (O3'.out.lt k hk).1
    rcases hh with hh | hh <;> omega
  · by_cases h72 : y = 72
    · have HTT := hid (hH.out h72)
      have e72 : ub y = 72 := by rw [h72]; rfl
      rw [e72]
      have a0 := B0b.out.cellv (i := 0) rfl
      have a1 := B0b.out.cellv (i := 1) rfl
      have f0 := B0b.out.frozen 0
      have f1 := B0b.out.frozen 1
      have d0 := B1b.out.cellv (i := 0) rfl
      have d1 := B1b.out.cellv (i := 1) rfl
      clear e72 hy0 hy1 h72 h67
      go_wp2
      rw [HTT.out]
      have hrl := hrlt.out
      have hbl := hb1.out
      obtain ⟨RF, MF⟩ := cell_fin R3'.out MA.out (Nat.le_refl _) (Nat.le_of_lt hbl) hrl (((Mod.refl _ w2).setCell (p := ⟨w.heap.size, 0, none⟩) (fun _ => Or.inl rfl) (.int .i64 (ub x))).setCell (p := ⟨w.heap.size, 1, none⟩) (fun _ => Or.inl rfl) (.slice none 0 0))
      exact bodyPost_ret (v := .agg #[.int .i64 (ub x), .slice none 0 0]) (by simp [results, Try.results29, go_sem, a0, a1]) rfl ⟨_, rfl, Ow.nil _ _, RF, MF⟩
    · have HTT := hid (hX.out h67 h72)
      have e67 : (ub y == 67) = false := by simp; exact fun h => h67 (ub_inj h)
      have e72 : (ub y == 72) = false := by simp; exact fun h => h72 (ub_inj h)
      have C3 := hid (rdFail_c R3'.out (Or.inl (Or.inl HR.out)) true)
      clear h67 h72
      go_wp2_with (go_at_call 25; refine C3.out.mono ?_; rintro e w3 ⟨rfl, R4, M3⟩; have B0c := M3.blk B0b.out (fun e => by have := hrlt.out; omega); have B1c := M3.blk B1b.out (fun e => by have := hrlt.out; have := hb1.out; omega); have a0 := B0c.cellv (i := 0) rfl; have a1 := B0c.cellv (i := 1) rfl; have f0 := B0c.frozen 0; have f1 := B0c.frozen 1; have d0 := B1c.cellv (i := 0) rfl; have d1 := B1c.cellv (i := 1) rfl; have R4' := hid R4; have M3' := hid M3; clear R4 M3 B0c B1c)
      rw [HTT.out]
      have hrl := hrlt.out
      have hbl := hb1.out
      obtain ⟨RF, MF⟩ := cell_fin R4'.out (MA.out.trans M3'.out) (Nat.le_refl _) (Nat.le_of_lt hbl) hrl (((Mod.refl _ w3).setCell (p := ⟨w.heap.size, 0, none⟩) (fun _ => Or.inl rfl) (.int .i64 (ub x))).setCell (p := ⟨w.heap.size, 1, none⟩) (fun _ => Or.inl rfl) (.slice none 0 0))
      exact bodyPost_ret (v := .agg #[.int .i64 (ub x), .slice none 0 0]) (by simp [results, Try.results29, go_sem, a0, a1]) rfl ⟨_, rfl, Ow.nil _ _, RF, MF⟩
end Go.Proofs.Ytpbkdjnogjmfcaa
