/- The document's reader of a stream's parts: bytes, an error. -/
import Derived.Test.YtpbkdjnogjmfcaaRd
import Derived.Test.YtpbkdjnogjmfcaaRefSum
namespace Go.Proofs.Ytpbkdjnogjmfcaa
open Go.RowKit Go.ChangeMaps

set_option maxRecDepth 100000 in
set_option maxHeartbeats 1000000 in
theorem tpBytes_c {w : World} {r : Nat} {N : Nat → Prop} {t : Tp} (H : Rd 64 w r N t) (hr : N r) (hl : t.1.length ≤ 100000) (n : Nat) (hn : n ≤ 1000000) :
    Calls Try.prog 32 #[.pointer (some ⟨r, 0, none⟩), .int .i64 n] w fun e w' => ∃ v, e = .returned v ∧ Bytes w' v (tBytes n t).1 ∧ (0 < (tBytes n t).1.length → ∀ k, v.ownBlock = some k → ¬ N k) ∧ Rd 64 w' r N (tBytes n t).2 ∧ Mod (fun k => k = r) w w' := by
  obtain ⟨vb, B, hb, ho⟩ := H
  obtain ⟨xs, ec⟩ := t
  simp only at B hb ho hl
  have c0 := B.cellv (i := 0) rfl
  have c1 := B.cellv (i := 1) rfl
  have C0 := rtakeBytes_c hb hl n (by omega)
  have BH := hid B; have HB := hid hb; have HO := hid ho; have HR := hid hr
  by_cases hk : n ≤ xs.length
  · simp only [hk, if_true] at C0
    have C := hid C0
    have hlen := hid (show 0 < (xs.take n).length → 0 < xs.length from fun h => by rw [List.length_take] at h; omega)
    have hlen2 := hid (show 0 < (xs.drop n).length → 0 < xs.length from fun h => by rw [List.length_drop] at h; omega)
    clear C0 B hb ho hr
    by_cases he : ec = 0
    · subst he
      have hT := hid (tBytes_yes hk)
      go_enter Try.func32, Try.ntmps32
      go_wp2_with (go_at_call 49; refine C.out.mono ?_; rintro e w1 ⟨⟨v1, v2, rfl, O1, O2, o1, o2⟩, L1⟩; obtain ⟨p2, m2, c2, rfl⟩ := O2.form; obtain ⟨d0, f0⟩ := cell_later L1 BH.out (i := 0) rfl; obtain ⟨d1, f1⟩ := cell_later L1 BH.out (i := 1) rfl; have O1' := hid (O1.below L1); have O2' := hid (O2.below L1); have L1' := hid L1; have o1' := hid o1; have o2' := hid o2; clear O1 O2 L1 o1 o2)
      go_ret
      obtain ⟨R, M1, M⟩ := Rd.put (e' := 0) BH.out L1'.out HR.out rfl O2'.out (fun h0 k hk => HO.out (hlen2.out h0) k (o2'.out k hk))
      rw [hT.out]
      have hN1 := fun h0 k hk => HO.out (hlen.out h0) k (o1'.out k hk)
      exact ⟨_, rfl, O1'.out.mod' M1 (fun h0 k hk e => hN1 h0 k hk (by rw [e]; exact HR.out)), hN1, R, M⟩
    · have he2 : (ec == 0) = false := by simp; exact he
      have hT := hid (tBytes_err (n := n) (t := (xs, ec)) he)
      go_enter Try.func32, Try.ntmps32
      go_wp2_with (go_at_call 49; refine C.out.mono ?_; rintro e w1 ⟨⟨v1, v2, rfl, O1, O2, o1, o2⟩, L1⟩; obtain ⟨p2, m2, c2, rfl⟩ := O2.form; obtain ⟨d0, f0⟩ := cell_later L1 BH.out (i := 0) rfl; obtain ⟨d1, f1⟩ := cell_later L1 BH.out (i := 1) rfl; have L1' := hid L1; clear O1 O2 L1 o1 o2)
      go_ret
      rw [hT.out]
      exact ⟨_, rfl, (Ow.nil _ 0).bytes, fun h => absurd h (Nat.lt_irrefl 0), Rd.below ⟨vb, BH.out, HB.out, HO.out⟩ L1'.out, Mod.of_below L1'.out _⟩
  · simp only [hk, if_false] at C0
    have C := hid C0
    clear C0 B hb ho hr
    by_cases he : ec = 0
    · subst he
      have hT := hid (tBytes_no hk)
      go_enter Try.func32, Try.ntmps32
      go_wp2_with (go_at_call 49; refine C.out.mono ?_; rintro e w1 ⟨rfl, L1⟩; obtain ⟨d0, f0⟩ := cell_later L1 BH.out (i := 0) rfl; obtain ⟨d1, f1⟩ := cell_later L1 BH.out (i := 1) rfl; have L1' := hid L1; clear L1)
      go_ret
      obtain ⟨R, M⟩ := Rd.put1 (e' := 2) BH.out L1'.out HR.out rfl HB.out HO.out
      rw [hT.out]
      exact ⟨_, rfl, (Ow.nil _ 0).bytes, fun h => absurd h (Nat.lt_irrefl 0), R, M⟩
    · have he2 : (ec == 0) = false := by simp; exact he
      have hT := hid (tBytes_err (n := n) (t := (xs, ec)) he)
      go_enter Try.func32, Try.ntmps32
      go_wp2_with (go_at_call 49; refine C.out.mono ?_; rintro e w1 ⟨rfl, L1⟩; obtain ⟨d0, f0⟩ := cell_later L1 BH.out (i := 0) rfl; obtain ⟨d1, f1⟩ := cell_later L1 BH.out (i := 1) rfl; have L1' := hid L1; clear L1)
      go_ret
      rw [hT.out]
      exact ⟨_, rfl, (Ow.nil _ 0).bytes, fun h => absurd h (Nat.lt_irrefl 0), Rd.below ⟨vb, BH.out, HB.out, HO.out⟩ L1'.out, Mod.of_below L1'.out _⟩
set_option maxRecDepth 100000 in
set_option maxHeartbeats 1000000 in
theorem tpFail_c {w : World} {r : Nat} {N : Nat → Prop} {t : Tp} (H : Rd 64 w r N t) (hr : N r) (is : Bool) :
    Calls Try.prog 31 #[.pointer (some ⟨r, 0, none⟩), .bool is] w fun e w' => e = .returned (.tuple #[]) ∧ Rd 64 w' r N (tFail is t) ∧ Mod (fun k => k = r) w w' := by
  obtain ⟨vb, B, hb, ho⟩ := H
  obtain ⟨xs, ec⟩ := t
  simp only at B hb ho
  have c1 := B.cellv (i := 1) rfl
  have f1 := B.frozen 1
  have BH := hid B; have HB := hid hb; have HO := hid ho; have HR := hid hr
  cases is with
  | false =>
    have hT := hid (show tFail false (xs, ec) = (xs, ec) from if_neg (fun h => by cases h.1))
    clear B hb ho hr
    go_enter Try.func31, Try.ntmps31
    go_wp2
    go_end0
    rw [hT.out]
    exact ⟨rfl, ⟨vb, BH.out, HB.out, HO.out⟩, Mod.refl _ _⟩
  | true =>
    by_cases he : ec = 0
    · subst he
      have hT := hid (show tFail true (xs, 0) = (xs, 3) from if_pos ⟨rfl, rfl⟩)
      clear B hb ho hr
      go_enter Try.func31, Try.ntmps31
      go_wp2
      go_end0
      obtain ⟨R, M⟩ := Rd.put1 (e' := 3) BH.out (Below.refl _ _) HR.out rfl HB.out HO.out
      rw [hT.out]
      exact ⟨rfl, R, M⟩
    · have he2 : (ec == 0) = false := by simp; exact he
      have hT := hid (tFail_err (is := true) (t := (xs, ec)) he)
      clear B hb ho hr
      go_enter Try.func31, Try.ntmps31
      go_wp2
      go_end0
      rw [hT.out]
      exact ⟨rfl, ⟨vb, BH.out, HB.out, HO.out⟩, Mod.refl _ _⟩
set_option maxRecDepth 100000 in
set_option maxHeartbeats 1000000 in
theorem tpByte_c {w : World} {r : Nat} {N : Nat → Prop} {t : Tp} (H : Rd 64 w r N t) (hr : N r) (hl : t.1.length ≤ 100000) :
    Calls Try.prog 30 #[.pointer (some ⟨r, 0, none⟩)] w fun e w' => e = .returned (.int .u8 (ub (tByte t).1)) ∧ Rd 64 w' r N (tByte t).2 ∧ Mod (fun k => k = r) w w' := by
  have C := tpBytes_c H hr hl 1 (by decide)
  rcases tBytes_len 1 t with h1 | h0
  · obtain ⟨b, hb⟩ := List.length_eq_one_iff.1 h1
    have hT := hid (show (tByte t).1 = b by unfold tByte; rw [hb]; rfl)
    rw [hb] at C
    have CH := hid C
    have hT2 := hid (show (tByte t).2 = (tBytes 1 t).2 from rfl)
    clear C hb h1 H hr
    go_enter Try.func30, Try.ntmps30
    go_wp2_with (go_at_call 32; refine CH.out.mono ?_; rintro e w1 ⟨v1, rfl, O1, ho1, R1, M1⟩; obtain ⟨bb, off, cc, rfl, hcell⟩ := O1.single; have R1' := hid R1; have M1' := hid M1; clear O1 ho1 R1 M1)
    go_ret
    rw [hT.out, hT2.out]
    exact ⟨rfl, R1'.out, M1'.out⟩
  · have hT := hid (show (tByte t).1 = 0 by unfold tByte; rw [h0]; rfl)
    rw [h0] at C
    have CH := hid C
    have hT2 := hid (show (tByte t).2 = (tBytes 1 t).2 from rfl)
    clear C h0 H hr
    go_enter Try.func30, Try.ntmps30
    go_wp2_with (go_at_call 32; refine CH.out.mono ?_; rintro e w1 ⟨v1, rfl, O1, ho1, R1, M1⟩; obtain ⟨pp, cc, rfl⟩ := O1.none; have R1' := hid R1; have M1' := hid M1; clear O1 ho1 R1 M1)
    go_ret
    rw [hT.out, hT2.out]
    exact ⟨rfl, R1'.out, M1'.out⟩
end Go.Proofs.Ytpbkdjnogjmfcaa

/- The document's reader: a short number, a hash. -/
namespace Go.Proofs.Ytpbkdjnogjmfcaa
open Go.RowKit Go.ChangeMaps

set_option maxRecDepth 100000 in
set_option maxHeartbeats 2000000 in
theorem tpShort_c {w : World} {r : Nat} {N : Nat → Prop} {t : Tp} (H : Rd 64 w r N t) (hr : N r) (hl : t.1.length ≤ 100000) (m : Nat) (hm : m ≤ 1000) :
    Calls Try.prog 33 #[.pointer (some ⟨r, 0, none⟩), .int .u64 m] w fun e w' => e = .returned (.int .i64 (tShort m t).1) ∧ Rd 64 w' r N (tShort m t).2 ∧ Mod (fun k => k = r) w w' := by
  obtain ⟨vb, B, hb, ho⟩ := H
  obtain ⟨xs, ec⟩ := t
  simp only at B hb ho hl
  have c0 := B.cellv (i := 0) rfl
  have c1 := B.cellv (i := 1) rfl
  have BH := hid B; have HB := hid hb; have HO := hid ho; have HR := hid hr
  have C0 := rtake_c hb hl
  unfold RTakeAns at C0
  rcases takeN_or xs with ⟨n, k, hq⟩ | ⟨c, hc, hq⟩
  · obtain ⟨_, _, hn64⟩ := takeN_put hq
    rw [hq] at C0
    simp only [if_true] at C0
    have C := hid C0
    have hlen2 := hid (show 0 < (xs.drop k).length → 0 < xs.length from fun h => by rw [List.length_drop] at h; omega)
    clear C0
    by_cases he : ec = 0
    · subst he
      by_cases hnm : n ≤ m
      · have hni : ¬ (m : Int) < (n : Int) := by omega
        have hn63 : (n : Int) < 9223372036854775808 := by omega
        have hT := hid (tShort_yes hq hnm)
        have HF := hid (show tFail (decide (m < n)) (xs.drop k, 0) = (xs.drop k, 0) from by rw [decide_eq_false (by omega)]; exact if_neg (fun h => by cases h.1))
        clear B hb ho hr hq
        go_enter Try.func33, Try.ntmps33
        go_wp2_with (first
          | (go_at_call 31; ((with_reducible refine (tpFail_c K.out.1 HR.out (decide (m < n))).mono ?_); rintro e w2 ⟨rfl, R2, M2⟩); have g1 := R2.cell1; rw [HF.out] at g1 R2; have R2' := hid R2; have M2' := hid M2; clear R2 M2)
          | (go_at_call 50; refine C.out.mono ?_; rintro e w1 ⟨⟨v2, rfl, O2, o2⟩, L1⟩; obtain ⟨p2, m2, c2, rfl⟩ := O2.form; obtain ⟨d0, f0⟩ := cell_later L1 BH.out (i := 0) rfl; obtain ⟨d1, f1⟩ := cell_later L1 BH.out (i := 1) rfl; have L1' := hid L1; have K := hid (Rd.put (e' := 0) BH.out L1 HR.out rfl (O2.below L1) (fun h0 k hk => HO.out (hlen2.out h0) k (o2 k hk))); clear O2 L1 o2))
        go_ret
        rw [hT.out]
        exact ⟨rfl, R2'.out, K.out.2.2.trans M2'.out⟩
      · have hni : (m : Int) < (n : Int) := by omega
        have hT := hid (tShort_big hq (Nat.lt_of_not_le hnm))
        have HF := hid (show tFail true (xs.drop k, 0) = (xs.drop k, 3) from if_pos ⟨rfl, rfl⟩)
        clear B hb ho hr hq
        go_enter Try.func33, Try.ntmps33
        go_wp2_with (first
          | (go_at_call 31; ((with_reducible refine (tpFail_c K.out.1 HR.out true).mono ?_); rintro e w2 ⟨rfl, R2, M2⟩); have g1 := R2.cell1; rw [HF.out] at g1 R2; have R2' := hid R2; have M2' := hid M2; clear R2 M2)
          | (go_at_call 50; refine C.out.mono ?_; rintro e w1 ⟨⟨v2, rfl, O2, o2⟩, L1⟩; obtain ⟨p2, m2, c2, rfl⟩ := O2.form; obtain ⟨d0, f0⟩ := cell_later L1 BH.out (i := 0) rfl; obtain ⟨d1, f1⟩ := cell_later L1 BH.out (i := 1) rfl; have L1' := hid L1; have K := hid (Rd.put (e' := 0) BH.out L1 HR.out rfl (O2.below L1) (fun h0 k hk => HO.out (hlen2.out h0) k (o2 k hk))); clear O2 L1 o2))
        go_ret
        rw [hT.out]
        exact ⟨rfl, R2'.out, K.out.2.2.trans M2'.out⟩
    · have he2 : (ec == 0) = false := by simp; exact he
      have hT := hid (tShort_err (m := m) (t := (xs, ec)) he)
      clear B hb ho hr hq he hn64
      go_enter Try.func33, Try.ntmps33
      go_wp2_with (go_at_call 50; refine C.out.mono ?_; rintro e w1 ⟨⟨v2, rfl, O2, o2⟩, L1⟩; obtain ⟨p2, m2, c2, rfl⟩ := O2.form; obtain ⟨d0, f0⟩ := cell_later L1 BH.out (i := 0) rfl; obtain ⟨d1, f1⟩ := cell_later L1 BH.out (i := 1) rfl; have L1' := hid L1; clear O2 L1 o2)
      go_ret
      rw [hT.out]
      exact ⟨rfl, Rd.below ⟨vb, BH.out, HB.out, HO.out⟩ L1'.out, Mod.of_below L1'.out _⟩
  · rw [hq] at C0
    simp only [if_neg hc] at C0
    have C := hid C0
    clear C0
    by_cases he : ec = 0
    · subst he
      have hci : (c == 0) = false := by simp; exact hc
      have hT := hid (tShort_no (m := m) hq hc)
      have HF := hid (show tFail (decide ((m : Int) < 0)) (xs, c) = (xs, c) from tFail_err hc)
      clear B hb ho hr hq hc
      go_enter Try.func33, Try.ntmps33
      go_wp2_with (first
        | (go_at_call 31; ((with_reducible refine (tpFail_c K.out.1 HR.out (decide ((m : Int) < 0))).mono ?_); rintro e w2 ⟨rfl, R2, M2⟩); have g1 := R2.cell1; rw [HF.out] at g1 R2; have R2' := hid R2; have M2' := hid M2; clear R2 M2)
        | (go_at_call 50; refine C.out.mono ?_; rintro e w1 ⟨rfl, L1⟩; obtain ⟨d0, f0⟩ := cell_later L1 BH.out (i := 0) rfl; obtain ⟨d1, f1⟩ := cell_later L1 BH.out (i := 1) rfl; have L1' := hid L1; have K := hid (Rd.put1 (e' := c) BH.out L1 HR.out rfl HB.out HO.out); clear L1))
      go_ret
      rw [hT.out]
      exact ⟨rfl, R2'.out, K.out.2.trans M2'.out⟩
    · have he2 : (ec == 0) = false := by simp; exact he
      have hT := hid (tShort_err (m := m) (t := (xs, ec)) he)
      clear B hb ho hr hq he hc
      go_enter Try.func33, Try.ntmps33
      go_wp2_with (go_at_call 50; refine C.out.mono ?_; rintro e w1 ⟨rfl, L1⟩; obtain ⟨d0, f0⟩ := cell_later L1 BH.out (i := 0) rfl; obtain ⟨d1, f1⟩ := cell_later L1 BH.out (i := 1) rfl; have L1' := hid L1; clear L1)
      go_ret
      rw [hT.out]
      exact ⟨rfl, Rd.below ⟨vb, BH.out, HB.out, HO.out⟩ L1'.out, Mod.of_below L1'.out _⟩
end Go.Proofs.Ytpbkdjnogjmfcaa

/- The document's reader: a hash. -/
namespace Go.Proofs.Ytpbkdjnogjmfcaa
open Go.RowKit Go.ChangeMaps

/-- The first i bytes of a hash, laid over noughts. -/
def fl32 (ys : List W8) (i : Nat) : Nat → Value := fun j => if j < i then .int .u8 (ub (ys.getD j 0)) else .int .u8 (ub (zero32.getD j 0))
set_option maxRecDepth 100000 in
set_option maxHeartbeats 2000000 in
theorem tpHash_c {w : World} {r : Nat} {N : Nat → Prop} {t : Tp} (H : Rd 64 w r N t) (hr : N r) (hl : t.1.length ≤ 100000) :
    Calls Try.prog 34 #[.pointer (some ⟨r, 0, none⟩)] w fun e w' => e = .returned (.agg (hl32 (tHash t).1)) ∧ Rd 64 w' r N (tHash t).2 ∧ Mod (fun k => k = r) w w' := by
  obtain ⟨zs, hzs⟩ : ∃ zs, zs = hl32 zero32 := ⟨_, rfl⟩
  have hz : ∀ W : World, (zeroValue 22).run Try.prog W = .ok (.agg zs) W := by rw [hzs]; exact zero_h32
  have F0 := hid (show Fn (w.alloc (.cells zs 22)) w.heap.size 22 32 _ by rw [hzs]; exact Fn.arr w _ 32 _)
  have F1 := hid (show Fn ((w.alloc (.cells zs 22)).alloc (.cells zs 22)) (w.heap.size + 1) 22 32 (fl32 [] 0) by
    have := Fn.arr (w.alloc (.cells zs 22)) 22 32 (fl32 [] 0)
    rw [show arr 32 (fl32 [] 0) = zs from by rw [hzs]; rfl] at this
    simpa using this)
  have hz0 := hid (show zs.size = 32 by rw [hzs]; exact hl32_size _)
  have hz1 := hid (show zs.all (·.oneCell') = true by rw [hzs]; exact hl32_one _)
  have F2 := hid (show Fn (((w.alloc (.cells zs 22)).alloc (.cells zs 22)).setCells (w.heap.size + 1) 0 zs.toList) (w.heap.size + 1) 22 32 (fl32 [] 0) from F1.out.storeAll' (g := fl32 [] 0) (by rw [hzs]; rfl))
  have F0' := hid (show Fn (((w.alloc (.cells zs 22)).alloc (.cells zs 22)).setCells (w.heap.size + 1) 0 zs.toList) w.heap.size 22 32 _ from (F0.out.alloc _).setCells_other _ (by omega))
  have L0 : Below w.heap.size w (((w.alloc (.cells zs 22)).alloc (.cells zs 22)).setCells (w.heap.size + 1) 0 zs.toList) := by
    have ML : Mod (fun k => w.heap.size ≤ k) w ((w.alloc (.cells zs 22)).alloc (.cells zs 22)) := ((Mod.refl _ w).alloc _).alloc _
    exact (Mod.setCells (S := fun k => w.heap.size ≤ k) _ 0 _ ML (fun hh => by omega)).below (Nat.le_refl _) (fun k hk hh => by omega)
  have hsz2 := hid (Fn.lt F2.out)
  have HZ := hid hzs
  obtain ⟨w2, hw2⟩ : ∃ w2, w2 = (((w.alloc (.cells zs 22)).alloc (.cells zs 22)).setCells (w.heap.size + 1) 0 zs.toList) := ⟨_, rfl⟩
  rw [← hw2] at L0 F2 F0' hsz2
  have R0 := hid ((H.grow (N' := fun k => N k ∨ k = w.heap.size ∨ k = w.heap.size + 1) (fun k hk => by rcases hk with hk | hk | hk; exact Or.inl hk; exact Or.inr (by omega); exact Or.inr (by omega))).below L0)
  have C := hid (tpBytes_c R0.out (Or.inl hr) hl 32 (by decide))
  have hrlt := hid H.lt
  have LL := hid L0
  clear hzs H hr L0
  have fin : ∀ (ys : List W8) (t' : Tp) (w4 : World), (tHash t) = (ys, t') → Hid (Rd 64 w4 r (fun k => N k ∨ k = w.heap.size ∨ k = w.heap.size + 1) t') → Hid (Mod (fun k => k = r) w w4) → Hid (Fn w4 w.heap.size 22 32 (fun i => .int .u8 (ub (zero32.getD i 0)))) →
      (Hid (Fn (w4.setCells w.heap.size 0 (hl32 ys).toList) w.heap.size 22 32 (fun i => .int .u8 (ub (ys.getD i 0))))) ∧ Rd 64 (w4.setCells w.heap.size 0 (hl32 ys).toList) r N t' ∧ Mod (fun k => k = r) w (w4.setCells w.heap.size 0 (hl32 ys).toList) := by
    intro ys t' w4 _ R4 M4 F4
    refine ⟨hid (F4.out.storeAll (fun j => .int .u8 (ub (ys.getD j 0)))), (R4.out.mod (S := fun k => k = w.heap.size) (Mod.setCells (S := fun k => k = w.heap.size) _ 0 w4 (Mod.refl _ _) (fun _ => rfl)) (fun e => by have := hrlt.out; omega) (fun k hk => Or.inr (Or.inl hk))).grow (fun k hk => Or.inl (Or.inl hk)), Mod.setCells (S := fun k => k = r) _ 0 w4 M4.out (fun hh => by omega)⟩
  have FIN := hid fin
  clear fin
  go_enter Try.func34, Try.ntmps34
  go_upto_region 2 with (refine wpList_store_mid rfl 22 (.tmp 3) (.tmp 6) rfl (w.heap.size + 1) 0 zs rfl rfl (there_set F1.out hz0.out) (by rw [hz0.out]; kernel_rfl) hz1.out ?_)
  rw [← hw2]
  clear hw2
  rcases tBytes_len 32 t with h1 | h0
  · have hT := hid (show tHash t = ((tBytes 32 t).1, (tBytes 32 t).2) from Prod.ext (if_neg (by omega)) rfl)
    obtain ⟨ys, hys⟩ : ∃ ys, ys = (tBytes 32 t).1 := ⟨_, rfl⟩
    rw [← hys] at C hT h1
    have hy := hid h1
    clear hys h1
    go_upto_region 4 with (go_at_call 32; refine C.out.mono ?_; rintro e w3 ⟨v2, rfl, O2, o2, R2, M2⟩; obtain ⟨p2, c2, e2, hq⟩ := O2; rw [hy.out] at e2 hq; obtain ⟨b2, of2, rfl, hb2, hlc2, _, hsrc⟩ := hq (by decide); subst e2; have HS := hid hsrc; have ho2 := hid (o2 (by rw [hy.out]; decide) b2 rfl); have R2' := hid R2; have M2' := hid M2; clear R2 M2 hq hsrc o2)
    have hb2' := hid hb2
    have F3 := hid (F2.out.mod M2'.out (fun e => by have := hrlt.out; omega))
    have G3 := hid (F0'.out.mod M2'.out (fun e => by have := hrlt.out; omega))
    have MM := hid (show Mod (fun k => k = r) w w3 from (Mod.of_below LL.out _).trans M2'.out)
    have hne2 : ¬ b2 = w.heap.size + 1 := fun e => ho2.out (Or.inr (Or.inr e))
    clear hb2
    go_loopg [5] 32 (fun g v5 wr => ∃ i : Nat, v5 = .int .i64 i ∧ g = 32 - i ∧ i ≤ 32 ∧ Hid (Fn wr (w.heap.size + 1) 22 32 (fl32 ys i)) ∧ Hid (Fn wr w.heap.size 22 32 (fun i => .int .u8 (ub (zero32.getD i 0)))) ∧ Hid (Src wr b2 of2 ys) ∧ Hid (Rd 64 wr r (fun k => N k ∨ k = w.heap.size ∨ k = w.heap.size + 1) (tBytes 32 t).2) ∧ Hid (Mod (fun k => k = r) w wr))
    case atStart => exact ⟨0, rfl, rfl, by omega, hid (F3.out.congr (fun j _ => rfl)), G3, HS, R2', MM⟩
    case round =>
      obtain ⟨i, rfl, hg, hi, FF, GG, SS, RR, MR⟩ := hrel
      by_cases h32 : i < 32
      · have h32i : (i : Int) < 32 := by omega
        have c0 := SS.out i (by rw [hy.out]; exact h32)
        have c1 := FF.out.cell h32
        have f1 := FF.out.frozen i
        have FF2 := hid (show Fn (wr.setCell ⟨w.heap.size + 1, i, none⟩ (.int .u8 (ub (ys.getD i 0)))) (w.heap.size + 1) 22 32 (fl32 ys (i + 1)) from (FF.out.set i _).congr (fun j hj => by
          unfold set1 fl32
          by_cases e : j = i
          · subst e; rw [if_pos rfl, if_pos (by omega)]
          · rw [if_neg e]
            by_cases e2 : j < i
            · rw [if_pos e2, if_pos (by omega)]
            · rw [if_neg e2, if_neg (by omega)]))
        have MS := hid ((Mod.refl (fun k => k = w.heap.size + 1) wr).setCell (p := ⟨w.heap.size + 1, i, none⟩) (fun _ => rfl) (.int .u8 (ub (ys.getD i 0))))
        have GG2 := hid (GG.out.mod MS.out (fun e => by omega))
        have SS2 := hid (SS.out.of_block (w' := wr.setCell ⟨w.heap.size + 1, i, none⟩ (.int .u8 (ub (ys.getD i 0)))) (Below.heap_setCell _ _ _ _ hne2))
        have RR2 := hid (RR.out.mod MS.out (fun e => by have := hrlt.out; omega) (fun k hk => Or.inr (Or.inr hk)))
        have MR2 := hid (MR.out.setCell (p := ⟨w.heap.size + 1, i, none⟩) (fun h => by simp at h; omega) (.int .u8 (ub (ys.getD i 0))))
        clear FF GG SS RR MR MS
        go_wp2
        go_roundg (32 - (i + 1))
        case measure => omega
        case rel => exact ⟨i + 1, by go_num, rfl, by omega, FF2, GG2, SS2, RR2, MR2⟩
      · have h32' : i = 32 := by omega
        subst h32'
        have RG := hid (show wr.rangeAt (w.heap.size + 1) 0 (hl32 ys).toList from FF.out.range' (hl32 ys) (hl32_size _) (fun j hj => by
          unfold hl32 fl32
          rw [arr_get _ _ hj, if_pos hj]))
        have FE := hid (FIN.out ys _ wr hT.out RR MR GG)
        have hT1 := hid (show (tHash t).1 = ys by rw [hT.out])
        have hT2 := hid (show (tHash t).2 = (tBytes 32 t).2 by rw [hT.out])
        clear FF SS RR MR
        go_wp2_with (first
          | (refine wpList_load_mid rfl 22 (.tmp 3) rfl (w.heap.size + 1) 0 rfl (hl32 ys).toList _ RG.out Try.underlying22 rfl (by rw [Array.length_toList, hl32_size]; kernel_rfl) ?_)
          | (refine wpList_store_mid rfl 22 (.tmp 2) (.tmp 21) rfl w.heap.size 0 (hl32 ys) rfl rfl (there_set GG.out (hl32_size _)) (by rw [hl32_size]; kernel_rfl) (hl32_one _) ?_))
        obtain ⟨FE1, FE2, FE3⟩ := FE.out
        obtain ⟨cs9, g1, g2, g3⟩ := FE1.out
        have hcs9 := arr_ext g2 g3
        subst hcs9
        rw [hT1.out, hT2.out]
        exact bodyPost_ret (v := .agg (hl32 ys)) (results_cell_row (t := 22) (fr := (0, 0)) rfl _ _ w.heap.size _ _ rfl g1 Try.underlying22 rfl (by rw [hl32_size]; kernel_rfl)) rfl ⟨rfl, FE2, FE3⟩
  · have hT := hid (show tHash t = (zero32, (tBytes 32 t).2) from Prod.ext (if_pos (by rw [h0]; decide)) rfl)
    rw [h0] at C
    clear h0
    go_upto_region 4 with (go_at_call 32; refine C.out.mono ?_; rintro e w3 ⟨v2, rfl, O2, o2, R2, M2⟩; obtain ⟨p2, c2, rfl⟩ := O2.none; have R2' := hid R2; have M2' := hid M2; clear R2 M2 O2 o2)
    have F3 := hid (F2.out.mod M2'.out (fun e => by have := hrlt.out; omega))
    have G3 := hid (F0'.out.mod M2'.out (fun e => by have := hrlt.out; omega))
    have MM := hid (show Mod (fun k => k = r) w w3 from (Mod.of_below LL.out _).trans M2'.out)
    have RG := hid (show w3.rangeAt (w.heap.size + 1) 0 (hl32 zero32).toList from F3.out.range' (hl32 zero32) (hl32_size _) (fun j hj => by
      unfold hl32 fl32
      rw [arr_get _ _ hj, if_neg (by omega)]))
    have FE := hid (FIN.out zero32 _ w3 hT.out R2' MM G3)
    have hT1 := hid (show (tHash t).1 = zero32 by rw [hT.out])
    have hT2 := hid (show (tHash t).2 = (tBytes 32 t).2 by rw [hT.out])
    go_loopg [5] 1 (fun g v5 wr => v5 = .int .i64 0 ∧ w3 = wr)
    case atStart => exact ⟨rfl, rfl⟩
    case round =>
      obtain ⟨rfl, rfl⟩ := hrel
      go_wp2_with (first
        | (refine wpList_load_mid rfl 22 (.tmp 3) rfl (w.heap.size + 1) 0 rfl (hl32 zero32).toList _ RG.out Try.underlying22 rfl (by rw [Array.length_toList, hl32_size]; kernel_rfl) ?_)
        | (refine wpList_store_mid rfl 22 (.tmp 2) (.tmp 21) rfl w.heap.size 0 (hl32 zero32) rfl rfl (there_set G3.out (hl32_size _)) (by rw [hl32_size]; kernel_rfl) (hl32_one _) ?_))
      obtain ⟨FE1, FE2, FE3⟩ := FE.out
      obtain ⟨cs9, g1, g2, g3⟩ := FE1.out
      have hcs9 := arr_ext g2 g3
      subst hcs9
      rw [hT1.out, hT2.out]
      exact bodyPost_ret (v := .agg (hl32 zero32)) (results_cell_row (t := 22) (fr := (0, 0)) rfl _ _ w.heap.size _ _ rfl g1 Try.underlying22 rfl (by rw [hl32_size]; kernel_rfl)) rfl ⟨rfl, FE2, FE3⟩
end Go.Proofs.Ytpbkdjnogjmfcaa

/- The document's reader: a cell. -/
namespace Go.Proofs.Ytpbkdjnogjmfcaa
open Go.RowKit Go.ChangeMaps

set_option maxRecDepth 100000 in
set_option maxHeartbeats 2000000 in
theorem tpCell_c {w : World} {r : Nat} {N : Nat → Prop} {t : Tp} (H : Rd 64 w r N t) (hr : N r) (hl : t.1.length ≤ 100000) :
    Calls Try.prog 35 #[.pointer (some ⟨r, 0, none⟩)] w fun e w' => ∃ v, e = .returned (.agg #[.int .i64 (tCell t).1.1, v]) ∧ Bytes w' v (tCell t).1.2 ∧ (0 < (tCell t).1.2.length → ∀ k, v.ownBlock = some k → ¬ N k) ∧ Rd 64 w' r N (tCell t).2 ∧ Mod (fun k => k = r) w w' := by
  have L0 := hid ((Below.refl w.heap.size w).alloc (Nat.le_refl _) (.cells #[.int .i64 0, .slice none 0 0] 50))
  have hrlt := hid H.lt
  have B0 := hid (Blk.new w #[.int .i64 0, .slice none 0 0] 50)
  have R0 := hid ((H.grow (N' := fun k => N k ∨ k = w.heap.size) (fun k hk => by rcases hk with hk | hk; exact Or.inl hk; exact Or.inr (by omega))).below L0.out)
  have HR := hid hr
  have C := hid (tpByte_c R0.out (Or.inl hr) hl)
  have hl1 := hid (show (tByte t).2.1.length ≤ 100000 from Nat.le_trans (tByte_le t) hl)
  have hl2 := hid (show (tByte (tByte t).2).2.1.length ≤ 100000 from Nat.le_trans (tByte_le _) hl1.out)
  have hC := hid (@tCell_C t); have hH := hid (@tCell_H t); have hX := hid (@tCell_X t)
  obtain ⟨x, hx⟩ : ∃ x, x = (tByte t).1 := ⟨_, rfl⟩
  obtain ⟨t1, ht1⟩ : ∃ t1, t1 = (tByte t).2 := ⟨_, rfl⟩
  rw [← hx, ← ht1] at C hC hH hX
  rw [← ht1] at hl1 hl2
  obtain ⟨y, hy⟩ : ∃ y, y = (tByte t1).1 := ⟨_, rfl⟩
  obtain ⟨t2, ht2⟩ : ∃ t2, t2 = (tByte t1).2 := ⟨_, rfl⟩
  have hy' := hid hy; have ht2' := hid ht2
  rw [← hy, ← ht2] at hC hH hX
  rw [← ht2] at hl2
  obtain ⟨hx0, hx1⟩ := ub_bd x
  obtain ⟨hy0, hy1⟩ := ub_bd y
  clear H hr hx ht1 hy ht2 hl
  go_enter Try.func35, Try.ntmps35
  go_upto_region 2 with (go_at_call 30; refine C.out.mono ?_; rintro e w1 ⟨rfl, R1, M1⟩; have R1' := hid R1; have M1' := hid M1; clear R1 M1)
  have L1 := hid ((Below.refl w1.heap.size w1).alloc (Nat.le_refl _) (.cells #[.int .i64 (ub x), .slice none 0 0] 50))
  have B1 := hid (Blk.new w1 #[.int .i64 (ub x), .slice none 0 0] 50)
  have R2 := hid ((R1'.out.grow (N' := fun k => (N k ∨ k = w.heap.size) ∨ k = w1.heap.size) (fun k hk => by rcases hk with hk | hk; exact Or.inl hk; exact Or.inr (by omega))).below L1.out)
  have h01 := hid M1'.out.size
  have C2 := hid (tpByte_c R2.out (Or.inl (Or.inl HR.out)) hl1.out)
  rw [← hy'.out, ← ht2'.out] at C2
  go_upto_region 3 with (go_at_call 30; refine C2.out.mono ?_; rintro e w2 ⟨rfl, R3, M2⟩; have R3' := hid R3; have M2' := hid M2; clear R3 M2)
  have hb1 := hid (show w.heap.size < w1.heap.size by have := h01.out; simp at this; omega)
  have B0a := hid (M1'.out.blk B0.out (fun e => by have := hrlt.out; omega))
  have B0b := hid (M2'.out.blk (B0a.out.alloc _) (fun e => by have := hrlt.out; omega))
  have B1b := hid (M2'.out.blk B1.out (fun e => by have := hrlt.out; have := hb1.out; omega))
  have MA := hid (show Mod (fun k => k = r) w w2 from (((Mod.of_below L0.out _).trans M1'.out).trans (Mod.of_below L1.out _)).trans M2'.out)
  have hne : ¬ w.heap.size = w1.heap.size := by have := hb1.out; omega
  have hne' : ¬ w1.heap.size = w.heap.size := by have := hb1.out; omega
  have h12 := hid M2'.out.size
  by_cases h67 : y = 67
  · have HTT := hid (hC.out h67)
    have e67 : ub y = 67 := by rw [h67]; rfl
    rw [e67]
    have C2f := hid (tpFail_c R3'.out (Or.inl (Or.inl HR.out)) false)
    have HF := hid (show tFail false t2 = t2 from if_neg (fun h => by cases h.1))
    clear e67 hy0 hy1 h67
    go_upto_region 4 with (go_at_call 31; ((with_reducible refine C2f.out.mono ?_); rintro e w4 ⟨rfl, R5, M5⟩); rw [HF.out] at R5; have R5' := hid R5; have M5' := hid M5; clear R5 M5)
    have B0d := hid (M5'.out.blk B0b.out (fun e => by have := hrlt.out; omega))
    have B1d := hid (M5'.out.blk B1b.out (fun e => by have := hrlt.out; have := hb1.out; omega))
    have C3 := hid (tpBytes_c R5'.out (Or.inl (Or.inl HR.out)) hl2.out 256 (by decide))
    go_wp2_with (go_at_call 32; refine C3.out.mono ?_; rintro e w3 ⟨v3, rfl, O3, o3, R4, M3⟩; obtain ⟨p3, m3, c3, rfl⟩ := O3.form; have B0c := M3.blk B0d.out (fun e => by have := hrlt.out; omega); have B1c := M3.blk B1d.out (fun e => by have := hrlt.out; have := hb1.out; omega); have a0 := B0c.cellv (i := 0) rfl; have a1 := B0c.cellv (i := 1) rfl; have f0 := B0c.frozen 0; have f1 := B0c.frozen 1; have d0 := B1c.cellv (i := 0) rfl; have d1 := B1c.cellv (i := 1) rfl; have g0 := B1c.frozen 0; have g1 := B1c.frozen 1; have O3' := hid O3; have o3' := hid o3; have R4' := hid R4; have M3' := hid M3; clear O3 o3 R4 M3 B0c B1c)
    rw [HTT.out]
    have hrl := hrlt.out
    have hbl := hb1.out
    have h12' := h12.out
    simp at h12'
    obtain ⟨RF, MF⟩ := cell_fin R4'.out ((MA.out.trans M5'.out).trans M3'.out) (Nat.le_refl _) (Nat.le_of_lt hbl) hrl ((((Mod.refl _ w3).setCell (p := ⟨w1.heap.size, 1, none⟩) (fun _ => Or.inr rfl) (.slice p3 m3 c3)).setCell (p := ⟨w.heap.size, 0, none⟩) (fun _ => Or.inl rfl) (.int .i64 (ub x))).setCell (p := ⟨w.heap.size, 1, none⟩) (fun _ => Or.inl rfl) (.slice p3 m3 c3))
    refine bodyPost_ret (v := .agg #[.int .i64 (ub x), .slice p3 m3 c3]) (by simp [results, Try.results35, go_sem, a0, a1]) rfl ⟨_, rfl, ?_, fun h0 k hk hn => o3'.out h0 k hk (Or.inl (Or.inl hn)), RF, MF⟩
    refine O3'.out.mod' ((((Mod.refl (fun k => k = w.heap.size ∨ k = w1.heap.size) w3).setCell (p := ⟨w1.heap.size, 1, none⟩) (fun _ => Or.inr rfl) (.slice p3 m3 c3)).setCell (p := ⟨w.heap.size, 0, none⟩) (fun _ => Or.inl rfl) (.int .i64 (ub x))).setCell (p := ⟨w.heap.size, 1, none⟩) (fun _ => Or.inl rfl) (.slice p3 m3 c3)) (fun h0 k hk hh => o3'.out h0 k hk ?_)
    rcases hh with hh | hh
    · exact Or.inl (Or.inr hh)
    · exact Or.inr hh
  · have e67 : (ub y == 67) = false := by simp; exact fun h => h67 (ub_inj h)
    by_cases h72 : y = 72
    · have HTT := hid (hH.out h72)
      have e72 : ub y = 72 := by rw [h72]; rfl
      rw [e72]
      have C2f := hid (tpFail_c R3'.out (Or.inl (Or.inl HR.out)) false)
      have HF := hid (show tFail false t2 = t2 from if_neg (fun h => by cases h.1))
      clear e72 e67 hy0 hy1 h72 h67
      go_wp2_with (go_at_call 31; ((with_reducible refine C2f.out.mono ?_); rintro e w3 ⟨rfl, R4, M3⟩); rw [HF.out] at R4; have B0c := M3.blk B0b.out (fun e => by have := hrlt.out; omega); have B1c := M3.blk B1b.out (fun e => by have := hrlt.out; have := hb1.out; omega); have a0 := B0c.cellv (i := 0) rfl; have a1 := B0c.cellv (i := 1) rfl; have f0 := B0c.frozen 0; have f1 := B0c.frozen 1; have d0 := B1c.cellv (i := 0) rfl; have d1 := B1c.cellv (i := 1) rfl; have R4' := hid R4; have M3' := hid M3; clear R4 M3 B0c B1c)
      rw [HTT.out]
      have hrl := hrlt.out
      have hbl := hb1.out
      obtain ⟨RF, MF⟩ := cell_fin R4'.out (MA.out.trans M3'.out) (Nat.le_refl _) (Nat.le_of_lt hbl) hrl (((Mod.refl _ w3).setCell (p := ⟨w.heap.size, 0, none⟩) (fun _ => Or.inl rfl) (.int .i64 (ub x))).setCell (p := ⟨w.heap.size, 1, none⟩) (fun _ => Or.inl rfl) (.slice none 0 0))
      exact bodyPost_ret (v := .agg #[.int .i64 (ub x), .slice none 0 0]) (by simp [results, Try.results35, go_sem, a0, a1]) rfl ⟨_, rfl, (Ow.nil _ 0).bytes, fun h => absurd h (Nat.lt_irrefl 0), RF, MF⟩
    · have HTT := hid (hX.out h67 h72)
      have e72 : (ub y == 72) = false := by simp; exact fun h => h72 (ub_inj h)
      have n67 : (ub y != 67) = true := by simp; exact fun h => h67 (ub_inj h)
      have n72 : (ub y != 72) = true := by simp; exact fun h => h72 (ub_inj h)
      have C2f := hid (tpFail_c R3'.out (Or.inl (Or.inl HR.out)) true)
      have HF := hid (show tFail true t2 = tFail true t2 from rfl)
      clear h67 h72
      go_wp2_with (go_at_call 31; ((with_reducible refine C2f.out.mono ?_); rintro e w3 ⟨rfl, R4, M3⟩); rw [HF.out] at R4; have B0c := M3.blk B0b.out (fun e => by have := hrlt.out; omega); have B1c := M3.blk B1b.out (fun e => by have := hrlt.out; have := hb1.out; omega); have a0 := B0c.cellv (i := 0) rfl; have a1 := B0c.cellv (i := 1) rfl; have f0 := B0c.frozen 0; have f1 := B0c.frozen 1; have d0 := B1c.cellv (i := 0) rfl; have d1 := B1c.cellv (i := 1) rfl; have R4' := hid R4; have M3' := hid M3; clear R4 M3 B0c B1c)
      rw [HTT.out]
      have hrl := hrlt.out
      have hbl := hb1.out
      obtain ⟨RF, MF⟩ := cell_fin R4'.out (MA.out.trans M3'.out) (Nat.le_refl _) (Nat.le_of_lt hbl) hrl (((Mod.refl _ w3).setCell (p := ⟨w.heap.size, 0, none⟩) (fun _ => Or.inl rfl) (.int .i64 (ub x))).setCell (p := ⟨w.heap.size, 1, none⟩) (fun _ => Or.inl rfl) (.slice none 0 0))
      exact bodyPost_ret (v := .agg #[.int .i64 (ub x), .slice none 0 0]) (by simp [results, Try.results35, go_sem, a0, a1]) rfl ⟨_, rfl, (Ow.nil _ 0).bytes, fun h => absurd h (Nat.lt_irrefl 0), RF, MF⟩
end Go.Proofs.Ytpbkdjnogjmfcaa
