/- open and parse. -/
import Derived.Test.YtkehejkjifgieaaFrm
import Derived.Test.YtkehejkjifgieaaRel
import Derived.BigQuiet
namespace Go.Proofs.Ytkehejkjifgieaa
open Go.RowKit Go.ChangeMaps

/-- Do the bytes end with the first four of the hash of what stands ahead? -/
def opens (xs : List W8) : Prop := 5 ≤ xs.length ∧ (shaL (xs.take (xs.length - 4))).take 4 = xs.drop (xs.length - 4)
instance (xs : List W8) : Decidable (opens xs) := by unfold opens; infer_instance
def ansO (p : Option Addr) (cap : Nat) (xs : List W8) : Ending := if opens xs then .returned (.tuple #[.slice p (xs.length - 4) cap, .int .i64 0]) else .returned (.tuple #[.slice none 0 0, .int .i64 14])
set_option maxRecDepth 100000 in
set_option maxHeartbeats 1000000 in
theorem open_c {w : World} {p : Option Addr} {cap : Nat} {xs : List W8} (hB : Bytes w (.slice p xs.length cap) xs) (hl : xs.length ≤ 100000) :
    Calls Try.prog 27 #[.slice p xs.length cap] w fun e w' => e = ansO p cap xs ∧ Below w.heap.size w w' := by
  obtain ⟨n, hn⟩ : ∃ n, n = xs.length := ⟨_, rfl⟩
  have HN := hid hn
  by_cases h5 : 5 ≤ xs.length
  · obtain ⟨ad, rfl⟩ : ∃ ad, p = some ad := by
      rcases bytes_nil_or hB with ⟨c, e, e2⟩ | ⟨ad, c, e⟩
      · rw [e2] at h5; simp at h5
      · cases e; exact ⟨ad, rfl⟩
    obtain ⟨q, hq⟩ : ∃ q, q = xs.length - 4 := ⟨_, rfl⟩
    have CS := hid (shaSum_l (hB.take' q (by omega)) (by rw [List.length_take]; omega))
    have hz : ∀ W : World, (zeroValue 101).run Try.prog W = .ok (.agg (hl32 zero32)) W := zero_h32
    have hcap := (hB.len_le (by omega)).2
    have hsub : (n : Int) - 4 = (q : Int) := by omega
    have hq1 : ¬ (q : Int) < 1 := by omega
    have hq0 : 0 < q := by omega
    have hqn : (q : Int) ≤ (n : Int) := by omega
    have hqc : (q : Int) ≤ (cap : Int) := by omega
    have hncap : (n : Int) ≤ (cap : Int) := by omega
    obtain ⟨B, hBB⟩ : ∃ B, B = decide ((shaL (xs.take q)).take 4 = xs.drop q) := ⟨_, rfl⟩
    have HBB := hid hBB
    have hop : opens xs ↔ B = true := by rw [hBB, decide_eq_true_iff, hq]; exact ⟨fun h => h.2, fun h => ⟨h5, h⟩⟩
    have HX := hid hB
    have HQ := hid hq
    have hn1 : n ≤ 100000 := by omega
    rw [← hn] at HX ⊢
    obtain ⟨A, hA⟩ : ∃ A, A = ansO (some ad) cap xs := ⟨_, rfl⟩
    have HA := hid (show A = if B = true then .returned (.tuple #[.slice (some ad) q cap, .int .i64 0]) else .returned (.tuple #[.slice none 0 0, .int .i64 14]) from by
      rw [hA]; unfold ansO
      rw [← hq]
      by_cases h : opens xs
      · rw [if_pos h, if_pos (hop.1 h)]
      · rw [if_neg h, if_neg (fun e => h (hop.2 e))])
    rw [← hA]
    clear hA hB hBB hop hq h5 hl hcap hn
    go_enter Try.func27, Try.ntmps27
    go_upto_region 5 with (first
      | ((with_reducible refine at_op (.store 101 (.tmp 5) (.tmp 14)) rfl ?_); refine wpList_store_mid rfl 101 (.tmp 5) (.tmp 14) rfl w1.heap.size 0 (hl32 (shaL (xs.take q))) rfl rfl (hash_there _) (hl32_info _) (hl32_one _) ?_)
      | (go_at_call 41; refine CS.out.mono ?_; rintro e w1 ⟨rfl, hb1⟩; have B1 := hid hb1; clear hb1))
    obtain ⟨w2, hw2⟩ : ∃ w2, w2 = (w1.alloc (.cells (hl32 zero32) 101)).setCells w1.heap.size 0 (hl32 (shaL (xs.take q))).toList := ⟨_, rfl⟩
    obtain ⟨L, Y⟩ := hash_laid hw2 (shaL_length _)
    have L2 := hid (show Below w.heap.size w w2 from B1.out.trans (L.mono B1.out.size))
    have Y2 := hid (show Bytes w2 (.slice (some ⟨w1.heap.size, 0, none⟩) 4 32) ((shaL (xs.take q)).take 4) from by
      have := Bytes.take' (xs := shaL (xs.take q)) (p := some ⟨w1.heap.size, 0, none⟩) (cap := 32) (by rw [shaL_length]; exact Y) 4 (by rw [shaL_length]; decide)
      exact this)
    rw [← hw2]
    clear hw2 L Y
    obtain ⟨b5, hb5⟩ : ∃ b5, b5 = w1.heap.size := ⟨_, rfl⟩
    rw [← hb5] at Y2
    rw [← hb5]
    clear hb5
    have YD := hid (show Bytes w2 (.slice (some (cutAt ad cap q)) (n - q) (cap - q)) (xs.drop q) from by
      have := (HX.out.below L2.out)
      rw [HN.out] at this ⊢
      exact this.drop q (by have := HN.out; omega))
    have EQ := hid (fun W (h : Below w2.heap.size w2 W) => by
      have := equal_c (Y2.out.below h) (YD.out.below h)
      rw [← HBB.out] at this; exact this)
    have hrefl : ∀ w : World, Below w.heap.size w w := fun w => Below.refl _ w
    refine region_rel (n := 24) (B := fun w' => Below w2.heap.size w2 w') (E := fun w w' => Below w.heap.size w w') (φ := (fun (kq : Nat) (v : Value) (w : World) => v = ([.slice (some ⟨b5, 0, none⟩) 4 32, .slice (some ad) n cap, .int .i64 (q : Int), .slice (some (cutAt ad cap q)) (n - q) (cap - q), .bool B, .bool (!B)] : List Value).getD kq undef)) (by kernel_rfl) (by kernel_rfl) (by kernel_rfl) (by kernel_rfl) (fun _ _ _ _ h _ => h) hrefl ((Below.refl _ _).drew) ?hop ?hend
    case hop =>
      refine And.intro ?_ ?_
      · intro V ρ w hB hc hf hd hs
        have s5 : ρ (.tmp 5) = .pointer (some ⟨b5, 0, none⟩) := hs 5 (by kernel_rfl)
        clear hd hs
        refine outcome_value (v := .slice (some ⟨b5, 0, none⟩) 4 32) ?_ ⟨rfl, hB, hrefl w⟩
        simp [go_sem, hc, s5]
      refine And.intro ?_ ?_
      · intro V ρ w hB hc hf hd hs
        have s0 : ρ (.tmp 0) = .slice (some ad) n cap := hs 0 (by kernel_rfl)
        clear hd hs
        rw [BigFrame.run_move (.tmp 0) rfl]
        exact ⟨s0, hB, hrefl w⟩
      refine And.intro ?_ ?_
      · intro V ρ w hB hc hf hd hs
        have s4 : ρ (.tmp 4) = .int .i64 (q : Int) := hs 4 (by kernel_rfl)
        clear hd hs
        rw [BigFrame.run_move (.tmp 4) rfl]
        exact ⟨s4, hB, hrefl w⟩
      refine And.intro ?_ ?_
      · intro V ρ w hB hc hf hd hs
        have s16 : ρ (.tmp 16) = .slice (some ad) n cap := (hd 1 (by kernel_rfl) 16 (by kernel_rfl)).2.trans (hd 1 (by kernel_rfl) 16 (by kernel_rfl)).1
        have s17 : ρ (.tmp 17) = .int .i64 (q : Int) := (hd 2 (by kernel_rfl) 17 (by kernel_rfl)).2.trans (hd 2 (by kernel_rfl) 17 (by kernel_rfl)).1
        clear hd hs
        exact outcome_value (v := .slice (some (cutAt ad cap q)) (n - q) (cap - q)) (by simp [go_sem, sliced, s16, s17, hqn, cutAt]; split <;> rfl) ⟨rfl, hB, hrefl w⟩
      refine And.intro ?_ ?_
      · intro V ρ w hB hc hf hd hs
        have s15 : ρ (.tmp 15) = .slice (some ⟨b5, 0, none⟩) 4 32 := (hd 0 (by kernel_rfl) 15 (by kernel_rfl)).2.trans (hd 0 (by kernel_rfl) 15 (by kernel_rfl)).1
        have s18 : ρ (.tmp 18) = .slice (some (cutAt ad cap q)) (n - q) (cap - q) := (hd 3 (by kernel_rfl) 18 (by kernel_rfl)).2.trans (hd 3 (by kernel_rfl) 18 (by kernel_rfl)).1
        clear hd hs
        refine outcome_enter (w := w) (f := 42) (args := #[.slice (some ⟨b5, 0, none⟩) 4 32, .slice (some (cutAt ad cap q)) (n - q) (cap - q)]) (by simp [go_sem, hf, s15, s18]) ?_
        refine (EQ.out w hB).mono ?_
        rintro e w' ⟨rfl, rfl⟩
        exact ⟨_, rfl, rfl, hB, hrefl _⟩
      refine And.intro ?_ ?_
      · intro V ρ w hB hc hf hd hs
        have s19 : ρ (.tmp 19) = .bool B := (hd 4 (by kernel_rfl) 19 (by kernel_rfl)).2.trans (hd 4 (by kernel_rfl) 19 (by kernel_rfl)).1
        clear hd hs
        refine outcome_value (v := .bool (!B)) ?_ ⟨rfl, hB, hrefl w⟩
        simp [go_sem, s19]
      exact trivial
    case hend =>
      intro V w6 hB6 hV
      have v5 : V 5 = .bool (!B) := hV 5 (by decide)
      simp only [lexF, Act.put, List.setIfInBounds_toArray, List.set_cons_zero, List.set_cons_succ, v5]
      have B6 := hid (L2.out.trans (hB6.mono L2.out.size))
      clear hV hB6 v5 hrefl EQ
      cases B with
      | true =>
        go_wp2
        go_ret2
        exact ⟨(HA.out.trans (by simp)).symm, B6.out⟩
      | false =>
        go_wp2
        go_ret2
        exact ⟨(HA.out.trans (by simp)).symm, B6.out⟩
  · have hno : ¬ opens xs := fun h => h5 h.1
    unfold ansO
    simp only [if_neg hno]
    have e1 : (n : Int) - 4 < 1 := by omega
    rw [← hn]
    have hn1 : n ≤ 100000 := by omega
    clear hB hno h5 hl hn
    go_enter Try.func27, Try.ntmps27
    go_wp2
    go_ret2
    exact ⟨rfl, Below.refl _ _⟩
/-- What parse answers: why not (0: it does), the place, the message. -/
def parseX (x : List W8) : Int × Nat × List W8 :=
  if x.getD 0 0 = 68 ∧ 4 ≤ (x.drop 1).length ∧ (takeStr 500 ((x.drop 1).drop 4)).1 = 0 ∧ (takeStr 500 ((x.drop 1).drop 4)).2.2 = [] then (0, un32 (x.drop 1), (takeStr 500 ((x.drop 1).drop 4)).2.1) else (3, 0, [])
def parseB (xs : List W8) : Int × Nat × List W8 := if opens xs then parseX (xs.take (xs.length - 4)) else (14, 0, [])
set_option maxRecDepth 100000 in
set_option maxHeartbeats 2000000 in
theorem parse_c {w : World} {v : Value} {xs : List W8} (hB : Bytes w v xs) (hl : xs.length ≤ 100000) :
    Calls Try.prog 24 #[v] w fun e w' => (∃ v', e = .returned (.tuple #[.int .u32 ((parseB xs).2.1 : Int), v', .int .i64 (parseB xs).1]) ∧ Ow w' w.heap.size v' (parseB xs).2.2) ∧ Below w.heap.size w w' := by
  obtain ⟨p, cap, hv, hq0⟩ := hB
  subst hv
  have hB : Bytes w (.slice p xs.length cap) xs := ⟨p, cap, rfl, hq0⟩
  clear hq0
  have CO := hid (open_c hB hl)
  unfold ansO at CO
  unfold parseB
  by_cases ho : opens xs
  · simp only [if_pos ho] at CO ⊢
    obtain ⟨q, hq⟩ : ∃ q, q = xs.length - 4 := ⟨_, rfl⟩
    have h5 := ho.1
    obtain ⟨ad, rfl⟩ : ∃ ad, p = some ad := by
      rcases bytes_nil_or hB with ⟨c, e, e2⟩ | ⟨ad, c, e⟩
      · rw [e2] at h5; simp at h5
      · cases e; exact ⟨ad, rfl⟩
    have hcap := (hB.len_le (by omega)).2
    have hX := hB.take' q (by omega)
    rw [← hq] at CO ⊢
    obtain ⟨x, hx⟩ : ∃ x, x = xs.take q := ⟨_, rfl⟩
    have hxl : x.length = q := by rw [hx, List.length_take]; omega
    rw [← hx] at hX ⊢
    have hqc : q ≤ cap := by omega
    have hq1 : 1 ≤ q := by omega
    have hq5 : q ≤ 100000 := by omega
    obtain ⟨g, off, e, hc0⟩ : ∃ g off, (some ad : Option Addr) = some ⟨g, off, none⟩ ∧ w.cell? ⟨g, off, none⟩ = some (.int .u8 (ub (x.getD 0 0))) ∧ g < w.heap.size := by
      obtain ⟨p', c', e', hh⟩ := hX
      cases e'
      obtain ⟨g, off, e1, e2, _, _, e3⟩ := hh (by omega)
      exact ⟨g, off, e1, by have := e3 0 (by omega); simpa using this, e2⟩
    cases e
    obtain ⟨hc0, hgl⟩ := hc0
    have HC := hid hc0; have HX := hid hX; have HG := hid hgl; have HL := hid hxl
    have hqi : (1 : Int) ≤ (q : Int) := by omega
    have hqi0 : (0 : Int) < (q : Int) := by omega
    clear hc0 hX hx hB ho hcap h5 hgl hxl hq
    have D1 := hid (show Bytes w (.slice (some (cutAt ⟨g, off, none⟩ cap 1)) (q - 1) (cap - 1)) (x.drop 1) from by
      have hh := HX.out
      have hxl := HL.out
      rw [← hxl] at hh ⊢
      exact hh.drop 1 (by omega))
    obtain ⟨r, hr⟩ : ∃ r, r = parseX x := ⟨_, rfl⟩
    rw [← hr]
    unfold parseX at hr
    obtain ⟨x0, hx0⟩ : ∃ x0, x0 = x.getD 0 0 := ⟨_, rfl⟩
    obtain ⟨y, hy⟩ : ∃ y, y = x.drop 1 := ⟨_, rfl⟩
    have hyl := hid (show y.length ≤ 100000 by rw [hy, List.length_drop]; have := HL.out; omega)
    obtain ⟨s, hs⟩ : ∃ s, s = takeStr 500 (y.drop 4) := ⟨_, rfl⟩
    rw [← hx0, ← hy, ← hs] at hr
    rw [← hx0] at HC
    rw [← hy] at D1
    have HS := hid hs
    have HR := hid hr
    clear hx0 hy hs hr
    go_enter Try.func24, Try.ntmps24
    go_upto_region 4 with (go_at_call 27; refine CO.out.mono ?_; rintro e w1 ⟨rfl, hb1⟩; have B1 := hid hb1; clear hb1)
    have c0 : w1.cell? ⟨g, off, none⟩ = some (.int .u8 (ub x0)) := (B1.out.cell HG.out).trans HC.out
    have D1' := hid (D1.out.below B1.out)
    by_cases h68 : x0 = 68
    · have e68 : ub x0 = 68 := by rw [h68]; rfl
      rw [e68] at c0
      have CT := hid (take32_c D1'.out hyl.out)
      by_cases h4 : 4 ≤ y.length
      · simp only [if_pos h4] at CT
        obtain ⟨zz, hzz⟩ : ∃ zz, zz = y.drop 4 := ⟨_, rfl⟩
        have hzl := hid (show zz.length ≤ 100000 by rw [hzz, List.length_drop]; have := hyl.out; omega)
        rw [← hzz] at CT HS
        clear hzz
        go_upto_region 9 with (first
          | ((with_reducible refine at_op (.slice 29 (.tmp 23) (some (.const (.int .i64 1))) none none) rfl ?_); refine wpList_cut rfl (.tmp 23) (.const (.int .i64 1)) rfl (k := 1) rfl rfl rfl hq1 hqc ?_)
          | (go_at_call 28; refine CT.out.mono ?_; rintro e w2 ⟨⟨v2, rfl, O2⟩, hb2⟩; have P2 := hid O2; have B2 := hid (B1.out.trans (hb2.mono B1.out.size)); clear O2 hb2))
        obtain ⟨p2, c2, rfl⟩ := P2.out.slice
        have CTS := hid (takeString_k P2.out.bytes hzl.out 500 500 rfl (by decide) HS.out)
        go_upto_region 10 with (go_at_call 40; refine CTS.out.mono ?_; rintro e w3 ⟨⟨v3, v4, rfl, O3, O4⟩, hb3⟩; have P3 := hid (O3.lower B2.out.size); have P4 := hid O4; have B3 := hid (B2.out.trans (hb3.mono B2.out.size)); clear O3 O4 hb3; obtain ⟨p4, c4, rfl⟩ := P4.out.slice)
        by_cases h0 : s.1 = 0
        · have e0 : (s.1 != 0) = false := by rw [h0]; rfl
          by_cases hr : s.2.2 = []
          · have er : ¬ (0 : Int) < (s.2.2.length : Int) := by rw [hr]; decide
            go_wp2
            go_ret3
            rw [HR.out.trans (if_pos ⟨h68, h4, h0, hr⟩)]
            exact ⟨⟨_, rfl, P3.out⟩, B3.out⟩
          · have er : (0 : Int) < (s.2.2.length : Int) := by have := List.length_pos_iff.2 hr; omega
            go_wp2
            go_ret3
            have hneg : ¬ (x0 = 68 ∧ 4 ≤ y.length ∧ s.1 = 0 ∧ s.2.2 = []) := fun h => hr h.2.2.2
            rw [HR.out.trans (if_neg hneg)]
            exact ⟨⟨_, rfl, Ow.nil _ _⟩, B3.out⟩
        · have e0 : (s.1 != 0) = true := by simpa using h0
          go_wp2
          go_ret3
          have hneg : ¬ (x0 = 68 ∧ 4 ≤ y.length ∧ s.1 = 0 ∧ s.2.2 = []) := fun h => h0 h.2.2.1
          rw [HR.out.trans (if_neg hneg)]
          exact ⟨⟨_, rfl, Ow.nil _ _⟩, B3.out⟩
      · simp only [if_neg h4] at CT
        go_wp2_with (first
          | ((with_reducible refine at_op (.slice 29 (.tmp 23) (some (.const (.int .i64 1))) none none) rfl ?_); refine wpList_cut rfl (.tmp 23) (.const (.int .i64 1)) rfl (k := 1) rfl rfl rfl hq1 hqc ?_)
          | (go_at_call 28; refine CT.out.mono ?_; rintro e w2 ⟨rfl, hb2⟩; have B2 := hid (B1.out.trans (hb2.mono B1.out.size)); clear hb2))
        go_ret3
        have hneg : ¬ (x0 = 68 ∧ 4 ≤ y.length ∧ s.1 = 0 ∧ s.2.2 = []) := fun h => h4 h.2.1
        rw [HR.out.trans (if_neg hneg)]
        exact ⟨⟨_, rfl, Ow.nil _ _⟩, B2.out⟩
    · have e68 : (ub x0 != 68) = true := by
        have : ub x0 ≠ 68 := fun e => h68 (by
          apply BitVec.eq_of_toNat_eq
          have : (x0.toNat : Int) = 68 := e
          show x0.toNat = 68
          omega)
        simpa using this
      go_wp2
      go_ret3
      have hneg : ¬ (x0 = 68 ∧ 4 ≤ y.length ∧ s.1 = 0 ∧ s.2.2 = []) := fun h => h68 h.1
      rw [HR.out.trans (if_neg hneg)]
      exact ⟨⟨_, rfl, Ow.nil _ _⟩, B1.out⟩
  · simp only [if_neg ho] at CO ⊢
    clear hB ho hl
    go_enter Try.func24, Try.ntmps24
    go_wp2_with (go_at_call 27; refine CO.out.mono ?_; rintro e w1 ⟨rfl, hb1⟩; have B1 := hid hb1; clear hb1)
    go_ret3
    exact ⟨⟨_, rfl, Ow.nil _ _⟩, B1.out⟩
end Go.Proofs.Ytkehejkjifgieaa

