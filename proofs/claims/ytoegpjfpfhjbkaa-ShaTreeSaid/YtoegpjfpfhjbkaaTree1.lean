/- One hash of many hashes: the program's 'Tree'. -/
import Derived.Test.YtoegpjfpfhjbkaaTree0
namespace Go.Proofs.Ytoegpjfpfhjbkaa
open Go.RowKit Go.ChangeMaps

def treePhi (ga gb : Nat) (A B : Nat → W8) (kq : Nat) (v : Value) (w : World) : Prop :=
  match kq with
  | 0 => v = .slice (some ⟨ga, 0, none⟩) 32 32
  | 1 => v = .slice (some ⟨gb, 0, none⟩) 32 32
  | 2 => ∃ c, v = .slice (some ⟨c, 0, none⟩) 2 2 ∧ Parts w (some ⟨c, 0, none⟩) 2 (fun i => if i = 0 then bl A else bl B)
  | _ => v = .agg (hv (shaB (bl A ++ bl B)))
theorem treePhi_mono {ga gb : Nat} {A B : Nat → W8} : ∀ (j : Nat) (v : Value) (w w' : World), treePhi ga gb A B j v w → Below w.heap.size w w' → treePhi ga gb A B j v w' := by
  intro j v w w' h hb
  match j, h with
  | 0, h => exact h
  | 1, h => exact h
  | 2, ⟨c, h1, h2⟩ => exact ⟨c, h1, h2.below hb⟩
  | j + 3, h => exact h
theorem parts_two {w : World} {ga gb : Nat} {A B : Nat → W8} (Fa : Fn w ga 23 32 (fun i => .int .u8 (ub (A i)))) (Fb : Fn w gb 23 32 (fun i => .int .u8 (ub (B i)))) :
    Parts (w.alloc (.cells #[.slice (some ⟨ga, 0, none⟩) 32 32, .slice (some ⟨gb, 0, none⟩) 32 32] 22)) (some ⟨w.heap.size, 0, none⟩) 2 (fun i => if i = 0 then bl A else bl B) := by
  have La := Fa.lt; have Lb := Fb.lt
  intro i hi
  have hi2 : i = 0 ∨ i = 1 := by omega
  rcases hi2 with rfl | rfl
  · exact ⟨_, 0, _, rfl, by simp, (Blk.new w _ _).cellv rfl, bytes_blk (Fa.alloc _), fun _ k hk => by cases hk; simp; omega⟩
  · exact ⟨_, 0, _, rfl, by simp, (Blk.new w _ _).cellv rfl, bytes_blk (Fb.alloc _), fun _ k hk => by cases hk; simp; omega⟩
theorem parts_len (A B : Nat → W8) : ∀ k, k ≤ 2 → (flat (fun i => if i = 0 then bl A else bl B) k).length < 100000000 := by
  intro k hk
  have : k = 0 ∨ k = 1 ∨ k = 2 := by omega
  rcases this with rfl | rfl | rfl <;> simp [flat, bl_length]
theorem half_int {m : Nat} (h2 : 2 ≤ m) {l : Nat} (hl : l = lenN (m - 1)) : 1 ≤ l ∧ l ≤ 6 ∧ (2 : Int) ^ (l - 1) = (half m : Int) := by
  subst hl
  have := half_pow h2
  exact ⟨this.2.1, this.2.2, this.1⟩
set_option maxRecDepth 100000 in
set_option maxHeartbeats 4000000 in
theorem tree_c : ∀ (F n : Nat) (w : World) (p : Option Addr) (cap : Nat) (X : Nat → Nat → W8), n ≤ F → n ≤ 40 → Lv w p n cap X →
    Calls Try.prog 19 #[.slice p n cap] w fun e w' => e = .returned (.agg (hv (treeB F n X))) ∧ Below w.heap.size w w' := by
  intro F
  induction F with
  | zero =>
    intro n w p cap X hF h40 hL
    have : n = 0 := by omega
    subst this
    exact tree_0 w p cap
  | succ F ih =>
    intro n w p cap X hF h40 hL
    obtain ⟨zs, hzs⟩ : ∃ zs, zs = arr 32 (fun _ => Value.int .u8 0) := ⟨_, rfl⟩
    have hz : ∀ W : World, (zeroValue 23).run Try.prog W = .ok (.agg zs) W := by rw [hzs]; exact fun _ => rfl
    obtain ⟨w1, hw1⟩ : ∃ w1, w1 = w.alloc (.cells zs 23) := ⟨_, rfl⟩
    have L1 := hid (show Below w.heap.size w w1 by rw [hw1]; exact (Below.refl w.heap.size w).alloc (Nat.le_refl _) _)
    have Z1 := hid (show Fn w1 w.heap.size 23 32 (fun i => .int .u8 0) by rw [hw1, hzs]; exact Fn.arr w _ 32 _)
    have HL := hid hL
    have IH := hid ih
    clear ih hL
    by_cases h2 : 2 ≤ n
    · have hlt := half_lt h2
      obtain ⟨l, hl⟩ : ∃ l, l = lenN (n - 1) := ⟨_, rfl⟩
      obtain ⟨hln, hl6, hpw⟩ := half_int h2 hl
      have hlc : ∀ W : World, Calls Try.prog 28 #[.int .u64 ((n : Int) - 1)] W fun e w' => e = .returned (.int .i64 l) ∧ W = w' := fun W => by
        have := len_c W (n - 1) (by omega) (by omega)
        rw [← hl] at this
        rwa [show (((n - 1 : Nat)) : Int) = (n : Int) - 1 by omega] at this
      have hn0 : ((n : Int) == 0) = false := by simp; omega
      have hn1 : ((n : Int) == 1) = false := by simp; omega
      have hne0 : ¬ n = 0 := by omega
      have hne1 : ¬ n = 1 := by omega
      clear hzs hl
      go_enter Try.func19, Try.ntmps19
      go_upto_region 7 with (first
        | (go_at_call 28; refine (hlc _).mono ?_; rintro e w2 ⟨rfl, rfl⟩))
      rw [← hw1]
      have hn0' : 0 < n := by omega
      obtain ⟨bb, off, hp, hbb, _⟩ := HL.out.2.2 hn0'
      subst hp
      have hcapi : ((half n : Nat) : Int) ≤ (cap : Int) := by have := HL.out.1; omega
      have hcne : ¬ cap = half n := by have := HL.out.1; omega
      have hlti : ((half n : Nat) : Int) ≤ (n : Int) := by omega
      have LL1 := hid (HL.out.below L1.out)
      obtain ⟨A, hA⟩ : ∃ A, A = treeB F (half n) X := ⟨_, rfl⟩
      obtain ⟨B, hB⟩ : ∃ B, B = treeB F (n - half n) (fun i => X (half n + i)) := ⟨_, rfl⟩
      have IHa := hid (fun (w' : World) (hb : Below w1.heap.size w1 w') => (hA ▸ IH.out (half n) w' _ cap X (by omega) (by omega) ((LL1.out.below hb).left (by omega)) : Calls Try.prog 19 #[.slice (some ⟨bb, off, none⟩) (half n) cap] w' fun e w'' => e = .returned (.agg (hv A)) ∧ Below w'.heap.size w' w''))
      have IHb := hid (fun (w' : World) (hb : Below w1.heap.size w1 w') => (hB ▸ IH.out (n - half n) w' _ (cap - half n) (fun i => X (half n + i)) (by omega) (by omega) ((LL1.out.below hb).right (by omega)) : Calls Try.prog 19 #[.slice (some ⟨bb, off + half n * 32, none⟩) (n - half n) (cap - half n)] w' fun e w'' => e = .returned (.agg (hv B)) ∧ Below w'.heap.size w' w''))
      clear IH
      refine region_inv (n := 35) (I := Two w1 [.slice (some ⟨bb, off, none⟩) n cap, .int .i64 (half n : Int), .slice (some ⟨bb, off, none⟩) (half n) cap, .agg (hv A), .slice (some ⟨bb, off, none⟩) n cap, .int .i64 (half n : Int), .slice (some ⟨bb, off + half n * 32, none⟩) (n - half n) (cap - half n), .agg (hv B), undef, undef, undef, undef] 8 9 10 11 A B) (by kernel_rfl) (by kernel_rfl) (by kernel_rfl) (by kernel_rfl) (Two.start _ _ _ _ _ _ _ _) ?hop ?hend
      case hop =>
        refine And.intro ?_ ?_
        · intro L V ρ w' hI hk hc hf hd hs
          have s0 : ρ (.tmp 0) = .slice (some ⟨bb, off, none⟩) n cap := hs 0 (by kernel_rfl)
          clear hd hs
          rw [BigFrame.run_move (.tmp 0) rfl, s0]
          exact hI.val (Below.refl _ _) (by decide) (by decide) (by decide) (by decide) rfl
        refine And.intro ?_ ?_
        · intro L V ρ w' hI hk hc hf hd hs
          have s3 : ρ (.tmp 3) = .int .i64 (half n : Int) := hs 3 (by kernel_rfl)
          clear hd hs
          rw [BigFrame.run_move (.tmp 3) rfl, s3]
          exact hI.val (Below.refl _ _) (by decide) (by decide) (by decide) (by decide) rfl
        refine And.intro ?_ ?_
        · intro L V ρ w' hI hk hc hf hd hs
          have s23 : ρ (.tmp 23) = .slice (some ⟨bb, off, none⟩) n cap := ((hd 0 (by kernel_rfl)).2 23 (by kernel_rfl)).trans (hI.2.1 0 (by decide) (by decide) (hd 0 (by kernel_rfl)).1)
          have s24 : ρ (.tmp 24) = .int .i64 (half n : Int) := ((hd 1 (by kernel_rfl)).2 24 (by kernel_rfl)).trans (hI.2.1 1 (by decide) (by decide) (hd 1 (by kernel_rfl)).1)
          clear hd hs
          exact outcome_value (v := .slice (some ⟨bb, off, none⟩) (half n) cap) (by simp [go_sem, sliced, hc, hf, s23, s24, hcapi]) (hI.val (Below.refl _ _) (by decide) (by decide) (by decide) (by decide) rfl)
        refine And.intro ?_ ?_
        · intro L V ρ w' hI hk hc hf hd hs
          have s25 : ρ (.tmp 25) = .slice (some ⟨bb, off, none⟩) (half n) cap := ((hd 2 (by kernel_rfl)).2 25 (by kernel_rfl)).trans (hI.2.1 2 (by decide) (by decide) (hd 2 (by kernel_rfl)).1)
          clear hd hs
          refine outcome_enter (w := w') (f := 19) (args := #[.slice (some ⟨bb, off, none⟩) (half n) cap]) (by simp [go_sem, hc, hf, s25]) ?_
          refine (IHa.out w' hI.1).mono ?_
          rintro e w2 ⟨rfl, hb⟩
          exact ⟨_, rfl, hI.val hb (by decide) (by decide) (by decide) (by decide) rfl⟩
        refine And.intro ?_ ?_
        · intro L V ρ w' hI hk hc hf hd hs
          have s0 : ρ (.tmp 0) = .slice (some ⟨bb, off, none⟩) n cap := hs 0 (by kernel_rfl)
          clear hd hs
          rw [BigFrame.run_move (.tmp 0) rfl, s0]
          exact hI.val (Below.refl _ _) (by decide) (by decide) (by decide) (by decide) rfl
        refine And.intro ?_ ?_
        · intro L V ρ w' hI hk hc hf hd hs
          have s3 : ρ (.tmp 3) = .int .i64 (half n : Int) := hs 3 (by kernel_rfl)
          clear hd hs
          rw [BigFrame.run_move (.tmp 3) rfl, s3]
          exact hI.val (Below.refl _ _) (by decide) (by decide) (by decide) (by decide) rfl
        refine And.intro ?_ ?_
        · intro L V ρ w' hI hk hc hf hd hs
          have s27 : ρ (.tmp 27) = .slice (some ⟨bb, off, none⟩) n cap := ((hd 4 (by kernel_rfl)).2 27 (by kernel_rfl)).trans (hI.2.1 4 (by decide) (by decide) (hd 4 (by kernel_rfl)).1)
          have s28 : ρ (.tmp 28) = .int .i64 (half n : Int) := ((hd 5 (by kernel_rfl)).2 28 (by kernel_rfl)).trans (hI.2.1 5 (by decide) (by decide) (hd 5 (by kernel_rfl)).1)
          clear hd hs
          exact outcome_value (v := .slice (some ⟨bb, off + half n * 32, none⟩) (n - half n) (cap - half n)) (by simp [go_sem, sliced, hc, hf, s27, s28, hlti, hcne]) (hI.val (Below.refl _ _) (by decide) (by decide) (by decide) (by decide) rfl)
        refine And.intro ?_ ?_
        · intro L V ρ w' hI hk hc hf hd hs
          have s29 : ρ (.tmp 29) = .slice (some ⟨bb, off + half n * 32, none⟩) (n - half n) (cap - half n) := ((hd 6 (by kernel_rfl)).2 29 (by kernel_rfl)).trans (hI.2.1 6 (by decide) (by decide) (hd 6 (by kernel_rfl)).1)
          clear hd hs
          refine outcome_enter (w := w') (f := 19) (args := #[.slice (some ⟨bb, off + half n * 32, none⟩) (n - half n) (cap - half n)]) (by simp [go_sem, hc, hf, s29]) ?_
          refine (IHb.out w' hI.1).mono ?_
          rintro e w2 ⟨rfl, hb⟩
          exact ⟨_, rfl, hI.val hb (by decide) (by decide) (by decide) (by decide) rfl⟩
        refine And.intro ?_ ?_
        · intro L V ρ w' hI hk hc hf hd hs
          clear hd hs
          exact outcome_value (v := .pointer (some ⟨w'.heap.size, 0, none⟩)) (by simp [go_sem]; rfl) (hI.make hk (by decide) (by decide) (by decide))
        refine And.intro ?_ ?_
        · intro L V ρ w' hI hk hc hf hd hs
          clear hd hs
          exact outcome_value (v := .pointer (some ⟨w'.heap.size, 0, none⟩)) (by simp [go_sem]; rfl) (Two.swap (hI.swap.make hk (by decide) (by decide) (by decide)))
        refine And.intro ?_ ?_
        · intro L V ρ w' hI hk hc hf hd hs
          have s26 : ρ (.tmp 26) = .agg (hv A) := ((hd 3 (by kernel_rfl)).2 26 (by kernel_rfl)).trans (hI.2.1 3 (by decide) (by decide) (hd 3 (by kernel_rfl)).1)
          obtain ⟨g, e1, e2, e3⟩ := hI.fill (hd 8 (by kernel_rfl)).1 (by decide) (by decide) (by decide) rfl
          have s4 : ρ (.tmp 4) = .pointer (some ⟨g, 0, none⟩) := ((hd 8 (by kernel_rfl)).2 4 (by kernel_rfl)).trans e1
          clear hd hs
          exact outcome_skip (run_store_hash rfl s4 s26 e2) e3
        refine And.intro ?_ ?_
        · intro L V ρ w' hI hk hc hf hd hs
          have s30 : ρ (.tmp 30) = .agg (hv B) := ((hd 7 (by kernel_rfl)).2 30 (by kernel_rfl)).trans (hI.2.1 7 (by decide) (by decide) (hd 7 (by kernel_rfl)).1)
          obtain ⟨g, e1, e2, e3⟩ := hI.swap.fill (hd 9 (by kernel_rfl)).1 (by decide) (by decide) (by decide) rfl
          have s5 : ρ (.tmp 5) = .pointer (some ⟨g, 0, none⟩) := ((hd 9 (by kernel_rfl)).2 5 (by kernel_rfl)).trans e1
          clear hd hs
          exact outcome_skip (run_store_hash rfl s5 s30 e2) e3.swap
        exact trivial
      case hend =>
        intro L V w5 hL hI
        obtain ⟨h1, hvv, h3, h4, h5, _, _⟩ := hI
        obtain ⟨ga, ea, sa, Fa⟩ := h3 (hL 8 (by decide))
        obtain ⟨gb, eb, sb, Fb⟩ := h4 (hL 9 (by decide))
        have h10 := hL 10 (by decide)
        have h11 := hL 11 (by decide)
        simp only [h10, if_true] at Fa
        simp only [h11, if_true] at Fb
        have v3 := hvv 3 (by decide) (by decide) (hL 3 (by decide))
        have v7 := hvv 7 (by decide) (by decide) (hL 7 (by decide))
        simp only [lexF, Act.put, List.setIfInBounds_toArray, List.set_cons_zero, List.set_cons_succ, ea, eb]
        go_upto_region 8 with fail
        have hw1s := L1.out.size
        have hr1 := Fn.lt Z1.out
        have Z5 := hid (show Fn w5 w.heap.size 23 32 (fun i => .int .u8 0) from Z1.out.below h1 hr1)
        have L5 := hid (show Below w.heap.size w w5 from L1.out.trans (h1.mono hw1s))
        clear hw1
        refine region_inv (n := 35) (I := Last w5 4 (treePhi ga gb A B) (fun w' => Below w.heap.size w w' ∧ Fn w' w.heap.size 23 32 (fun i => .int .u8 (ub (shaB (bl A ++ bl B) i))))) (by kernel_rfl) (by kernel_rfl) (by kernel_rfl) (by kernel_rfl) Last.start ?hop ?hend
        case hop =>
          refine And.intro ?_ ?_
          · intro L V ρ w' hI hk hc hf hd hs
            have s4 : ρ (.tmp 4) = .pointer (some ⟨ga, 0, none⟩) := hs 4 (by kernel_rfl)
            clear hd hs
            exact outcome_value (v := .slice (some ⟨ga, 0, none⟩) 32 32) (by simp [go_sem, slicedAt, s4]) (hI.val treePhi_mono hk (by decide) (Below.refl _ _) rfl)
          refine And.intro ?_ ?_
          · intro L V ρ w' hI hk hc hf hd hs
            have s5 : ρ (.tmp 5) = .pointer (some ⟨gb, 0, none⟩) := hs 5 (by kernel_rfl)
            clear hd hs
            exact outcome_value (v := .slice (some ⟨gb, 0, none⟩) 32 32) (by simp [go_sem, slicedAt, s5]) (hI.val treePhi_mono hk (by decide) (Below.refl _ _) rfl)
          refine And.intro ?_ ?_
          · intro L V ρ w' hI hk hc hf hd hs
            have s31 : ρ (.tmp 31) = .slice (some ⟨ga, 0, none⟩) 32 32 := ((hd 0 (by kernel_rfl)).2 31 (by kernel_rfl)).trans (hI.at hk (by decide) (by decide) (hd 0 (by kernel_rfl)).1)
            have s32 : ρ (.tmp 32) = .slice (some ⟨gb, 0, none⟩) 32 32 := ((hd 1 (by kernel_rfl)).2 32 (by kernel_rfl)).trans (hI.at hk (by decide) (by decide) (hd 1 (by kernel_rfl)).1)
            have hb5 := hI.below hk (by decide)
            clear hd hs
            refine outcome_value (v := .slice (some ⟨w'.heap.size, 0, none⟩) 2 2) (w := w'.alloc (.cells #[.slice (some ⟨ga, 0, none⟩) 32 32, .slice (some ⟨gb, 0, none⟩) 32 32] 22)) (by simp [go_sem, hc, hf, s31, s32]) (hI.val treePhi_mono hk (by decide) ((Below.refl _ _).alloc (Nat.le_refl _) _) ⟨w'.heap.size, rfl, parts_two (Fa.below hb5 Fa.lt) (Fb.below hb5 Fb.lt)⟩)
          refine And.intro ?_ ?_
          · intro L V ρ w' hI hk hc hf hd hs
            obtain ⟨c, hv2, hP⟩ := hI.at (j := 2) hk (by decide) (by decide) (hd 2 (by kernel_rfl)).1
            have s33 : ρ (.tmp 33) = .slice (some ⟨c, 0, none⟩) 2 2 := ((hd 2 (by kernel_rfl)).2 33 (by kernel_rfl)).trans hv2
            clear hd hs
            refine outcome_enter (w := w') (f := 17) (args := #[.slice (some ⟨c, 0, none⟩) 2 2]) (by simp [go_sem, hc, hf, s33]) ?_
            refine (all_c hP (by simp [maxLen]) (parts_len A B)).mono ?_
            rintro e w2 ⟨rfl, hb⟩
            exact ⟨_, rfl, hI.val treePhi_mono hk (by decide) hb rfl⟩
          refine And.intro ?_ ?_
          · intro L V ρ w' hI hk hc hf hd hs
            have s34 : ρ (.tmp 34) = .agg (hv (shaB (bl A ++ bl B))) := ((hd 3 (by kernel_rfl)).2 34 (by kernel_rfl)).trans (hI.at (j := 3) hk (by decide) (by decide) (hd 3 (by kernel_rfl)).1)
            have s2 : ρ (.tmp 2) = .pointer (some ⟨w.heap.size, 0, none⟩) := hs 2 (by kernel_rfl)
            have hb5 := hI.below hk (by decide)
            have h0 := (hd 0 (by kernel_rfl)).1
            have h1 := (hd 1 (by kernel_rfl)).1
            have h2 := (hd 2 (by kernel_rfl)).1
            have h3 := (hd 3 (by kernel_rfl)).1
            have hall : ∀ j, j < 4 → L j = true := fun j hj => by
              have : j = 0 ∨ j = 1 ∨ j = 2 ∨ j = 3 := by omega
              rcases this with rfl | rfl | rfl | rfl <;> assumption
            clear hd hs
            have Z6 := Z5.out.below hb5 Z5.out.lt
            refine outcome_skip (run_store_hash rfl s2 s34 (there_set Z6 (arr_size _ _))) (Last.fin hall _ ⟨?_, by simpa [hv] using Z6.storeAll (fun i => .int .u8 (ub (shaB (bl A ++ bl B) i)))⟩)
            have L6 := L5.out.trans (hb5.mono L5.out.size)
            have ML : Mod (fun k => w.heap.size ≤ k) w w' := ⟨L6.os, L6.tape, L6.output, L6.size, fun k hk _ => L6.block k hk⟩
            exact (Mod.setCells (S := fun k => w.heap.size ≤ k) _ 0 w' ML (fun hh => by omega)).below (Nat.le_refl _) (fun k hk hh => by omega)
          exact trivial
        case hend =>
          intro L' V' w8 hL' hI'
          obtain ⟨_, h8, F8⟩ := hI'.2 (hL' 4 (by decide))
          simp only [lexF, Act.put, List.setIfInBounds_toArray, List.set_cons_zero, List.set_cons_succ]
          have H8 := hid h8
          have FF := hid F8
          clear hI' hL' h8 F8 hvv v3 v7
          go_wp2
          obtain ⟨cs9, g1, g2, g3⟩ := FF.out
          have hcs9 := arr_ext g2 g3
          subst hcs9
          have he : treeB (F + 1) n X = shaB (bl A ++ bl B) := by rw [hA, hB]; show (if n = 0 then _ else _) = _; rw [if_neg hne0, if_neg hne1]
          rw [he]
          exact bodyPost_ret (v := .agg (arr 32 (fun i => .int .u8 (ub (shaB (bl A ++ bl B) i))))) (results_cell_row (t := 23) (fr := (0, 0)) rfl _ _ w.heap.size _ _ rfl g1 Try.underlying23 rfl (by rw [arr_size]; kernel_rfl)) rfl ⟨rfl, H8.out⟩
    · by_cases h0 : n = 0
      · subst h0; exact tree_0 w p cap
      · have h1 : n = 1 := by omega
        subst h1
        exact tree_1 HL.out
end Go.Proofs.Ytoegpjfpfhjbkaa
