/- A block is taken: 'take'. -/
import Derived.Test.YtkehejkjifgieaaShaSteps
import Derived.Deep.RegionHeld3
import Derived.Deep.DrawnRows
namespace Go.Proofs.Ytkehejkjifgieaa
open Go.RowKit Go.ChangeMaps
attribute [local go_sem ↓] Go.wp_at_zero Go.wp_at_succ

theorem there_set {w : World} {b n : Nat} {T : TypeId} {f : Nat → Value} (h : Fn w b T n f) {m : Nat} (hm : m = n) : w.there b 0 m := by subst hm; exact h.there 0 _ (by omega)
theorem one_arr {n : Nat} {k : IntKind} {f : Nat → Int} : (arr n (fun i => .int k (f i))).all (·.oneCell') = true := by
  simp [arr, Value.oneCell']

theorem wrap_mod (x : Int) : IntKind.u32.wrap x = x % (4294967296 : Int) := by simp [IntKind.wrap, IntKind.bits, IntKind.signed]
theorem one_eq (o e c k x : W32) : Value.int .u32 ((u o + u (rotr e 6 ^^^ rotr e 11 ^^^ rotr e 25) + u c + u k + u x) % 4294967296) = .int .u32 (u (o + Sg1 e + c + k + x)) := by
  have e6 : rotr e 6 ^^^ rotr e 11 ^^^ rotr e 25 = Sg1 e := rfl
  rw [e6]
  congr 1
  rw [← u_add, ← u_add, ← u_add, ← u_add]; omega
theorem plus_get (s r : St) (j : Nat) : (plus s r).get j = s.get j + r.get j := by
  match j with
  | 0 => rfl
  | 1 => rfl
  | 2 => rfl
  | 3 => rfl
  | 4 => rfl
  | 5 => rfl
  | 6 => rfl
  | n + 7 => rfl
set_option maxRecDepth 100000 in
set_option maxHeartbeats 4000000 in
theorem take_c {w : World} {h : Nat} {s : St} {B : Nat → W8} {held long : Int} (H0 : HashAt w h s B held long) :
    Calls Try.prog 77 #[.pointer (some ⟨h, 0, none⟩)] w fun e w' => e = .returned (.tuple #[]) ∧ HashAt w' h (comp s B) B 0 long ∧ Mod (fun k => k = h) w w' := by
  have hh := H0.lt
  obtain ⟨ys, hys⟩ : ∃ ys : List Value, ys = (List.range 64).map (fun j => Value.int .u8 (ub (B j))) := ⟨_, rfl⟩
  have hyl : ys.length = 64 := by rw [hys]; simp
  have RY := hid (show w.rangeAt h 8 ys from by
    rw [hys]; exact H0.range 8 64 (by omega) _ (fun j hj => by unfold hcell; rw [if_neg (by omega), if_pos (by omega), show 8 + j - 8 = j by omega]))
  have HY := hid hys
  clear hys
  have H := hid H0
  clear H0
  go_enter Try.func77, Try.ntmps77
  go_upto_region 0 with fail
  go_cut [2, 3] from 19 to 24 (fun v2 v3 wr => ∃ b2 b3, v2 = .pointer (some ⟨b2, 0, none⟩) ∧ v3 = .pointer (some ⟨b3, 0, none⟩) ∧ w.heap.size ≤ b2 ∧ w.heap.size ≤ b3 ∧ b2 ≠ b3 ∧
    Hid (Fn wr b2 133 16 (fun i => .int .u32 (u (word B i)))) ∧ Hid (Fn wr b3 135 64 (fun i => .int .u32 (u (kAt i)))) ∧ Hid (Below w.heap.size w wr))
  case first => as_aux_lemma =>
    go_wp2_with first
      | (refine wpList_store_mid rfl 135 (.tmp 3) (.tmp 24) rfl (w2.heap.size + 1) 0 (arr 64 (fun i => .int .u32 (u (kAt i)))) rfl rfl (there_set FK2.out (arr_size _ _)) (by rw [arr_size]; kernel_rfl) one_arr ?_; have FK3 := hid (FK2.out.storeAll (fun i => .int .u32 (u (kAt i)))); have FW3 := hid (FW2.out.setCells_other (b' := w2.heap.size + 1) (o := 0) (arr 64 (fun i => .int .u32 (u (kAt i)))).toList (by omega)))
      | (refine wpList_store_mid rfl 133 (.tmp 2) (.tmp 23) rfl w2.heap.size 0 (arr 16 (fun i => .int .u32 (u (word B i)))) rfl rfl (there_set FW.out (arr_size _ _)) (by rw [arr_size]; kernel_rfl) one_arr ?_; have FW2 := hid (FW.out.storeAll (fun i => .int .u32 (u (word B i)))); have FK2 := hid (FK.out.setCells_other (b' := w2.heap.size) (o := 0) (arr 16 (fun i => .int .u32 (u (word B i)))).toList (by omega)))
      | (go_at_call 80; refine (steps_c _).mono ?_; rintro e w2 ⟨rfl, hb2⟩; have L2 := hid (L1.out.trans (hb2.mono L1.out.size)); clear hb2; have FW := hid ((Fn.arr w2 133 16 (fun _ => .int .u32 0)).alloc (.cells (arr 64 (fun _ => .int .u32 0)) 135)); have FK := hid (show Fn ((w2.alloc (.cells (arr 16 (fun _ => .int .u32 0)) 133)).alloc (.cells (arr 64 (fun _ => .int .u32 0)) 135)) (w2.heap.size + 1) 135 64 (fun _ => .int .u32 0) from by have := Fn.arr (w2.alloc (.cells (arr 16 (fun _ => .int .u32 0)) 133)) 135 64 (fun _ => .int .u32 0); simpa using this))
      | (go_at_call 79; refine (load_c w B ys.toArray (by simpa using hyl) (fun i hi => by rw [List.getElem?_toArray, HY.out]; simp [hi])).mono ?_; rintro e w1 ⟨rfl, hb1⟩; have L1 := hid hb1; clear hb1)
      | (refine wpList_load_mid rfl 128 (.tmp 21) rfl h 8 rfl ys _ RY.out Try.underlying128 rfl (by rw [hyl]; kernel_rfl) ?_)
    go_meet
    case rel =>
      refine ⟨_, _, rfl, rfl, L2.out.size, by have := L2.out.size; omega, by omega, FW3, FK3, hid ?_⟩
      have m0 : Mod (fun k => w.heap.size ≤ k) w w2 := Mod.weaken (S := fun _ => False) ⟨L2.out.os, L2.out.tape, L2.out.output, L2.out.size, fun k hk _ => L2.out.block k hk⟩ (fun _ _ h => h.elim)
      exact (Mod.setCells _ _ _ (Mod.setCells _ _ _ ((m0.alloc _).alloc _) (fun h => L2.out.size)) (fun h => by have := L2.out.size; omega)).below (Nat.le_refl _) (fun k hk h => by omega)
  case rest =>
    obtain ⟨b2, b3, rfl, rfl, p2, p3, p23, FW, FK, L⟩ := hcut
    have H1 := hid (show HashAt wc h s B held long from H.out.below L.out hh)
    have hh1 : h < wc.heap.size := Nat.lt_of_lt_of_le hh L.out.size
    have c0 : wc.cell? ⟨h, 0, none⟩ = some (.int .u32 (u s.a)) := H1.out.cell (j := 0) (by omega)
    have c1 : wc.cell? ⟨h, 1, none⟩ = some (.int .u32 (u s.b)) := H1.out.cell (j := 1) (by omega)
    have c2 : wc.cell? ⟨h, 2, none⟩ = some (.int .u32 (u s.c)) := H1.out.cell (j := 2) (by omega)
    have c3 : wc.cell? ⟨h, 3, none⟩ = some (.int .u32 (u s.d)) := H1.out.cell (j := 3) (by omega)
    have c4 : wc.cell? ⟨h, 4, none⟩ = some (.int .u32 (u s.e)) := H1.out.cell (j := 4) (by omega)
    have c5 : wc.cell? ⟨h, 5, none⟩ = some (.int .u32 (u s.f)) := H1.out.cell (j := 5) (by omega)
    have c6 : wc.cell? ⟨h, 6, none⟩ = some (.int .u32 (u s.g)) := H1.out.cell (j := 6) (by omega)
    have c7 : wc.cell? ⟨h, 7, none⟩ = some (.int .u32 (u s.h)) := H1.out.cell (j := 7) (by omega)
    go_wp2
    go_region
    go_wp2
    go_region
    go_wp2
    clear c0 c1 c2 c3 c4 c5 c6 c7
    have W0 := hid (show Wheel wc.drew.drew b2 B 0 from (FW.out.of_block rfl).congr (fun j hj => by rw [wheel_lo B (by omega) hj]))
    have K0 := hid (show Fn wc.drew.drew b3 135 64 (fun i => .int .u32 (u (kAt i))) from FK.out.of_block rfl)
    have L0 := hid L.out.drew.drew
    go_loopg [4, 5, 6, 7, 8, 9, 10, 11, 12, 13, 14, 15, 16, 65] 64 (fun g v4 v5 v6 v7 v8 v9 v10 v11 _ _ _ _ _ v65 wr => ∃ k : Nat, v65 = .int .i64 k ∧ g = 64 - k ∧ k ≤ 64 ∧ v4 = .int .u32 (u (rnds s B k).a) ∧ v5 = .int .u32 (u (rnds s B k).b) ∧ v6 = .int .u32 (u (rnds s B k).c) ∧ v7 = .int .u32 (u (rnds s B k).d) ∧
      v8 = .int .u32 (u (rnds s B k).e) ∧ v9 = .int .u32 (u (rnds s B k).f) ∧ v10 = .int .u32 (u (rnds s B k).g) ∧ v11 = .int .u32 (u (rnds s B k).h) ∧ Hid (Wheel wr b2 B k) ∧ Hid (Fn wr b3 135 64 (fun i => .int .u32 (u (kAt i)))) ∧ Hid (Below w.heap.size w wr))
    case atStart => exact ⟨0, rfl, rfl, by omega, rfl, rfl, rfl, rfl, rfl, rfl, rfl, rfl, W0, K0, L0⟩
    case round =>
      obtain ⟨k, rfl, hg, hk, rfl, rfl, rfl, rfl, rfl, rfl, rfl, rfl, W1, K1, L1⟩ := hrel
      by_cases hk0 : k < 64
      · have hr := hid (show rnds s B (k + 1) = rnd (rnds s B k) (kAt k) (sched B k) from rfl)
        generalize rnds s B k = r at *
        obtain ⟨a, b, c, d, e, f, g, o⟩ := r
        dsimp only
        go_upto_region 8 with fail
        simp only [u_xor, u_and, u_or, ch_eq, maj_eq]
        go_cut [15] from 66 to 102 (fun v15 wr => v15 = .int .u32 (u (o + Sg1 e + ch e f g + kAt k + sched B k)) ∧ Hid (Wheel wr b2 B (k + 1)) ∧ Hid (Fn wr b3 135 64 (fun i => .int .u32 (u (kAt i)))) ∧ Hid (Below w.heap.size w wr))
        case first => as_aux_lemma =>
          have W2 := hid (show Wheel wr.drew b2 B k from W1.out.of_block rfl)
          have k1 : wr.cell? ⟨b3, k, none⟩ = some (.int .u32 (u (kAt k))) := K1.out.cell hk0
          have kl := K1.out.lt
          have hi0 : (0 : Int) ≤ (k : Int) := Int.natCast_nonneg _
          have hi1 : (k : Int) < 64 := by omega
          go_wp2_with fail
          go_region_held3 (fun w' => w'.cell? ⟨b3, k, none⟩ = some (.int .u32 (u (kAt k)))) (first | go_keep | exact k5)
            (first
              | (go_at_call 82; refine (next_c W2.out hk0).mono ?_; rintro e' w5 ⟨rfl, W5, M5⟩; have W5' := hid W5; have K5 := hid (K1.out.of_block (w' := w5) ((M5.block b3 kl (Ne.symm p23)).trans rfl)); have L5 := hid (show Below w.heap.size w w5 from L1.out.trans ((show Mod (fun k => k = b2) wr w5 from ⟨M5.os, M5.tape, M5.output, M5.size, M5.block⟩).below L1.out.size (fun k hk e => by omega))); have k5 : w5.cell? ⟨b3, k, none⟩ = some (.int .u32 (u (kAt k))) := K5.out.cell hk0; clear W5 M5)
              | (go_at_call 81; refine (rotl_c _ _ _ (by decide)).mono ?_; rintro e' w' ⟨rfl, rfl⟩))
          go_wp2_with fail
          go_meet
          case rel =>
            refine ⟨?_, W5', K5, L5⟩
            refine congrArg (Value.int .u32) ?_
            simp only [u_xor, wrap_mod, u_add]
            rfl
        case rest => as_aux_lemma =>
          obtain ⟨rfl, W3, K3, L3⟩ := hcut
          go_wp2_with (go_at_call 81; refine (rotl_c _ _ _ (by decide)).mono ?_; rintro e' w' ⟨rfl, rfl⟩)
          simp only [u_xor, u_add]
          go_roundg (64 - (k + 1))
          case measure => omega
          case rel =>
            refine ⟨k + 1, by go_num, rfl, by omega, ?_⟩
            rw [hr.out]
            exact ⟨rfl, rfl, rfl, rfl, rfl, rfl, rfl, rfl, W3, K3, L3⟩
      · have hk1 : k = 64 := by omega
        subst hk1
        have hc := hid (show comp s B = plus s (rnds s B 64) from rfl)
        generalize rnds s B 64 = r at *
        have HA := hid (show HashAt wr h s B held long from H.out.below L1.out hh)
        have M0 := hid (Mod.of_below L1.out (fun k => k = h))
        obtain ⟨a, b, c, d, e, f, g, o⟩ := r
        dsimp only
        clear hg W1 K1
        go_wp2
        go_loopg [17, 18, 135] 8 (fun g' _ _ v wr => ∃ k : Nat, v = .int .i64 k ∧ g' = 8 - k ∧ k ≤ 8 ∧ Hid (Fn wr h 130 74 (fun j => if j < k then .int .u32 (u (s.get j + (St.mk a b c d e f g o).get j)) else hcell s B held long j)) ∧ Hid (Mod (fun k => k = h) w wr))
        case atStart => exact ⟨0, rfl, rfl, by omega, hid (HA.out.congr (fun j _ => by rw [if_neg (by omega)])), M0⟩
        case round =>
          obtain ⟨k, rfl, hg, hk, F, M⟩ := hrel
          by_cases hk8 : k < 8
          · have x0 : (Instr.index 123 (.agg #[.int .u32 (u a), .int .u32 (u b), .int .u32 (u c), .int .u32 (u d), .int .u32 (u e), .int .u32 (u f), .int .u32 (u g), .int .u32 (u o)]) (.int .i64 k)).run Try.prog wr = .ok (.int .u32 (u ((St.mk a b c d e f g o).get k))) wr := by
              refine index_agg (P := Try.prog) Try.underlying123 Try.underlying63 (by kernel_rfl) hk8 ?_ wr
              match k, hk8 with
              | 0, _ => rfl
              | 1, _ => rfl
              | 2, _ => rfl
              | 3, _ => rfl
              | 4, _ => rfl
              | 5, _ => rfl
              | 6, _ => rfl
              | 7, _ => rfl
            have x1 : wr.cell? ⟨h, k, none⟩ = some (.int .u32 (u (s.get k))) := by
              have := F.out.cell (j := k) (by omega)
              rw [if_neg (by omega)] at this
              unfold hcell at this
              rw [if_pos hk8] at this; exact this
            have x2 : wr.frozen? ⟨h, k, none⟩ = false := F.out.frozen _
            have x3 := F.out.lt
            have x4 := hid x0
            go_wp2
            go_region
            go_wp2
            go_roundg (8 - (k + 1))
            case measure => omega
            case rel =>
              refine ⟨k + 1, by go_num, rfl, by omega, hid ?_, hid ((M.out.setCell (p := ⟨h, k, none⟩) (fun _ => rfl) _).drew)⟩
              rw [u_add]
              refine ((F.out.set k (.int .u32 (u (s.get k + (St.mk a b c d e f g o).get k)))).of_block rfl).congr (fun j hj => ?_)
              unfold set1
              dsimp only
              by_cases e : j = k
              · subst e; rw [if_pos (by omega), if_pos rfl]
              · rw [if_neg e]
                by_cases e2 : j < k
                · rw [if_pos (by omega), if_pos e2]
                · rw [if_neg (by omega), if_neg e2]
          · have hk9 : k = 8 := by omega
            subst hk9
            have x1 : wr.cell? ⟨h, 72, none⟩ = some (.int .i64 held) := F.out.cell (j := 72) (by omega)
            have x2 : wr.frozen? ⟨h, 72, none⟩ = false := F.out.frozen _
            have x3 := F.out.lt
            go_wp2
            go_end0
            refine ⟨rfl, ?_, M.out.setCell (p := ⟨h, 72, none⟩) (fun _ => rfl) _⟩
            refine (F.out.set 72 (.int .i64 0)).congr (fun j hj => ?_)
            unfold set1
            by_cases e : j = 72
            · subst e; rfl
            · rw [if_neg e, hc.out]
              unfold hcell
              dsimp only
              by_cases e2 : j < 8
              · rw [if_pos e2, if_pos e2, plus_get]
              · rw [if_neg e2, if_neg e2, if_neg e2]
                by_cases e3 : j < 72
                · rw [if_pos e3, if_pos e3]
                · rw [if_neg e3, if_neg e3, if_neg e, if_neg e]
end Go.Proofs.Ytkehejkjifgieaa
