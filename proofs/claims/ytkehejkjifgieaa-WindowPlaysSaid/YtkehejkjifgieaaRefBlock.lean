/- The document's numbers behind a block. -/
import Derived.Test.YtkehejkjifgieaaShaAlive
import Derived.Lib.SlBytesConst
import Derived.Deep.RegionHeld3
import Derived.Great.BuildSlice
import Derived.Deep.DrawnRows
namespace Go.Proofs.Ytkehejkjifgieaa
open Go.RowKit Go.ChangeMaps
attribute [local go_sem ↓] Go.wp_at_zero Go.wp_at_succ

def u32s (n : Nat) (f : Nat → W32) : Array Value := arr n (fun j => .int .u32 (u (f j)))
/-- Bytes at a place. -/
def Bts (w : World) (p off n : Nat) (B : Nat → W8) : Prop := ∀ i, i < n → w.cell? ⟨p, off + i, none⟩ = some (.int .u8 (ub (B i)))
def Wds (w : World) (p n : Nat) (f : Nat → W32) : Prop := ∀ i, i < n → w.cell? ⟨p, i, none⟩ = some (.int .u32 (u (f i)))
theorem Bts.below {w w' : World} {p off n : Nat} {B : Nat → W8} (h : Bts w p off n B) (hp : p < w.heap.size) (hb : Below w.heap.size w w') : Bts w' p off n B := fun i hi => (hb.cell hp).trans (h i hi)
theorem Wds.below {w w' : World} {p n : Nat} {B : Nat → W32} (h : Wds w p n B) (hp : p < w.heap.size) (hb : Below w.heap.size w w') : Wds w' p n B := fun i hi => (hb.cell hp).trans (h i hi)

theorem zeros64 (W : World) : (Instr.makeSlice 125 (.int .i64 64) (.int .i64 64)).run Try.prog W = .ok (.slice (some ⟨W.heap.size, 0, none⟩) 64 64) (W.alloc (.cells (arr 64 (fun _ => .int .u32 0)) 63)) := by
  have info : (Try.prog.info? 63).map (fun i => (i.zero, i.size, i.bytes)) = some (some (.int .u32 0), 1, 4) := by kernel_rfl
  obtain ⟨i0, hi, hz0, hz1, hz2⟩ := info_parts info
  have := run_makeSlice (P := Try.prog) W 125 63 i0 (.int .u32 0) Try.underlying125 hi hz0 .i64 .i64 64 64 (by omega) (by omega) (by rw [hz1]; omega) (by rw [hz2]; omega) (by omega)
  rw [this, hz1, show madeCells (Value.int .u32 0).cells (Int.toNat 64 * 1) = arr 64 (fun _ => .int .u32 0) by kernel_rfl]; rfl
theorem ub_zm (b : W8) : ub b % (4294967296 : Int) = u (z b) := by
  rw [ub_z]; have := u_lo (z b); have := u_hi (z b); omega
theorem word_by (B : Nat → W8) (k : Nat) : bits BinOp.or .u32 (bits BinOp.or .u32 (bits BinOp.or .u32 (ub (B (4 * k)) % 4294967296 * 16777216 % 4294967296) (ub (B (4 * k + 1)) % 4294967296 * 65536 % 4294967296)) (ub (B (4 * k + 2)) % 4294967296 * 256 % 4294967296)) (ub (B (4 * k + 3)) % 4294967296) = u (word B k) := by
  have e1 := u_shl (z (B (4 * k))) 24
  have e2 := u_shl (z (B (4 * k + 1))) 16
  have e3 := u_shl (z (B (4 * k + 2))) 8
  simp only [Nat.reducePow, Int.cast_ofNat_Int] at e1 e2 e3
  rw [ub_zm, ub_zm, ub_zm, ub_zm, e1, e2, e3, u_or, u_or, u_or]; rfl
theorem w_grow {wr : World} {b k : Nat} {S : Nat → W32} {T : TypeId} (F : Fn wr b T 64 (fun j => if j < k then .int .u32 (u (S j)) else .int .u32 0)) :
    Fn (wr.setCell ⟨b, k, none⟩ (.int .u32 (u (S k)))) b T 64 (fun j => if j < k + 1 then .int .u32 (u (S j)) else .int .u32 0) := by
  refine (F.set k (.int .u32 (u (S k)))).congr (fun j hj => ?_)
  unfold set1
  by_cases e : j = k
  · subst e; rw [if_pos rfl, if_pos (by omega)]
  · rw [if_neg e]
    dsimp only
    by_cases e2 : j < k
    · rw [if_pos e2, if_pos (by omega)]
    · rw [if_neg e2, if_neg (by omega)]
theorem sum_sched (B : Nat → W8) {k : Nat} (h : 16 ≤ k) : IntKind.u32.wrap (IntKind.u32.wrap (IntKind.u32.wrap (bits BinOp.xor .u32 (bits BinOp.xor .u32 (u (rotr (sched B (k - 2)) 17)) (u (rotr (sched B (k - 2)) 19))) (u (sched B (k - 2)) / 1024) + u (sched B (k - 7))) + bits BinOp.xor .u32 (bits BinOp.xor .u32 (u (rotr (sched B (k - 15)) 7)) (u (rotr (sched B (k - 15)) 18))) (u (sched B (k - 15)) / 8)) + u (sched B (k - 16))) = u (sched B k) := by
  rw [sched_hi B h]
  simp only [u_sh3, u_sh10, u_xor, wrap_mod, u_add]; rfl
theorem one_w (h e f g k x : W32) : IntKind.u32.wrap (IntKind.u32.wrap (IntKind.u32.wrap (IntKind.u32.wrap (u h + bits BinOp.xor .u32 (bits BinOp.xor .u32 (u (rotr e 6)) (u (rotr e 11))) (u (rotr e 25))) + bits BinOp.xor .u32 (bits BinOp.and .u32 (u e) (u f)) (bits BinOp.and .u32 (bits BinOp.xor .u32 (u e) 4294967295) (u g))) + u k) + u x) = u (h + Sg1 e + ch e f g + k + x) := by
  simp only [u_not, u_xor, u_and, wrap_mod, u_add]; rfl
theorem two_w (a b c : W32) : IntKind.u32.wrap (bits BinOp.xor .u32 (bits BinOp.xor .u32 (u (rotr a 2)) (u (rotr a 13))) (u (rotr a 22)) + bits BinOp.xor .u32 (bits BinOp.xor .u32 (bits BinOp.and .u32 (u a) (u b)) (bits BinOp.and .u32 (u a) (u c))) (bits BinOp.and .u32 (u b) (u c))) = u (Sg0 a + maj a b c) := by
  simp only [u_xor, u_and, wrap_mod, u_add]; rfl
def eight (a b c d e f g h : W32) : Array Value := #[.int .u32 (u a), .int .u32 (u b), .int .u32 (u c), .int .u32 (u d), .int .u32 (u e), .int .u32 (u f), .int .u32 (u g), .int .u32 (u h)]
theorem eight_get (r : St) (k x : W32) (j : Nat) (hj : j < 8) : (eight ((r.h + Sg1 r.e + ch r.e r.f r.g + k + x) + (Sg0 r.a + maj r.a r.b r.c)) r.a r.b r.c (r.d + (r.h + Sg1 r.e + ch r.e r.f r.g + k + x)) r.e r.f r.g).toList[j]? = some (.int .u32 (u ((rnd r k x).get j))) := by
  match j, hj with
  | 0, _ => rfl
  | 1, _ => rfl
  | 2, _ => rfl
  | 3, _ => rfl
  | 4, _ => rfl
  | 5, _ => rfl
  | 6, _ => rfl
  | 7, _ => rfl
theorem eight_set (z : Array Value) (h : z.size = 8) (a b c d e f g i : Value) : (((((((z.setIfInBounds 0 a).setIfInBounds 1 b).setIfInBounds 2 c).setIfInBounds 3 d).setIfInBounds 4 e).setIfInBounds 5 f).setIfInBounds 6 g).setIfInBounds 7 i = #[a, b, c, d, e, f, g, i] := by
  obtain ⟨l⟩ := z
  have h' : l.length = 8 := by simpa using h
  match l, h' with
  | [_, _, _, _, _, _, _, _], _ => simp only [List.setIfInBounds_toArray, List.set_cons_zero, List.set_cons_succ]
theorem build8 (a b c d e f g h : Int) (W : World) : (Instr.build 123 #[(0, .int .u32 a), (1, .int .u32 b), (2, .int .u32 c), (3, .int .u32 d), (4, .int .u32 e), (5, .int .u32 f), (6, .int .u32 g), (7, .int .u32 h)]).run Try.prog W = .ok (.agg #[.int .u32 a, .int .u32 b, .int .u32 c, .int .u32 d, .int .u32 e, .int .u32 f, .int .u32 g, .int .u32 h]) W := run_build W _ _ _ (by kernel_rfl)
theorem fn_eight {W : World} {b : Nat} {T : TypeId} {f : Nat → Value} {r : St} {k x : W32} {vs : Array Value} (F : Fn W b T 8 f) (hv : vs = eight ((r.h + Sg1 r.e + ch r.e r.f r.g + k + x) + (Sg0 r.a + maj r.a r.b r.c)) r.a r.b r.c (r.d + (r.h + Sg1 r.e + ch r.e r.f r.g + k + x)) r.e r.f r.g) :
    Fn (W.setCells b 0 vs.toList) b T 8 (fun j => .int .u32 (u ((rnd r k x).get j))) := by
  subst hv
  exact Fn.setCells _ 0 _ _ F _ (fun j hj => by rw [Nat.zero_add]; exact eight_get r k x j (by simpa [eight] using hj)) (fun j hn hj => by simp [eight] at hj; omega)
set_option maxRecDepth 100000 in
set_option maxHeartbeats 4000000 in
theorem block_c {w : World} {s : St} {xs : Array Value} (hxs : xs = u32s 8 s.get) {p off cap : Nat} {B : Nat → W8} (hp : p < w.heap.size) (hB : Bts w p off 64 B) (_ : 64 ≤ cap) {kb : Nat} (hk : kb < w.heap.size) (hK : Wds w kb 64 kAt) :
    Calls Try.prog 76 #[.agg xs, .slice (some ⟨p, off, none⟩) 64 cap, .slice (some ⟨kb, 0, none⟩) 64 64] w fun e w' => e = .returned (.agg (u32s 8 (comp s B).get)) ∧ Below w.heap.size w w' := by
  have HX := hid hxs
  have hxz : xs.size = 8 := by rw [hxs]; exact arr_size _ _
  have HB := hid hB
  have HK := hid hK
  clear hxs hB hK
  go_enter Try.func76, Try.ntmps76
  obtain ⟨zs, hzs⟩ : ∃ zs, zs = arr 64 (fun _ => Value.int .u32 0) := ⟨_, rfl⟩
  have hmk : ∀ W : World, (Instr.makeSlice 125 (.int .i64 64) (.int .i64 64)).run Try.prog W = .ok (.slice (some ⟨W.heap.size, 0, none⟩) 64 64) (W.alloc (.cells zs 63)) := by rw [hzs]; exact zeros64
  have hzs' := hid hzs
  clear hzs
  obtain ⟨z8, hz8⟩ : ∃ z8 : Array Value, z8 = #[.int .u32 0, .int .u32 0, .int .u32 0, .int .u32 0, .int .u32 0, .int .u32 0, .int .u32 0, .int .u32 0] := ⟨_, rfl⟩
  have hzw : ∀ W : World, (zeroValue 123).run Try.prog W = .ok (.agg z8) W := by rw [hz8]; intro W; rfl
  have hzz : z8.size = 8 := by rw [hz8]; rfl
  obtain ⟨w0, hw0⟩ : ∃ w0, w0 = ((w.alloc (.cells xs 123)).alloc (.cells z8 123)).alloc (.cells zs 63) := ⟨_, rfl⟩
  have F0 := hid (show Fn w0 w.heap.size 123 8 (fun j => .int .u32 (u (s.get j))) by
    rw [hw0]; exact ((Fn.new w xs _ hxz (fun j hj => by rw [HX.out]; exact arr_get _ _ hj)).alloc _).alloc _)
  have F6 := hid (show ∃ f, Fn w0 (w.heap.size + 1) 123 8 f by
    rw [hw0]; have := Fn.new (w.alloc (.cells xs 123)) z8 123 (n := 8) (f := fun j => .int .u32 0) hzz (fun j hj => by rw [hz8]; match j, hj with | 0, _ => rfl | 1, _ => rfl | 2, _ => rfl | 3, _ => rfl | 4, _ => rfl | 5, _ => rfl | 6, _ => rfl | 7, _ => rfl)
    exact ⟨_, (show Fn _ (w.heap.size + 1) _ _ _ by simpa using this).alloc _⟩)
  have FW := hid (show Fn w0 (w.heap.size + 1 + 1) 63 64 (fun j => if j < 0 then .int .u32 (u (sched B j)) else .int .u32 0) by
    rw [hw0]; have := Fn.new ((w.alloc (.cells xs 123)).alloc (.cells z8 123)) zs 63 (n := 64) (f := fun j => if j < 0 then .int .u32 (u (sched B j)) else .int .u32 0) (by rw [hzs'.out, arr_size]) (fun j hj => by rw [hzs'.out, arr_get _ _ hj, if_neg (by omega)])
    simpa using this)
  have L0 := hid (show Below w.heap.size w w0 by rw [hw0]; exact (((Below.refl w.heap.size w).alloc (Nat.le_refl _) _).alloc (by simp) _).alloc (by simp; omega) _)
  have HZ8 := hid (show ∀ j, j < 8 → z8[j]? = some (.int .u32 0) from fun j hj => by rw [hz8]; match j, hj with | 0, _ => rfl | 1, _ => rfl | 2, _ => rfl | 3, _ => rfl | 4, _ => rfl | 5, _ => rfl | 6, _ => rfl | 7, _ => rfl)
  clear hz8
  go_upto_region 3 with fail
  rw [← hw0]
  go_loopg [8, 9, 10] 64 (fun g v8 _ _ wr => ∃ k : Nat, v8 = .int .i64 k ∧ g = 64 - k ∧ k ≤ 64 ∧ Hid (Fn wr (w.heap.size + 1 + 1) 63 64 (fun j => if j < k then .int .u32 (u (sched B j)) else .int .u32 0)) ∧ Hid (Below (w.heap.size + 1 + 1) w0 wr))
  case atStart => exact ⟨0, rfl, rfl, by omega, FW, hid (Below.refl _ _)⟩
  case round =>
    obtain ⟨k, rfl, hg, hk, FR, LR⟩ := hrel
    have hn2 : w.heap.size + 1 + 1 < wr.heap.size := FR.out.lt
    by_cases hk64 : k < 64
    · --A
      have LB := hid (L0.out.trans (LR.out.mono (by omega)))
      have f0 : wr.frozen? ⟨w.heap.size + 1 + 1, k, none⟩ = false := FR.out.frozen _
      by_cases h16 : k < 16
      · have c0 : wr.cell? ⟨p, off + 4 * k, none⟩ = some (.int .u8 (ub (B (4 * k)))) := (HB.out.below hp LB.out) (4 * k) (by omega)
        have c1 : wr.cell? ⟨p, off + (4 * k + 1), none⟩ = some (.int .u8 (ub (B (4 * k + 1)))) := (HB.out.below hp LB.out) (4 * k + 1) (by omega)
        have c2 : wr.cell? ⟨p, off + (4 * k + 2), none⟩ = some (.int .u8 (ub (B (4 * k + 2)))) := (HB.out.below hp LB.out) (4 * k + 2) (by omega)
        have c3 : wr.cell? ⟨p, off + (4 * k + 3), none⟩ = some (.int .u8 (ub (B (4 * k + 3)))) := (HB.out.below hp LB.out) (4 * k + 3) (by omega)
        have c4 : wr.cell? ⟨w.heap.size + 1 + 1, k, none⟩ = some (.int .u32 0) := by have := FR.out.cell hk64; rwa [if_neg (Nat.lt_irrefl _)] at this
        go_upto_region 6 with fail
        go_region
        rw [word_by]
        go_wp2
        go_roundg (64 - (k + 1))
        case measure => omega
        case rel =>
          refine ⟨k + 1, by go_num, rfl, by omega, hid ?_, hid ?_⟩
          · rw [← sched_lo B h16]; exact (w_grow FR.out).of_block rfl
          · exact LR.out.trans (((Mod.refl (fun q => q = w.heap.size + 1 + 1) wr).setCell (p := ⟨w.heap.size + 1 + 1, k, none⟩) (fun _ => rfl) _).drew.below (B := w.heap.size + 1 + 1) (by omega) (fun c hc e => by omega))
      · have c1 : wr.cell? ⟨w.heap.size + 1 + 1, k - 15, none⟩ = some (.int .u32 (u (sched B (k - 15)))) := by have := FR.out.cell (j := k - 15) (by omega); rwa [if_pos (by omega)] at this
        have c2 : wr.cell? ⟨w.heap.size + 1 + 1, k - 2, none⟩ = some (.int .u32 (u (sched B (k - 2)))) := by have := FR.out.cell (j := k - 2) (by omega); rwa [if_pos (by omega)] at this
        have c3 : wr.cell? ⟨w.heap.size + 1 + 1, k - 7, none⟩ = some (.int .u32 (u (sched B (k - 7)))) := by have := FR.out.cell (j := k - 7) (by omega); rwa [if_pos (by omega)] at this
        have c4 : wr.cell? ⟨w.heap.size + 1 + 1, k - 16, none⟩ = some (.int .u32 (u (sched B (k - 16)))) := by have := FR.out.cell (j := k - 16) (by omega); rwa [if_pos (by omega)] at this
        have c5 : wr.cell? ⟨w.heap.size + 1 + 1, k, none⟩ = some (.int .u32 0) := by have := FR.out.cell hk64; rwa [if_neg (Nat.lt_irrefl _)] at this
        go_upto_region 7 with fail
        go_region
        go_upto_region 8 with fail
        have b1 : (0 : Int) ≤ (k : Int) - 7 := by omega
        have b2 : (k : Int) - 7 < 64 := by omega
        have b3 : (0 : Int) ≤ (k : Int) - 16 := by omega
        have b4 : (k : Int) - 16 < 64 := by omega
        have b9 : (7 : Int) ≤ k := by omega
        have b10 : (k : Int) < 71 := by omega
        have b5 : IntKind.i64.wrap ((k : Int) - 7) = (k : Int) - 7 := by simp [IntKind.wrap, IntKind.bits, IntKind.signed]; omega
        have b6 : IntKind.i64.wrap ((k : Int) - 16) = (k : Int) - 16 := by simp [IntKind.wrap, IntKind.bits, IntKind.signed]; omega
        have b7 : ((k : Int) - 7).toNat = k - 7 := by omega
        have b8 : ((k : Int) - 16).toNat = k - 16 := by omega
        have kk : ∀ v, (wr.setCell ⟨w.heap.size + 1 + 1, k, none⟩ v).drew.drew.cell? ⟨w.heap.size + 1 + 1, k - 7, none⟩ = some (.int .u32 (u (sched B (k - 7)))) ∧ (wr.setCell ⟨w.heap.size + 1 + 1, k, none⟩ v).drew.drew.cell? ⟨w.heap.size + 1 + 1, k - 16, none⟩ = some (.int .u32 (u (sched B (k - 16)))) := fun v => by
          have F1 := FR.out.set k v
          have e7 := F1.cell (j := k - 7) (by omega)
          have e16 := F1.cell (j := k - 16) (by omega)
          unfold set1 at e7 e16
          rw [if_neg (by omega)] at e7 e16
          dsimp only at e7 e16
          rw [if_pos (by omega)] at e7 e16
          exact ⟨e7, e16⟩
        go_region_held3 (fun w' => w'.cell? ⟨w.heap.size + 1 + 1, k - 7, none⟩ = some (.int .u32 (u (sched B (k - 7)))) ∧ w'.cell? ⟨w.heap.size + 1 + 1, k - 16, none⟩ = some (.int .u32 (u (sched B (k - 16))))) (first | assumption | exact kk _ | go_keep)
          (first
              | (go_at_call 78; refine (turn_c _ _ _ (by decide)).mono ?_; rintro e' w' ⟨rfl, rfl⟩))
        all_goals
          rw [sum_sched B (by omega : 16 ≤ k)]
          go_wp2
          go_roundg (64 - (k + 1))
          case measure => omega
          case rel =>
            refine ⟨k + 1, by go_num, rfl, by omega, hid ((w_grow FR.out).of_block rfl), hid ?_⟩
            exact LR.out.trans (((Mod.refl (fun q => q = w.heap.size + 1 + 1) wr).setCell (p := ⟨w.heap.size + 1 + 1, k, none⟩) (fun _ => rfl) _).drew.drew.below (B := w.heap.size + 1 + 1) (by omega) (fun c hc e => by omega))
      --B
    · have hk1 : k = 64 := by omega
      subst hk1
      clear hg hn2
      have F0' := hid (F0.out.below LR.out (by omega))
      have FW' := hid (FR.out.congr (g := fun j => .int .u32 (u (sched B j))) (fun j hj => by rw [if_pos hj]))
      have F6' := hid (show ∃ f, Fn wr (w.heap.size + 1) 123 8 f from F6.out.imp (fun f hf => hf.below LR.out (by omega)))
      have LB := hid (show Below w.heap.size w wr from L0.out.trans (LR.out.mono (by omega)))
      clear FR LR FW L0 F6 F0
      obtain ⟨wq, rfl⟩ : ∃ wq, wq = wr := ⟨wr, rfl⟩
      have RY := hid (show wq.rangeAt w.heap.size 0 (u32s 8 s.get).toList from F0'.out.range' (u32s 8 s.get) (arr_size _ _) (fun j hj => arr_get _ _ hj))
      obtain ⟨ys, hys⟩ : ∃ ys, ys = u32s 8 s.get := ⟨_, rfl⟩
      have hyz : ys.size = 8 := by rw [hys]; exact arr_size _ _
      have hyo := hid (show ys.all (·.oneCell') = true by rw [hys]; exact one_arr)
      have hyg := hid (show ∀ j, j < 8 → ys[j]? = some (.int .u32 (u (s.get j))) by rw [hys]; exact fun j hj => arr_get _ _ hj)
      rw [← hys] at RY
      have HYS := hid hys
      clear hys
      have Z0 := hid (show Fn (wq.alloc (.cells z8 123)) wq.heap.size 123 8 (fun _ => .int .u32 0) from Fn.new wq z8 _ hzz HZ8.out)
      go_wp2_with first
        | (refine wpList_store_mid rfl 123 (.tmp 11) (.tmp 103) rfl wq.heap.size 0 ys rfl rfl (there_set Z0.out hyz) (by rw [hyz]; kernel_rfl) hyo.out ?_)
        | (refine wpList_load_mid rfl 123 (.tmp 3) rfl w.heap.size 0 rfl ys.toList _ RY.out Try.underlying123 rfl (by rw [Array.length_toList, hyz]; kernel_rfl) ?_)
      have FV := hid (show Fn ((wq.alloc (.cells z8 123)).setCells wq.heap.size 0 ys.toList) wq.heap.size 123 8 (fun j => .int .u32 (u ((rnds s B 0).get j))) from
        Fn.setCells _ 0 _ _ Z0.out _ (fun j hj => by rw [Array.getElem?_toList]; simp only [Nat.zero_add]; exact hyg.out j (by simpa [hyz] using hj)) (fun j hn hj => by simp [hyz] at hj; omega))
      obtain ⟨wv, hwv⟩ : ∃ wv, wv = (wq.alloc (.cells z8 123)).setCells wq.heap.size 0 ys.toList := ⟨_, rfl⟩
      have LV := hid (show Below wq.heap.size wq wv by
        rw [hwv]; exact (Mod.setCells (S := fun k => k = wq.heap.size) _ 0 _ ((Mod.refl _ wq).alloc _) (fun hh => rfl)).below (Nat.le_refl _) (fun c hc e => by omega))
      rw [← hwv]
      rw [← hwv] at FV
      clear hwv
      go_loopg [12, 13, 14, 15, 16] 64 (fun g v12 _ _ _ _ wr => ∃ k : Nat, v12 = .int .i64 k ∧ g = 64 - k ∧ k ≤ 64 ∧ Hid (Fn wr wq.heap.size 123 8 (fun j => .int .u32 (u ((rnds s B k).get j)))) ∧ Hid (Below wq.heap.size wq wr))
      case atStart => exact ⟨0, rfl, rfl, by omega, FV, LV⟩
      case round =>
        obtain ⟨k, rfl, hg, hk, FR, LR⟩ := hrel
        have hr2 := FR.out.lt
        by_cases hk64 : k < 64
        · --A
          have hr := hid (show rnds s B (k + 1) = rnd (rnds s B k) (kAt k) (sched B k) from rfl)
          generalize rnds s B k = r at *
          have hw2 : w.heap.size + 1 + 1 < wq.heap.size := FW'.out.lt
          have c8 : wr.cell? ⟨w.heap.size + 1 + 1, k, none⟩ = some (.int .u32 (u (sched B k))) := (LR.out.cell hw2).trans (FW'.out.cell hk64)
          have c9 : wr.cell? ⟨kb, k, none⟩ = some (.int .u32 (u (kAt k))) := ((LB.out.trans (LR.out.mono LB.out.size)).cell (by assumption)).trans (HK.out k hk64)
          have c0 : wr.cell? ⟨wq.heap.size, 0, none⟩ = some (.int .u32 (u r.a)) := FR.out.cell (j := 0) (by omega)
          have c1 : wr.cell? ⟨wq.heap.size, 1, none⟩ = some (.int .u32 (u r.b)) := FR.out.cell (j := 1) (by omega)
          have c2 : wr.cell? ⟨wq.heap.size, 2, none⟩ = some (.int .u32 (u r.c)) := FR.out.cell (j := 2) (by omega)
          have c3 : wr.cell? ⟨wq.heap.size, 3, none⟩ = some (.int .u32 (u r.d)) := FR.out.cell (j := 3) (by omega)
          have c4 : wr.cell? ⟨wq.heap.size, 4, none⟩ = some (.int .u32 (u r.e)) := FR.out.cell (j := 4) (by omega)
          have c5 : wr.cell? ⟨wq.heap.size, 5, none⟩ = some (.int .u32 (u r.f)) := FR.out.cell (j := 5) (by omega)
          have c6 : wr.cell? ⟨wq.heap.size, 6, none⟩ = some (.int .u32 (u r.g)) := FR.out.cell (j := 6) (by omega)
          have c7 : wr.cell? ⟨wq.heap.size, 7, none⟩ = some (.int .u32 (u r.h)) := FR.out.cell (j := 7) (by omega)
          have g0 : (0 : Int) ≤ (k : Int) := Int.natCast_nonneg _
          have g1 : (k : Int) < 64 := by omega
          go_upto_region 13 with fail
          go_region
          go_upto_region 14 with fail
          go_cut [15] from 112 to 143 (fun v15 wz => v15 = .int .u32 (u (r.h + Sg1 r.e + ch r.e r.f r.g + kAt k + sched B k)) ∧ wz = wr.drew.drew)
          case first => as_aux_lemma =>
            --C
            go_region_held3 (fun w' => w'.cell? ⟨wq.heap.size, 5, none⟩ = some (.int .u32 (u r.f)) ∧ w'.cell? ⟨wq.heap.size, 6, none⟩ = some (.int .u32 (u r.g)) ∧ w'.cell? ⟨wq.heap.size, 7, none⟩ = some (.int .u32 (u r.h)) ∧ w'.cell? ⟨wq.heap.size, 1, none⟩ = some (.int .u32 (u r.b)) ∧ w'.cell? ⟨wq.heap.size, 2, none⟩ = some (.int .u32 (u r.c)) ∧ w'.cell? ⟨w.heap.size + 1 + 1, k, none⟩ = some (.int .u32 (u (sched B k))) ∧ w'.cell? ⟨kb, k, none⟩ = some (.int .u32 (u (kAt k)))) (first | assumption | go_keep)
              (first | (go_at_call 78; refine (turn_c _ _ _ (by decide)).mono ?_; rintro e' w' ⟨rfl, rfl⟩))
            go_wp2_with fail
            go_meet
            case rel => exact ⟨congrArg (Value.int .u32) (one_w _ _ _ _ _ _), rfl⟩
            --D
          case' rest => skip
          obtain ⟨rfl, rfl⟩ := hcut
          go_upto_region 15 with fail
          go_cut [16] from 144 to 167 (fun v16 wz => v16 = .int .u32 (u (Sg0 r.a + maj r.a r.b r.c)) ∧ wz = wr.drew.drew.drew)
          case first => as_aux_lemma =>
            --C
            go_region_held3 (fun w' => w'.cell? ⟨wq.heap.size, 1, none⟩ = some (.int .u32 (u r.b)) ∧ w'.cell? ⟨wq.heap.size, 2, none⟩ = some (.int .u32 (u r.c))) (first | assumption | go_keep)
              (first | (go_at_call 78; refine (turn_c _ _ _ (by decide)).mono ?_; rintro e' w' ⟨rfl, rfl⟩))
            go_wp2_with fail
            go_meet
            case rel => exact ⟨congrArg (Value.int .u32) (two_w _ _ _), rfl⟩
            --D
          case' rest => skip
          obtain ⟨rfl, rfl⟩ := hcut
          obtain ⟨vs, hvs⟩ : ∃ vs : Array Value, vs = #[.int .u32 ((u (r.h + Sg1 r.e + ch r.e r.f r.g + kAt k + sched B k) + u (Sg0 r.a + maj r.a r.b r.c)) % 4294967296), .int .u32 (u r.a), .int .u32 (u r.b), .int .u32 (u r.c), .int .u32 ((u r.d + u (r.h + Sg1 r.e + ch r.e r.f r.g + kAt k + sched B k)) % 4294967296), .int .u32 (u r.e), .int .u32 (u r.f), .int .u32 (u r.g)] := ⟨_, rfl⟩
          have HVS := hid hvs
          have hve : vs = eight ((r.h + Sg1 r.e + ch r.e r.f r.g + kAt k + sched B k) + (Sg0 r.a + maj r.a r.b r.c)) r.a r.b r.c (r.d + (r.h + Sg1 r.e + ch r.e r.f r.g + kAt k + sched B k)) r.e r.f r.g := by
            rw [hvs, u_add, u_add]; rfl
          have HVE := hid hve
          have hv8 : vs.size = 8 := by rw [hve]; rfl
          have hv1 := hid (show vs.all (·.oneCell') = true by rw [hve]; simp [eight, Value.oneCell'])
          clear hvs hve
          go_wp2_with first
            | (refine Go.wpList_buildTo rfl 123 _ rfl (some 187) rfl vs (by rw [HVS.out]; kernel_rfl) ?_)
            | (refine wpList_store_mid rfl 123 (.tmp 11) (.tmp 187) rfl wq.heap.size 0 vs rfl rfl (there_set (FR.out.of_block rfl) hv8) (by rw [hv8]; kernel_rfl) hv1.out ?_)
          go_roundg (64 - (k + 1))
          case measure => omega
          case rel =>
            refine ⟨k + 1, by go_num, rfl, by omega, hid ?_, hid ?_⟩
            · rw [hr.out]
              exact fn_eight (FR.out.of_block rfl) HVE.out
            · exact LR.out.trans ((Mod.setCells (S := fun c => c = wq.heap.size) _ 0 _ (((Mod.refl _ wr).drew).drew.drew) (fun hh => rfl)).below (B := wq.heap.size) (by omega) (fun c hc e => by omega))
          --B
        · have hk1 : k = 64 := by omega
          subst hk1
          have hc := hid (show comp s B = plus s (rnds s B 64) from rfl)
          generalize rnds s B 64 = r at *
          have F0'' := hid (F0'.out.below LR.out (by have := F0'.out.lt; omega))
          have F6'' := hid (show ∃ f, Fn wr (w.heap.size + 1) 123 8 f from F6'.out.imp (fun f hf => hf.below LR.out hf.lt))
          have LB' := hid (show Below w.heap.size w wr from LB.out.trans (LR.out.mono LB.out.size))
          have hwq : w.heap.size + 1 < wq.heap.size := by have ⟨f, hf⟩ := F6'.out; exact hf.lt
          clear hg LR LB F6' F0' Z0 RY FV LV FW'
          go_wp2
          obtain ⟨wp, rfl⟩ : ∃ wp, wp = wr := ⟨wr, rfl⟩
          go_loopg [17] 8 (fun g v17 wr => ∃ k : Nat, v17 = .int .i64 k ∧ g = 8 - k ∧ k ≤ 8 ∧ Hid (Fn wr wq.heap.size 123 8 (fun j => if j < k then .int .u32 (u (r.get j + s.get j)) else .int .u32 (u (r.get j)))) ∧ Hid (Below wq.heap.size wp wr))
          case atStart => exact ⟨0, rfl, rfl, by omega, hid (FR.out.congr (fun j hj => by rw [if_neg (by omega)])), hid (Below.refl _ _)⟩
          case round =>
            obtain ⟨k, rfl, hg, hk, FX, LX⟩ := hrel
            have hx8 := FX.out.lt
            by_cases hk8 : k < 8
            · have x1 : wr.cell? ⟨wq.heap.size, k, none⟩ = some (.int .u32 (u (r.get k))) := by have := FX.out.cell hk8; rwa [if_neg (Nat.lt_irrefl _)] at this
              have x2 : wr.cell? ⟨w.heap.size, k, none⟩ = some (.int .u32 (u (s.get k))) := (F0''.out.below LX.out (by omega)).cell hk8
              have x3 : wr.frozen? ⟨wq.heap.size, k, none⟩ = false := FX.out.frozen _
              go_upto_region 20 with fail
              go_region
              go_wp2
              go_roundg (8 - (k + 1))
              case measure => omega
              case rel =>
                refine ⟨k + 1, by go_num, rfl, by omega, hid ?_, hid ?_⟩
                · simp only [u_add]
                  refine ((FX.out.set k (.int .u32 (u (r.get k + s.get k)))).congr (fun j hj => ?_)).of_block rfl
                  unfold set1
                  by_cases e : j = k
                  · subst e; rw [if_pos rfl, if_pos (by omega)]
                  · rw [if_neg e]
                    dsimp only
                    by_cases e2 : j < k
                    · rw [if_pos e2, if_pos (by omega)]
                    · rw [if_neg e2, if_neg (by omega)]
                · exact LX.out.trans (((Mod.refl (fun q => q = wq.heap.size) wr).setCell (p := ⟨wq.heap.size, k, none⟩) (fun _ => rfl) _).drew.below (B := wq.heap.size) (by omega) (fun c hc e => by omega))
            · have hk9 : k = 8 := by omega
              subst hk9
              obtain ⟨f6, G6⟩ := F6''.out
              have G6' := hid (G6.below LX.out (by omega))
              clear G6
              have hy2 : ∀ j, j < 8 → (u32s 8 (comp s B).get)[j]? = some (if j < 8 then .int .u32 (u (r.get j + s.get j)) else .int .u32 (u (r.get j))) := fun j hj => by
                rw [if_pos hj, hc.out]; unfold u32s; rw [arr_get _ _ hj, plus_get, BitVec.add_comm]
              obtain ⟨ys, hys⟩ : ∃ ys, ys = u32s 8 (comp s B).get := ⟨_, rfl⟩
              have hyz : ys.size = 8 := by rw [hys]; exact arr_size _ _
              have hyo := hid (show ys.all (·.oneCell') = true by rw [hys]; exact one_arr)
              rw [← hys] at hy2
              have RY := hid (show wr.rangeAt wq.heap.size 0 ys.toList from FX.out.range' ys hyz hy2)
              have HYS := hid hys
              have hyi := hid (show (Try.prog.info? 123).map (·.size) = some ys.size by rw [hyz]; kernel_rfl)
              clear hys hy2
              go_wp2_with first
                | (refine wpList_store_mid rfl 123 (.tmp 6) (.tmp 201) rfl (w.heap.size + 1) 0 ys rfl rfl (there_set G6'.out hyz) hyi.out hyo.out ?_)
                | (refine wpList_load_mid rfl 123 (.tmp 11) rfl wq.heap.size 0 rfl ys.toList _ RY.out Try.underlying123 rfl (by rw [Array.length_toList, hyz]; kernel_rfl) ?_)
              obtain ⟨cs9, g1, g2, g3⟩ := G6'.out.storeAll' HYS.out
              have hcs9 := arr_ext g2 g3
              subst hcs9
              refine bodyPost_ret (v := .agg (u32s 8 (comp s B).get)) (results_cell_row (t := 123) (fr := (0, 0)) rfl _ _ (w.heap.size + 1) _ _ rfl g1 Try.underlying123 rfl (by unfold u32s; rw [arr_size]; kernel_rfl)) rfl ?_
              refine ⟨rfl, ?_⟩
              exact (Mod.setCells (S := fun q => w.heap.size ≤ q) _ 0 _ (show Mod (fun q => w.heap.size ≤ q) w wr from ⟨(LB'.out.trans (LX.out.mono (by omega))).os, (LB'.out.trans (LX.out.mono (by omega))).tape, (LB'.out.trans (LX.out.mono (by omega))).output, (LB'.out.trans (LX.out.mono (by omega))).size, fun c hc _ => (LB'.out.trans (LX.out.mono (by omega))).block c hc⟩) (fun hh => by omega)).below (Nat.le_refl _) (fun c hc hh => by omega)
end Go.Proofs.Ytkehejkjifgieaa
