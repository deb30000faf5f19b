/- The document's product of numbers of ten digits. -/
import Derived.Test.YtoegpjfpfhjbkaaRootAbove
import Derived.Test.YtoegpjfpfhjbkaaRefBlock
namespace Go.Proofs.Ytoegpjfpfhjbkaa
open Go.RowKit Go.ChangeMaps

/-- Below 160 bits. -/
def Lim10 (n : Nat) : Prop := n < 65536 ^ 10
theorem vint {k : IntKind} {a b : Int} (h : a = b) : Value.int k a = Value.int k b := by rw [h]
theorem dg_upd {wr : World} {b : Nat} {T : TypeId} {o : Nat → Nat} (F : Fn wr b T 10 (dg o)) (i v : Nat) : Fn (wr.setCell ⟨b, i, none⟩ (.int .u64 (v : Int))) b T 10 (dg (upd o i v)) := by
  refine (F.set i (.int .u64 (v : Int))).congr (fun j hj => ?_)
  unfold set1 dg upd
  by_cases e : j = i
  · rw [if_pos e, if_pos e]
  · rw [if_neg e, if_neg e]
def z10 : Array Value := arr 10 (dg (fun _ => 0))
theorem zero10 : ∀ W : World, (zeroValue 66).run Try.prog W = .ok (.agg z10) W := fun _ => rfl
theorem build10 : ∀ W : World, (Instr.build 66 #[]).run Try.prog W = .ok (.agg z10) W := fun W => run_build W _ _ _ (by kernel_rfl)
set_option maxRecDepth 100000 in
set_option maxHeartbeats 4000000 in
theorem times_c (w : World) {xs ys : Array Value} {a b : Nat → Nat} (hx : Dg xs a) (hy : Dg ys b) (hs : Lim10 (W10 a * W10 b)) :
    Calls Try.prog 35 #[.agg xs, .agg ys] w fun e w' => ∃ zs c, e = .returned (.agg zs) ∧ Dg zs c ∧ W10 c = W10 a * W10 b ∧ Below w.heap.size w w' := by
  obtain ⟨hx1, hx2, hx3⟩ := hx
  obtain ⟨hy1, hy2, hy3⟩ := hy
  have A3 := hid hx3
  have B3 := hid hy3
  obtain ⟨zs, hzs⟩ : ∃ zs, zs = z10 := ⟨_, rfl⟩
  have hz : ∀ W : World, (zeroValue 66).run Try.prog W = .ok (.agg zs) W := by rw [hzs]; exact zero10
  have hb : ∀ W : World, (Instr.build 66 #[]).run Try.prog W = .ok (.agg zs) W := by rw [hzs]; exact build10
  have hzz : zs.size = 10 := by rw [hzs]; exact arr_size _ _
  have hzo := hid (show zs.all (·.oneCell') = true by rw [hzs]; kernel_rfl)
  have HZ := hid (show ∀ j, j < 10 → zs[j]? = some (dg (fun _ => 0) j) by rw [hzs]; exact fun j hj => arr_get _ _ hj)
  clear hzs hx3 hy3
  obtain ⟨w1, hw1⟩ : ∃ w1, w1 = (((w.alloc (.cells xs 66)).alloc (.cells ys 66)).alloc (.cells zs 66)).alloc (.cells zs 66) := ⟨_, rfl⟩
  have FA := hid (show Fn w1 w.heap.size 66 10 (dg a) by rw [hw1]; exact (((Fn.new w xs _ hx1 hx2).alloc _).alloc _).alloc _)
  have FB := hid (show Fn w1 (w.heap.size + 1) 66 10 (dg b) by
    rw [hw1]; have := Fn.new (w.alloc (.cells xs 66)) ys 66 hy1 hy2; exact (show Fn _ (w.heap.size + 1) _ _ _ by simpa using this).alloc _ |>.alloc _)
  have FR := hid (show Fn w1 (w.heap.size + 1 + 1) 66 10 (dg (fun _ => 0)) by
    rw [hw1]; have := Fn.new ((w.alloc (.cells xs 66)).alloc (.cells ys 66)) zs 66 hzz HZ.out; exact (show Fn _ (w.heap.size + 1 + 1) _ _ _ by simpa using this).alloc _)
  have FO := hid (show Fn w1 (w.heap.size + 1 + 1 + 1) 66 10 (dg (fun _ => 0)) by
    rw [hw1]; have := Fn.new (((w.alloc (.cells xs 66)).alloc (.cells ys 66)).alloc (.cells zs 66)) zs 66 hzz HZ.out; simpa using this)
  have L0 := hid (show Below w.heap.size w w1 by rw [hw1]; exact ((((Below.refl w.heap.size w).alloc (Nat.le_refl _) _).alloc (by simp) _).alloc (by simp; omega) _).alloc (by simp; omega) _)
  clear hx1 hx2 hy1 hy2
  go_enter Try.func35, Try.ntmps35
  go_wp2_with (refine wpList_store_mid rfl 66 (.tmp 5) (.tmp 9) rfl (w.heap.size + 1 + 1 + 1) 0 zs rfl rfl (by rw [← hw1]; exact there_set FO.out hzz) (by rw [hzz]; kernel_rfl) hzo.out ?_)
  rw [← hw1]
  have FO2 := hid (show Fn (w1.setCells (w.heap.size + 1 + 1 + 1) 0 zs.toList) (w.heap.size + 1 + 1 + 1) 66 10 (dg (fun _ => 0)) from by
    have := FO.out.storeAll (dg (fun _ => 0))
    rwa [← arr_ext hzz HZ.out] at this)
  have M2 := hid (show Mod (fun c => c = w.heap.size + 1 + 1 + 1) w1 (w1.setCells (w.heap.size + 1 + 1 + 1) 0 zs.toList) from Mod.setCells (S := fun c => c = w.heap.size + 1 + 1 + 1) _ 0 _ (Mod.refl _ _) (fun _ => rfl))
  clear hw1
  generalize w1.setCells (w.heap.size + 1 + 1 + 1) 0 zs.toList = w2 at FO2 M2 ⊢
  go_loopg [6] 10 (fun g v6 wr => ∃ i : Nat, v6 = .int .i64 i ∧ g = 10 - i ∧ i ≤ 10 ∧ ∃ o e, Hid (V o 10 + e * 65536 ^ 10 = V a i * V b 10) ∧ Hid (∀ j, j < 10 → o j < 65536) ∧ Hid (Fn wr (w.heap.size + 1 + 1 + 1) 66 10 (dg o)) ∧ Hid (Mod (fun c => c = w.heap.size + 1 + 1 + 1) w1 wr))
  case atStart => exact ⟨0, rfl, rfl, by omega, (fun _ => 0), 0, hid (by rw [Nat.zero_mul, show V a 0 = 0 from rfl, Nat.zero_mul]; rfl), hid (fun _ _ => Nat.zero_lt_succ _), FO2, M2⟩
  case round =>
    obtain ⟨i, rfl, hg, hi, o, e, HE, HO, FI, MI⟩ := hrel
    by_cases hi10 : i < 10
    · go_wp2
      have hi0 : (0 : Int) ≤ (i : Int) := Int.natCast_nonneg _
      have hi1 : (i : Int) < 10 := by omega
      go_loopg [7, 8] 10 (fun g v7 v8 wr => ∃ k c o, v7 = .int .u64 (c : Nat) ∧ v8 = .int .i64 (k : Nat) ∧ g = 10 - k ∧ i + k ≤ 10 ∧ Hid (Prod a b o i k c) ∧ Hid (Fn wr (w.heap.size + 1 + 1 + 1) 66 10 (dg o)) ∧ Hid (Mod (fun c => c = w.heap.size + 1 + 1 + 1) w1 wr))
      case atStart => exact ⟨0, 0, o, rfl, rfl, rfl, by omega, hid (Prod.first HE.out HO.out), FI, MI⟩
      case round =>
        obtain ⟨k, c, o, rfl, rfl, hgk, hik, HP, FK, MK⟩ := hrel
        by_cases hk10 : i + k < 10
        · obtain ⟨HP1, hsz⟩ := HP.out.step hk10 (A3.out i hi10) (B3.out k (by omega))
          have HP1' := hid HP1
          have c0 : wr.cell? ⟨w.heap.size + 1 + 1 + 1, i + k, none⟩ = some (.int .u64 (o (i + k) : Int)) := FK.out.cell hk10
          have f0 : wr.frozen? ⟨w.heap.size + 1 + 1 + 1, i + k, none⟩ = false := FK.out.frozen _
          have c1 : wr.cell? ⟨w.heap.size, i, none⟩ = some (.int .u64 (a i : Int)) := (FA.out.mod MK.out (by omega)).cell hi10
          have c2 : wr.cell? ⟨w.heap.size + 1, k, none⟩ = some (.int .u64 (b k : Int)) := (FB.out.mod MK.out (by omega)).cell (by omega)
          clear HP1
          obtain ⟨x, hx⟩ : ∃ x, x = o (i + k) := ⟨_, rfl⟩
          obtain ⟨y, hy⟩ : ∃ y, y = a i := ⟨_, rfl⟩
          obtain ⟨z, hz⟩ : ∃ z, z = b k := ⟨_, rfl⟩
          rw [← hx] at c0 hsz HP1'
          rw [← hy] at c1 hsz HP1'
          rw [← hz] at c2 hsz HP1'
          clear hx hy hz
          obtain ⟨p, hp⟩ : ∃ p, p = y * z := ⟨_, rfl⟩
          have hpi : (y : Int) * (z : Int) = (p : Int) := by rw [hp]; simp
          rw [← hp] at hsz HP1'
          clear hp
          have n0 : (0 : Int) ≤ (k : Int) := Int.natCast_nonneg _
          have n1 : (k : Int) < 10 := by omega
          have n2 : (k : Int) + (i : Int) < 10 := by omega
          have n3 : (0 : Int) ≤ (i : Int) + (k : Int) := by omega
          have n4 : (i : Int) + (k : Int) < 10 := by omega
          have n5 : IntKind.i64.wrap ((k : Int) + (i : Int)) = (k : Int) + (i : Int) := by simp [IntKind.wrap, IntKind.bits, IntKind.signed]; omega
          have n6 : IntKind.i64.wrap ((i : Int) + (k : Int)) = (i : Int) + (k : Int) := by simp [IntKind.wrap, IntKind.bits, IntKind.signed]; omega
          have n7 : ((i : Int) + (k : Int)).toNat = i + k := by omega
          have n8 : IntKind.u64.wrap ((c : Int) + (x : Int)) = (c : Int) + (x : Int) := by simp [IntKind.wrap, IntKind.bits, IntKind.signed]; omega
          have n9 : IntKind.u64.wrap (p : Int) = (p : Int) := by simp [IntKind.wrap, IntKind.bits, IntKind.signed]; omega
          have n10 : IntKind.u64.wrap ((c : Int) + (x : Int) + (p : Int)) = (c : Int) + (x : Int) + (p : Int) := by simp [IntKind.wrap, IntKind.bits, IntKind.signed]; omega
          go_upto_region 9 with fail
          go_region
          go_wp2
          go_roundg (10 - (k + 1))
          case measure => omega
          case rel =>
            refine ⟨k + 1, (c + x + p) / 65536, _, ?_, by go_num, rfl, by omega, HP1', hid ?_, hid ?_⟩
            · exact vint (by omega)
            · rw [show ((c : Int) + (x : Int) + (p : Int)) % 65536 = (((c + x + p) % 65536 : Nat) : Int) by omega]
              exact (dg_upd FK.out _ _).of_block rfl
            · exact (MK.out.setCell (p := ⟨w.heap.size + 1 + 1 + 1, i + k, none⟩) (fun _ => rfl) _).drew
        · have hik2 : i + k = 10 := by omega
          have n5 : IntKind.i64.wrap ((k : Int) + (i : Int)) = 10 := by simp [IntKind.wrap, IntKind.bits, IntKind.signed]; omega
          go_wp2
          obtain ⟨e2, he2⟩ := HP.out.last hik2
          go_roundg (10 - (i + 1))
          case measure => omega
          case rel => exact ⟨i + 1, by go_num, rfl, by omega, o, e2, hid he2, hid HP.out.2.2, FK, MK⟩
    · have hi2 : i = 10 := by omega
      subst hi2
      have HV := hid (Prod.done HE.out hs)
      have R0 := hid (FR.out.mod MI.out (by omega))
      obtain ⟨ws, hws⟩ : ∃ ws, ws = arr 10 (dg o) := ⟨_, rfl⟩
      have hwz : ws.size = 10 := by rw [hws]; exact arr_size _ _
      have HW := hid (show ∀ j, j < 10 → ws[j]? = some (dg o j) by rw [hws]; exact fun j hj => arr_get _ _ hj)
      have hwo := hid (show ws.all (·.oneCell') = true by rw [hws]; exact one_arr)
      have RY := hid (show wr.rangeAt (w.heap.size + 1 + 1 + 1) 0 ws.toList from FI.out.range' ws hwz HW.out)
      have HWS := hid hws
      clear hws hg
      go_wp2_with first
        | (refine wpList_store_mid rfl 66 (.tmp 4) (.tmp 43) rfl (w.heap.size + 1 + 1) 0 ws rfl rfl (there_set R0.out hwz) (by rw [hwz]; kernel_rfl) hwo.out ?_)
        | (refine wpList_load_mid rfl 66 (.tmp 5) rfl (w.heap.size + 1 + 1 + 1) 0 rfl ws.toList _ RY.out Try.underlying66 rfl (by rw [Array.length_toList, hwz]; kernel_rfl) ?_)
      obtain ⟨cs9, g1, g2, g3⟩ := R0.out.storeAll (dg o)
      rw [← HWS.out] at g1
      have hcs9 : cs9 = ws := by rw [HWS.out]; exact arr_ext g2 g3
      subst hcs9
      refine bodyPost_ret (v := .agg cs9) (results_cell_row (t := 66) (fr := (0, 0)) rfl _ _ (w.heap.size + 1 + 1) _ _ rfl g1 Try.underlying66 rfl (by rw [hwz]; kernel_rfl)) rfl ?_
      refine ⟨cs9, o, rfl, ⟨hwz, HW.out, HO.out⟩, HV.out, ?_⟩
      exact L0.out.trans ((Mod.setCells (S := fun c => w.heap.size ≤ c) _ 0 wr (MI.out.weaken (fun c _ h => by omega)) (fun hh => by omega)).below L0.out.size (fun c hc hh => by omega))
end Go.Proofs.Ytoegpjfpfhjbkaa
