/- The document's Decode. -/
import Derived.Test.YtpbkdjnogjmfcaaRMay
import Derived.Test.YtpbkdjnogjmfcaaDecL
namespace Go.Proofs.Ytpbkdjnogjmfcaa
open Go.RowKit Go.ChangeMaps

/-- Bytes of the memory as it was. -/
def RG (w0 : World) (u : World) (v : Value) (xs : List W8) : Prop := Bytes u v xs ∧ (0 < xs.length → ∀ k, v.ownBlock = some k → k < w0.heap.size)
theorem RG.mod {w0 u u' : World} {v : Value} {xs : List W8} {S : Nat → Prop} (h : RG w0 u v xs) (m : Mod S u u') (hs : ∀ k, S k → w0.heap.size ≤ k) : RG w0 u' v xs :=
  ⟨h.1.mod' m (fun h0 k hk e => by have := h.2 h0 k hk; have := hs k e; omega), h.2⟩
theorem RG.below {w0 u u' : World} {v : Value} {xs : List W8} (h : RG w0 u v xs) (hb : Below u.heap.size u u') : RG w0 u' v xs := ⟨h.1.below hb, h.2⟩
theorem RG.alloc {w0 u : World} {v : Value} {xs : List W8} (h : RG w0 u v xs) (o : Obj) : RG w0 (u.alloc o) v xs := h.below ((Below.refl _ u).alloc (Nat.le_refl _) o)
theorem tName_len (t : Tp) : (tName t).1.length ≤ 1000000 := by
  have h := (tShort_le 12 t).1
  rcases tBytes_len (tShort 12 t).1 (tShort 12 t).2 with h2 | h2
  · show (tBytes _ _).1.length ≤ _; omega
  · show (tBytes _ _).1.length ≤ _; rw [h2]; exact Nat.zero_le _
theorem strm_rzero (W : World) : (zeroValue 35).run Try.prog W = .ok (.agg (strmV Strm.zero (.slice none 0 0))) W := rfl
structure DT (T R : TypeId) (w0 : World) (r b2 b6 : Nat) (t : Tp) (s : Strm) (cv : Value) (wr : World) : Prop where
  below : Below w0.heap.size w0 wr
  rd : Rd R wr r (fun k => w0.heap.size ≤ k) t
  f2 : Fn wr b2 T 69 (sf Strm.zero (.slice none 0 0))
  f6 : Fn wr b6 T 69 (sf s cv)
  r0 : w0.heap.size ≤ r
  h2 : w0.heap.size ≤ b2
  h6 : w0.heap.size ≤ b6
  r2 : r ≠ b2
  r6 : r ≠ b6
  n26 : b2 ≠ b6
section
variable {T R : TypeId} {w0 wr w2 : World} {r b2 b6 : Nat} {t t' : Tp} {s s' : Strm} {cv cv' : Value}
theorem DT.Nr (h : DT T R w0 r b2 b6 t s cv wr) : w0.heap.size ≤ r := h.r0
theorem DT.call (h : DT T R w0 r b2 b6 t s cv wr) (R2 : Rd R w2 r (fun k => w0.heap.size ≤ k) t') (M : Mod (fun k => k = r) wr w2) : DT T R w0 r b2 b6 t' s cv w2 :=
  { h with below := h.below.trans (M.below h.below.size (fun k hk e => by have := h.r0; omega)), rd := R2, f2 := h.f2.mod M (Ne.symm h.r2), f6 := h.f6.mod M (Ne.symm h.r6) }
theorem DT.six (h : DT T R w0 r b2 b6 t s cv wr) (M : Mod (fun k => k = b6) wr w2) (F : Fn w2 b6 T 69 (sf s' cv')) : DT T R w0 r b2 b6 t s' cv' w2 :=
  { h with below := h.below.trans (M.below h.below.size (fun k hk e => by have := h.h6; omega)), rd := h.rd.mod M h.r6 (fun k hk => by have := h.h6; omega), f2 := h.f2.mod M h.n26, f6 := F }
theorem DT.cell (h : DT T R w0 r b2 b6 t s cv wr) {j : Nat} (hj : j < 69) : wr.cell? ⟨b6, j, none⟩ = some (sf s cv j) ∧ wr.frozen? ⟨b6, j, none⟩ = false := ⟨h.f6.cell hj, h.f6.frozen j⟩
theorem DT.set (h : DT T R w0 r b2 b6 t s cv wr) (x : List W8) : DT T R w0 r b2 b6 t { s with set := x } cv (wr.setCell ⟨b6, 1, none⟩ (.string (str x))) := h.six (Mod.one _ _ _ _) ((h.f6.set 1 _).congr (fun j _ => (sf_set s cv x j).symm))
theorem DT.frm (h : DT T R w0 r b2 b6 t s cv wr) (x : List W8) : DT T R w0 r b2 b6 t { s with frm := x } cv (wr.setCell ⟨b6, 2, none⟩ (.string (str x))) := h.six (Mod.one _ _ _ _) ((h.f6.set 2 _).congr (fun j _ => (sf_frm s cv x j).symm))
theorem DT.til (h : DT T R w0 r b2 b6 t s cv wr) (x : List W8) : DT T R w0 r b2 b6 t { s with til := x } cv (wr.setCell ⟨b6, 3, none⟩ (.string (str x))) := h.six (Mod.one _ _ _ _) ((h.f6.set 3 _).congr (fun j _ => (sf_til s cv x j).symm))
theorem DT.base (h : DT T R w0 r b2 b6 t s cv wr) (x : List W8) : DT T R w0 r b2 b6 t { s with base := x } cv (wr.setCells b6 4 (hl32 x).toList) := h.six (Mod.cells _ _ _ _) (fn_base h.f6 x)
theorem DT.goal (h : DT T R w0 r b2 b6 t s cv wr) (x : List W8) : DT T R w0 r b2 b6 t { s with goal := x } cv (wr.setCells b6 36 (hl32 x).toList) := h.six (Mod.cells _ _ _ _) (fn_goal h.f6 x)
theorem DT.drew (h : DT T R w0 r b2 b6 t s cv wr) : DT T R w0 r b2 b6 t s cv wr.drew := { h with below := h.below.drew, rd := h.rd, f2 := h.f2, f6 := h.f6 }
theorem DT.quiet (h : DT T R w0 r b2 b6 t s cv wr) (hb : Below wr.heap.size wr w2) : DT T R w0 r b2 b6 t s cv w2 :=
  { h with below := h.below.trans (hb.mono h.below.size), rd := h.rd.below hb, f2 := h.f2.below hb h.f2.lt, f6 := h.f6.below hb h.f6.lt }
theorem DT.alloc (h : DT T R w0 r b2 b6 t s cv wr) (o : Obj) : DT T R w0 r b2 b6 t s cv (wr.alloc o) := h.quiet ((Below.refl _ wr).alloc (Nat.le_refl _) o)
theorem DT.cells (h : DT T R w0 r b2 b6 t s cv wr) (v : Value) : DT T R w0 r b2 b6 t s v (wr.setCell ⟨b6, 68, none⟩ v) := h.six (Mod.one _ _ _ _) ((h.f6.set 68 v).congr (fun j hj => (sf_cells s cv v j hj).symm))
theorem DT.far (h : DT T R w0 r b2 b6 t s cv wr) {b8 : Nat} (M : Mod (fun k => k = b8) wr w2) (hr : r ≠ b8) (h2 : b2 ≠ b8) (h6 : b6 ≠ b8) (hb : w0.heap.size ≤ b8) : DT T R w0 r b2 b6 t s cv w2 :=
  { h with below := h.below.trans (M.below h.below.size (fun k hk e => by omega)), rd := h.rd.mod M hr (fun k hk => by omega), f2 := h.f2.mod M h2, f6 := h.f6.mod M h6 }
theorem DT.lay (h : DT T R w0 r b2 b6 t s cv wr) (s' : Strm) (cv' : Value) : Fn (wr.setCells b2 0 (strmV s' cv').toList) b2 T 69 (sf s' cv') ∧ Below w0.heap.size w0 (wr.setCells b2 0 (strmV s' cv').toList) ∧ Mod (fun k => k = b2) wr (wr.setCells b2 0 (strmV s' cv').toList) :=
  ⟨h.f2.storeAll _, h.below.trans ((Mod.cells wr b2 0 _).below h.below.size (fun k hk e => by have := h.h2; omega)), Mod.cells wr b2 0 _⟩
theorem DT.app {base : Nat} {v : Value} {xs : List Value} {n : Nat} {U : TypeId} (h : DT T R w0 r b2 b6 t s cv wr) (O : wr.ownsRow base U 2 v n xs) (hb : w0.heap.size ≤ base) (M : Mod (fun k => v.ownBlock = some k) wr w2) (hT : U ≠ T) (hR : U ≠ R) : DT T R w0 r b2 b6 t s cv w2 :=
  { h with
    below := h.below.trans (M.below h.below.size (fun k hk e => by have := (ownsRow_lt O k e).1; omega))
    rd := h.rd.mod M (by obtain ⟨_, B, _⟩ := h.rd; exact ownsRow_blk O B hR) (fun k hk => by have := (ownsRow_lt O k hk).1; omega)
    f2 := h.f2.mod M (ownsRow_fn O h.f2 hT)
    f6 := h.f6.mod M (ownsRow_fn O h.f6 hT) }
end
set_option maxRecDepth 100000 in
set_option maxHeartbeats 4000000 in
theorem rdecode_c {w : World} {v : Value} {xs : List W8} (hB : Bytes w v xs) (hl : xs.length ≤ 5100) :
    Calls Try.prog 15 #[v] w fun e w' => ∃ cv ts, e = .returned (.tuple #[.agg (strmV (decS xs).2 cv), .int .i64 (decS xs).1]) ∧ (decS xs).2.cells = tcs ts ∧ Cs 50 (RG w) w' w.heap.size cv ts ∧ Below w.heap.size w w' := by
  obtain ⟨zs, hzs⟩ : ∃ zs, zs = strmV Strm.zero (.slice none 0 0) := ⟨_, rfl⟩
  have hz : ∀ W : World, (zeroValue 35).run Try.prog W = .ok (.agg zs) W := by rw [hzs]; exact strm_rzero
  have hsz := hid (show zs.size = 69 by rw [hzs]; exact strmV_size _ _)
  have hso := hid (show zs.all (·.oneCell') = true by rw [hzs]; exact strmV_one _ _ rfl)
  have HB := hid hB
  have hlt := hid hB.lt
  obtain ⟨p, cap, rfl, _⟩ := hB
  have HL := hid hl
  by_cases h5 : 5000 < xs.length
  · have FZ := hid (show Fn (w.alloc (.cells zs 35)) w.heap.size 35 69 (sf Strm.zero (.slice none 0 0)) by rw [hzs]; exact Fn.arr w _ 69 _)
    have HD := hid (decS_long h5)
    have HZ := hid hzs
    clear hzs
    go_enter Try.func15, Try.ntmps15
    go_wp2_with ((with_reducible refine at_op (.store 35 (.tmp 2) (.tmp 14)) rfl ?_); refine wpList_store_mid rfl 35 (.tmp 2) (.tmp 14) rfl w.heap.size 0 zs rfl rfl (there_set FZ.out hsz.out) (by rw [hsz.out]; kernel_rfl) hso.out ?_)
    have FL : Fn ((w.alloc (.cells zs 35)).setCells w.heap.size 0 zs.toList) w.heap.size 35 69 (sf Strm.zero (.slice none 0 0)) := by
      have h := HZ.out
      have h2 := FZ.out.storeAll (sf Strm.zero (.slice none 0 0))
      rw [h] at h2 ⊢; exact h2
    have BL : Below w.heap.size w ((w.alloc (.cells zs 35)).setCells w.heap.size 0 zs.toList) :=
      ((Below.refl _ w).alloc (Nat.le_refl _) _).trans ((Mod.cells _ w.heap.size 0 _).below (by simp) (fun k hk e => by omega))
    refine bodyPost_ret (v := .tuple #[.agg (strmV Strm.zero (.slice none 0 0)), .int .i64 4]) (results_strm (p := 2) (u := 3) (ty := 35) rfl _ _ w.heap.size _ _ rfl rfl (load_strm FL Try.underlying35 rfl (by kernel_rfl))) rfl ⟨.slice none 0 0, [], by rw [HD.out], by rw [HD.out]; rfl, Cs.nil _ _ _ _, BL⟩
  · obtain ⟨w1, hw1⟩ : ∃ w1, w1 = w.alloc (.cells zs 35) := ⟨_, rfl⟩
    have L1 := hid (show Below w.heap.size w w1 by rw [hw1]; exact (Below.refl _ w).alloc (Nat.le_refl _) _)
    have F1 := hid (show Fn w1 w.heap.size 35 69 (sf Strm.zero (.slice none 0 0)) by rw [hw1, hzs]; exact Fn.arr w _ 69 _)
    have hs1 := hid (show w1.heap.size = w.heap.size + 1 by rw [hw1]; simp)
    have HZ := hid hzs
    clear hzs
    go_enter Try.func15, Try.ntmps15
    go_upto_region 4 with fail
    rw [← hw1]
    have B1 := hid (Blk.new w1 #[.slice p xs.length cap, .int .i64 0] 64)
    have L2 := hid ((Below.refl w1.heap.size w1).alloc (Nat.le_refl _) (.cells #[.slice p xs.length cap, .int .i64 0] 64))
    have R1 := hid (show Rd 64 (w1.alloc (.cells #[.slice p xs.length cap, .int .i64 0] 64)) w1.heap.size (fun k => w.heap.size ≤ k) (xs, 0) from
      ⟨_, B1.out, (HB.out.below L1.out).below L2.out, fun h0 k hk e => by have := hlt.out h0 k hk; omega⟩)
    have C1 := hid (tpByte_c R1.out (show w.heap.size ≤ w1.heap.size by have := hs1.out; omega) (by show xs.length ≤ 100000; omega))
    obtain ⟨m, hm⟩ : ∃ m, m = tByte (xs, 0) := ⟨_, rfl⟩
    have hdm := hid (show decS xs = decS xs from rfl)
    rw [← hm] at C1
    have hm' := hid hm
    have hml := hid (show m.2.1.length ≤ xs.length from by rw [hm]; exact tByte_le _)
    obtain ⟨x, hx⟩ : ∃ x, x = m.1 := ⟨_, rfl⟩
    rw [← hx] at C1
    have hx' := hid hx
    obtain ⟨hx0, hx1⟩ := ub_bd x
    clear hw1 hm hx hl
    rw [← hs1.out]
    go_upto_region 5 with (go_at_call 30; ((with_reducible refine C1.out.mono ?_); rintro e w2 ⟨rfl, R2, M2⟩); have R2' := hid R2; have M2' := hid M2; clear R2 M2)
    obtain ⟨t0, ht0⟩ : ∃ t0, t0 = tFail (decide (x ≠ 70) && decide (x ≠ 73)) m.2 := ⟨_, rfl⟩
    have ht0' := hid ht0
    have HT := hid (show x = 70 ∨ x = 73 → m.2 = t0 from fun h => by rw [ht0]; rcases h with h | h <;> subst h <;> exact (if_neg (fun h => by cases h.1)).symm)
    have HF := hid (show ¬ x = 70 → ¬ x = 73 → tFail true m.2 = t0 from fun h h' => by rw [ht0, decide_eq_true h, decide_eq_true h']; rfl)
    clear ht0 hdm
    go_cut [] from 20 to 27 (fun wr => Hid (Rd 64 wr w1.heap.size (fun k => w.heap.size ≤ k) t0) ∧ Hid (Mod (fun k => k = w1.heap.size) w2 wr))
    case first =>
      have CF := hid (fun is => tpFail_c R2'.out (show w.heap.size ≤ w1.heap.size by have := hs1.out; omega) is)
      by_cases h70 : x = 70
      · have e70 : (ub x != 70) = false := by rw [h70]; rfl
        have HT1 := hid (HT.out (Or.inl h70))
        clear h70
        go_wp2_with (go_at_call 31; ((with_reducible refine (CF.out false).mono ?_); rintro e w3 ⟨rfl, R3, M3⟩); rw [show tFail false m.2 = m.2 from if_neg (fun h => by cases h.1), HT1.out] at R3; have R3' := hid R3; have M3' := hid M3; clear R3 M3)
        go_meet
        case rel => exact ⟨R3', M3'⟩
      · have e70 : (ub x != 70) = true := by simp; exact fun h => h70 (ub_inj h)
        by_cases h73 : x = 73
        · have e73 : (ub x != 73) = false := by rw [h73]; rfl
          have HT1 := hid (HT.out (Or.inr h73))
          clear h70 h73
          go_wp2_with (go_at_call 31; ((with_reducible refine (CF.out false).mono ?_); rintro e w3 ⟨rfl, R3, M3⟩); rw [show tFail false m.2 = m.2 from if_neg (fun h => by cases h.1), HT1.out] at R3; have R3' := hid R3; have M3' := hid M3; clear R3 M3)
          go_meet
          case rel => exact ⟨R3', M3'⟩
        · have e73 : (ub x != 73) = true := by simp; exact fun h => h73 (ub_inj h)
          have HT1 := hid (HF.out h70 h73)
          clear h70 h73
          go_wp2_with (go_at_call 31; ((with_reducible refine (CF.out true).mono ?_); rintro e w3 ⟨rfl, R3, M3⟩); rw [HT1.out] at R3; have R3' := hid R3; have M3' := hid M3; clear R3 M3)
          go_meet
          case rel => exact ⟨R3', M3'⟩
    case rest =>
      obtain ⟨wb, rfl⟩ : ∃ wb : World, wb = wc := ⟨_, rfl⟩
      obtain ⟨R3, M3⟩ := hcut
      obtain ⟨q, hq⟩ : ∃ q, q = decide (x = 73) := ⟨_, rfl⟩
      have e73 : (ub x == 73) = q := by rw [hq, Bool.eq_iff_iff]; simp; exact ⟨fun h => ub_inj h, fun h => by rw [h]; rfl⟩
      have hq' := hid hq
      clear hq
      have FZ := hid (show Fn (wb.alloc (.cells zs 35)) wb.heap.size 35 69 (sf Strm.zero (.slice none 0 0)) by rw [HZ.out]; exact Fn.arr wb _ 69 _)
      have hwc := hid (show w1.heap.size < wb.heap.size from R3.out.lt)
      obtain ⟨s0, hs0⟩ : ∃ s0 : Strm, s0 = ⟨q, [], [], [], zero32, zero32, []⟩ := ⟨_, rfl⟩
      have hbt := hid (show True by trivial)
      have D0 := hid (show DT 35 64 w w1.heap.size w.heap.size wb.heap.size t0 s0 (.slice none 0 0) ((wb.alloc (.cells zs 35)).setCells wb.heap.size 0 (strmV s0 (.slice none 0 0)).toList) from by
        have e1 := hs1.out
        have e2 := hwc.out
        have La : Below wb.heap.size wb (wb.alloc (.cells zs 35)) := (Below.refl _ wb).alloc (Nat.le_refl _) _
        have MC := Mod.cells (wb.alloc (.cells zs 35)) wb.heap.size 0 (strmV s0 (.slice none 0 0)).toList
        have Bc : Below w.heap.size w wb := (L1.out.trans (L2.out.mono (by omega))).trans ((M2'.out.trans M3.out).below (by have := L2.out.size; omega) (fun k hk e => by omega))
        have Ra := R3.out.below La
        have F2a : Fn wb w.heap.size 35 69 (sf Strm.zero (.slice none 0 0)) := ((F1.out.below L2.out (by omega)).mod M2'.out (by omega)).mod M3.out (by omega)
        exact {
          below := (Bc.trans (La.mono (by omega))).trans (MC.below (by simp; omega) (fun k hk e => by omega))
          rd := Ra.mod MC (by omega) (fun k hk => by omega)
          f2 := (F2a.alloc _).mod MC (by omega)
          f6 := FZ.out.storeAll _
          r0 := by omega
          h2 := by omega
          h6 := by omega
          r2 := by omega
          r6 := by omega
          n26 := by omega })
      have hso0 := hid (strmV_one s0 (.slice none 0 0) rfl)
      have hin := hid (show s0 = ⟨q, [], [], [], zero32, zero32, []⟩ from hs0)
      clear hs0
      have hset := hid (show zs.setIfInBounds 0 (.bool q) = strmV s0 (.slice none 0 0) from by
        rw [HZ.out, hin.out]; exact strm_set q)
      have hz69 : ¬ zs = #[] := fun e => by have := hsz.out; rw [e] at this; cases this
      go_upto_region 7 with (refine wpList_store_mid rfl 35 (.tmp 6) (.tmp 30) rfl wb.heap.size 0 (zs.setIfInBounds 0 (.bool q)) rfl rfl (by rw [hset.out]; exact there_set FZ.out (strmV_size _ _)) (by rw [hset.out, strmV_size]; kernel_rfl) (by rw [hset.out]; exact hso0.out) ?_)
      rw [hset.out]
      clear hz69
      obtain ⟨w4, hw4⟩ : ∃ w4, w4 = (wb.alloc (.cells zs 35)).setCells wb.heap.size 0 (strmV s0 (.slice none 0 0)).toList := ⟨_, rfl⟩
      rw [← hw4] at D0 ⊢
      clear hw4
      simp only [Act.put]
      have hl0 : t0.1.length ≤ xs.length := by rw [ht0'.out, tFail_fst]; exact hml.out
      obtain ⟨na, hna⟩ : ∃ na, na = tName t0 := ⟨_, rfl⟩
      have hla : na.2.1.length ≤ xs.length := by rw [hna]; exact Nat.le_trans (tName_le _) hl0
      obtain ⟨nb, hnb⟩ : ∃ nb, nb = tName na.2 := ⟨_, rfl⟩
      have hlb : nb.2.1.length ≤ xs.length := by rw [hnb]; exact Nat.le_trans (tName_le _) hla
      obtain ⟨nc, hnc⟩ : ∃ nc, nc = tName nb.2 := ⟨_, rfl⟩
      have hlc : nc.2.1.length ≤ xs.length := by rw [hnc]; exact Nat.le_trans (tName_le _) hlb
      obtain ⟨hp, hhp⟩ : ∃ hp, hp = tHash nc.2 := ⟨_, rfl⟩
      have hlp : hp.2.1.length ≤ xs.length := by rw [hhp]; exact Nat.le_trans (tHash_le _) hlc
      obtain ⟨hg, hhg⟩ : ∃ hg, hg = tHash hp.2 := ⟨_, rfl⟩
      have hlg : hg.2.1.length ≤ xs.length := by rw [hhg]; exact Nat.le_trans (tHash_le _) hlp
      obtain ⟨sn, hsn⟩ : ∃ sn, sn = tShort 16 hg.2 := ⟨_, rfl⟩
      have hls : sn.2.1.length ≤ xs.length := by rw [hsn]; exact Nat.le_trans (tShort_le _ _).2 hlg
      have hsn16 : sn.1 ≤ 16 := by rw [hsn]; exact (tShort_le _ _).1
      obtain ⟨ka, hka⟩ : ∃ ka, ka = tShort 12 t0 := ⟨_, rfl⟩
      have Cka := hid (fun (W : World) (s : Strm) (D : DT 35 64 w w1.heap.size w.heap.size wb.heap.size t0 s (.slice none 0 0) W) => (hka ▸ tpShort_c D.rd D.Nr (by omega) 12 (by decide) : Calls Try.prog 33 #[.pointer (some ⟨w1.heap.size, 0, none⟩), .int .u64 12] W fun e w' => e = .returned (.int .i64 ka.1) ∧ Rd 64 w' w1.heap.size (fun k => w.heap.size ≤ k) ka.2 ∧ Mod (fun k => k = w1.heap.size) W w'))
      have hnka : na = tBytes ka.1 ka.2 := by rw [hna, hka]; rfl
      have hlka : ka.2.1.length ≤ xs.length ∧ ka.1 ≤ 12 := by rw [hka]; exact ⟨Nat.le_trans (tShort_le _ _).2 (by omega), (tShort_le _ _).1⟩
      have Bka := hid (fun (W : World) (s : Strm) (D : DT 35 64 w w1.heap.size w.heap.size wb.heap.size ka.2 s (.slice none 0 0) W) => (hnka ▸ tpBytes_c D.rd D.Nr (by omega) ka.1 (by omega) : Calls Try.prog 32 #[.pointer (some ⟨w1.heap.size, 0, none⟩), .int .i64 ka.1] W fun e w' => ∃ v, e = .returned v ∧ Bytes w' v na.1 ∧ (0 < na.1.length → ∀ k, v.ownBlock = some k → ¬ w.heap.size ≤ k) ∧ Rd 64 w' w1.heap.size (fun k => w.heap.size ≤ k) na.2 ∧ Mod (fun k => k = w1.heap.size) W w'))
      clear hka hnka hlka
      obtain ⟨kb, hkb⟩ : ∃ kb, kb = tShort 12 na.2 := ⟨_, rfl⟩
      have Ckb := hid (fun (W : World) (s : Strm) (D : DT 35 64 w w1.heap.size w.heap.size wb.heap.size na.2 s (.slice none 0 0) W) => (hkb ▸ tpShort_c D.rd D.Nr (by omega) 12 (by decide) : Calls Try.prog 33 #[.pointer (some ⟨w1.heap.size, 0, none⟩), .int .u64 12] W fun e w' => e = .returned (.int .i64 kb.1) ∧ Rd 64 w' w1.heap.size (fun k => w.heap.size ≤ k) kb.2 ∧ Mod (fun k => k = w1.heap.size) W w'))
      have hnkb : nb = tBytes kb.1 kb.2 := by rw [hnb, hkb]; rfl
      have hlkb : kb.2.1.length ≤ xs.length ∧ kb.1 ≤ 12 := by rw [hkb]; exact ⟨Nat.le_trans (tShort_le _ _).2 (by omega), (tShort_le _ _).1⟩
      have Bkb := hid (fun (W : World) (s : Strm) (D : DT 35 64 w w1.heap.size w.heap.size wb.heap.size kb.2 s (.slice none 0 0) W) => (hnkb ▸ tpBytes_c D.rd D.Nr (by omega) kb.1 (by omega) : Calls Try.prog 32 #[.pointer (some ⟨w1.heap.size, 0, none⟩), .int .i64 kb.1] W fun e w' => ∃ v, e = .returned v ∧ Bytes w' v nb.1 ∧ (0 < nb.1.length → ∀ k, v.ownBlock = some k → ¬ w.heap.size ≤ k) ∧ Rd 64 w' w1.heap.size (fun k => w.heap.size ≤ k) nb.2 ∧ Mod (fun k => k = w1.heap.size) W w'))
      clear hkb hnkb hlkb
      obtain ⟨kc, hkc⟩ : ∃ kc, kc = tShort 12 nb.2 := ⟨_, rfl⟩
      have Ckc := hid (fun (W : World) (s : Strm) (D : DT 35 64 w w1.heap.size w.heap.size wb.heap.size nb.2 s (.slice none 0 0) W) => (hkc ▸ tpShort_c D.rd D.Nr (by omega) 12 (by decide) : Calls Try.prog 33 #[.pointer (some ⟨w1.heap.size, 0, none⟩), .int .u64 12] W fun e w' => e = .returned (.int .i64 kc.1) ∧ Rd 64 w' w1.heap.size (fun k => w.heap.size ≤ k) kc.2 ∧ Mod (fun k => k = w1.heap.size) W w'))
      have hnkc : nc = tBytes kc.1 kc.2 := by rw [hnc, hkc]; rfl
      have hlkc : kc.2.1.length ≤ xs.length ∧ kc.1 ≤ 12 := by rw [hkc]; exact ⟨Nat.le_trans (tShort_le _ _).2 (by omega), (tShort_le _ _).1⟩
      have Bkc := hid (fun (W : World) (s : Strm) (D : DT 35 64 w w1.heap.size w.heap.size wb.heap.size kc.2 s (.slice none 0 0) W) => (hnkc ▸ tpBytes_c D.rd D.Nr (by omega) kc.1 (by omega) : Calls Try.prog 32 #[.pointer (some ⟨w1.heap.size, 0, none⟩), .int .i64 kc.1] W fun e w' => ∃ v, e = .returned v ∧ Bytes w' v nc.1 ∧ (0 < nc.1.length → ∀ k, v.ownBlock = some k → ¬ w.heap.size ≤ k) ∧ Rd 64 w' w1.heap.size (fun k => w.heap.size ≤ k) nc.2 ∧ Mod (fun k => k = w1.heap.size) W w'))
      clear hkc hnkc hlkc
      have HA := hid (And.intro hna (And.intro hnb (And.intro hnc (And.intro hhp (And.intro hhg hsn)))))
      clear hna hnb hnc hhp hhg hsn
      go_upto_region 8 with (first
        | (go_at_call 32; ((with_reducible refine (Bka.out _ _ DX.out).mono ?_); rintro e w6 ⟨v6, rfl, O6, _, R6, M6⟩); have DY := hid (DX.out.call R6 M6); have hcv := conv_str' O6; obtain ⟨p6, m6, c6, rfl⟩ := O6.form; obtain ⟨c1, f1⟩ := DY.out.cell (j := 1) (by decide); clear R6 M6 O6)
        | (go_at_call 33; ((with_reducible refine (Cka.out _ _ D0.out).mono ?_); rintro e w5 ⟨rfl, R5, M5⟩); have DX := hid (D0.out.call R5 M5); clear R5 M5))
      obtain ⟨s01, hs01⟩ : ∃ x, x = { s0 with set := na.1 } := ⟨_, rfl⟩
      have hs01' := hid hs01
      have D1 := hid (show DT 35 64 w w1.heap.size w.heap.size wb.heap.size na.2 s01 (.slice none 0 0) (w6.setCell ⟨wb.heap.size, 1, none⟩ (.string (str na.1))) from by rw [hs01]; exact DY.out.set na.1)
      obtain ⟨w81, hw8⟩ : ∃ x, x = w6.setCell ⟨wb.heap.size, 1, none⟩ (.string (str na.1)) := ⟨_, rfl⟩
      rw [← hw8] at D1 ⊢
      clear hw8 hs01 c1 f1 hcv DX DY
      go_upto_region 9 with (first
        | (go_at_call 32; ((with_reducible refine (Bkb.out _ _ DX.out).mono ?_); rintro e w6 ⟨v6, rfl, O6, _, R6, M6⟩); have DY := hid (DX.out.call R6 M6); have hcv := conv_str' O6; obtain ⟨p6, m6, c6, rfl⟩ := O6.form; obtain ⟨c1, f1⟩ := DY.out.cell (j := 2) (by decide); clear R6 M6 O6)
        | (go_at_call 33; ((with_reducible refine (Ckb.out _ _ D1.out).mono ?_); rintro e w5 ⟨rfl, R5, M5⟩); have DX := hid (D1.out.call R5 M5); clear R5 M5))
      obtain ⟨s02, hs02⟩ : ∃ x, x = { s01 with frm := nb.1 } := ⟨_, rfl⟩
      have hs02' := hid hs02
      have D2 := hid (show DT 35 64 w w1.heap.size w.heap.size wb.heap.size nb.2 s02 (.slice none 0 0) (w6.setCell ⟨wb.heap.size, 2, none⟩ (.string (str nb.1))) from by rw [hs02]; exact DY.out.frm nb.1)
      obtain ⟨w82, hw8⟩ : ∃ x, x = w6.setCell ⟨wb.heap.size, 2, none⟩ (.string (str nb.1)) := ⟨_, rfl⟩
      rw [← hw8] at D2 ⊢
      clear hw8 hs02 c1 f1 hcv DX DY
      go_upto_region 10 with (first
        | (go_at_call 32; ((with_reducible refine (Bkc.out _ _ DX.out).mono ?_); rintro e w6 ⟨v6, rfl, O6, _, R6, M6⟩); have DY := hid (DX.out.call R6 M6); have hcv := conv_str' O6; obtain ⟨p6, m6, c6, rfl⟩ := O6.form; obtain ⟨c1, f1⟩ := DY.out.cell (j := 3) (by decide); clear R6 M6 O6)
        | (go_at_call 33; ((with_reducible refine (Ckc.out _ _ D2.out).mono ?_); rintro e w5 ⟨rfl, R5, M5⟩); have DX := hid (D2.out.call R5 M5); clear R5 M5))
      obtain ⟨s03, hs03⟩ : ∃ x, x = { s02 with til := nc.1 } := ⟨_, rfl⟩
      have hs03' := hid hs03
      have D3 := hid (show DT 35 64 w w1.heap.size w.heap.size wb.heap.size nc.2 s03 (.slice none 0 0) (w6.setCell ⟨wb.heap.size, 3, none⟩ (.string (str nc.1))) from by rw [hs03]; exact DY.out.til nc.1)
      obtain ⟨w83, hw8⟩ : ∃ x, x = w6.setCell ⟨wb.heap.size, 3, none⟩ (.string (str nc.1)) := ⟨_, rfl⟩
      rw [← hw8] at D3 ⊢
      clear hw8 hs03 c1 f1 hcv DX DY
      have hs1' := hid (show s03 = { s0 with set := na.1, frm := nb.1, til := nc.1 } from by rw [hs03'.out, hs02'.out, hs01'.out])
      have D4 := D3
      clear hs01' hs02' hs03' Cka Ckb Ckc Bka Bkb Bkc D0 D1 D2 D3
      have hhp := HA.out.2.2.2.1
      have hhg := HA.out.2.2.2.2.1
      have hsn := HA.out.2.2.2.2.2
      have CP := hid (fun (W : World) (s : Strm) (D : DT 35 64 w w1.heap.size w.heap.size wb.heap.size nc.2 s (.slice none 0 0) W) => (hhp ▸ tpHash_c D.rd D.Nr (by omega) : Calls Try.prog 34 #[.pointer (some ⟨w1.heap.size, 0, none⟩)] W fun e w' => e = .returned (.agg (hl32 hp.1)) ∧ Rd 64 w' w1.heap.size (fun k => w.heap.size ≤ k) hp.2 ∧ Mod (fun k => k = w1.heap.size) W w'))
      have CG := hid (fun (W : World) (s : Strm) (D : DT 35 64 w w1.heap.size w.heap.size wb.heap.size hp.2 s (.slice none 0 0) W) => (hhg ▸ tpHash_c D.rd D.Nr (by omega) : Calls Try.prog 34 #[.pointer (some ⟨w1.heap.size, 0, none⟩)] W fun e w' => e = .returned (.agg (hl32 hg.1)) ∧ Rd 64 w' w1.heap.size (fun k => w.heap.size ≤ k) hg.2 ∧ Mod (fun k => k = w1.heap.size) W w'))
      have CS := hid (fun (W : World) (s : Strm) (D : DT 35 64 w w1.heap.size w.heap.size wb.heap.size hg.2 s (.slice none 0 0) W) => (hsn ▸ tpShort_c D.rd D.Nr (by omega) 16 (by decide) : Calls Try.prog 33 #[.pointer (some ⟨w1.heap.size, 0, none⟩), .int .u64 16] W fun e w' => e = .returned (.int .i64 sn.1) ∧ Rd 64 w' w1.heap.size (fun k => w.heap.size ≤ k) sn.2 ∧ Mod (fun k => k = w1.heap.size) W w'))
      clear hhp hhg hsn
      have h32s := hid (fun ys : List W8 => show (Try.prog.info? 22).map (·.size) = some (hl32 ys).size from by rw [hl32_size]; kernel_rfl)
      go_upto_region 11 with (first
        | ((with_reducible refine at_op (.store 22 (.tmp 51) (.tmp 50)) rfl ?_); refine wpList_store_mid rfl 22 (.tmp 51) (.tmp 50) rfl wb.heap.size 4 (hl32 hp.1) (by rfl) (by rfl) (by rw [hl32_size]; exact D6.out.f6.there 4 32 (by decide)) (h32s.out hp.1) (hl32_one hp.1) ?_; have D7 := hid (D6.out.base hp.1); clear D6)
        | (go_at_call 34; ((with_reducible refine (CP.out _ _ D4.out).mono ?_); rintro e w10 ⟨rfl, R7, M7⟩); have D6 := hid (D4.out.call R7 M7); clear R7 M7))
      simp only [Act.put]
      obtain ⟨wD7, hwD7⟩ : ∃ x, x = w10.setCells wb.heap.size 4 (hl32 hp.1).toList := ⟨_, rfl⟩
      rw [← hwD7] at D7 ⊢
      clear hwD7
      go_upto_region 12 with (first
        | ((with_reducible refine at_op (.store 22 (.tmp 54) (.tmp 53)) rfl ?_); refine wpList_store_mid rfl 22 (.tmp 54) (.tmp 53) rfl wb.heap.size 36 (hl32 hg.1) (by rfl) (by rfl) (by rw [hl32_size]; exact D6.out.f6.there 36 32 (by decide)) (h32s.out hg.1) (hl32_one hg.1) ?_; have D8 := hid (D6.out.goal hg.1); clear D6)
        | (go_at_call 34; ((with_reducible refine (CG.out _ _ D7.out).mono ?_); rintro e w10 ⟨rfl, R7, M7⟩); have D6 := hid (D7.out.call R7 M7); clear R7 M7))
      simp only [Act.put]
      obtain ⟨wD8, hwD8⟩ : ∃ x, x = w10.setCells wb.heap.size 36 (hl32 hg.1).toList := ⟨_, rfl⟩
      rw [← hwD8] at D8 ⊢
      clear hwD8
      obtain ⟨s2, hs2d⟩ : ∃ s2, s2 = { s03 with base := hp.1, goal := hg.1 } := ⟨_, rfl⟩
      have D9 := hid (show DT 35 64 w w1.heap.size w.heap.size wb.heap.size hg.2 s2 (.slice none 0 0) wD8 from by rw [hs2d]; exact D8.out)
      have hs2' := hid hs2d
      clear hs2d CP CG D4 D7 D8
      obtain ⟨cs, hcs⟩ : ∃ cs, cs = tCells sn.1 [] sn.2 := ⟨_, rfl⟩
      have hcs' := hid hcs
      clear hcs
      go_upto_block 0 with (go_at_call 33; ((with_reducible refine (CS.out _ _ D9.out).mono ?_); rintro e w12 ⟨rfl, R7, M7⟩); have D10 := hid (D9.out.call R7 M7); clear R7 M7)
      clear CS D9
      go_cut [] from 57 to 75 (fun wr => ∃ cv ts, Hid (cs.1 = tcs ts) ∧ Hid (cs.2.1.length ≤ xs.length) ∧ Hid (ts.length ≤ 16) ∧ Hid (DT 35 64 w w1.heap.size w.heap.size wb.heap.size cs.2 s2 cv wr) ∧ Hid (Cs 50 (RG w) wr w.heap.size cv ts))
      case first =>
        go_upto_region 14 with fail
        go_loopg [8] sn.1 (fun g v46 wr => ∃ (i : Nat) (cv : Value) (ts : List Tr) (t : Tp), v46 = .int .i64 i ∧ g = sn.1 - i ∧ i ≤ sn.1 ∧ Hid (cs = tCells (sn.1 - i) (tcs ts) t) ∧ Hid (ts.length = i) ∧ Hid (t.1.length ≤ xs.length) ∧ Hid (DT 35 64 w w1.heap.size w.heap.size wb.heap.size t s2 cv wr) ∧ Hid (Cs 50 (RG w) wr w.heap.size cv ts))
        case atStart => exact ⟨0, .slice none 0 0, [], sn.2, rfl, rfl, Nat.zero_le _, hid (by rw [hcs'.out]; rfl), hid rfl, hid hls, D10, hid (Cs.nil _ _ _ _)⟩
        case round =>
          obtain ⟨i, cv, ts, t, rfl, hg, hi, HC, HL2, HT, DD, OC⟩ := hrel
          clear hcs' D10
          have c1 := DD.out.rd.cell1
          by_cases hin2 : i < sn.1
          · have hini : (i : Int) < (sn.1 : Int) := by omega
            by_cases he : t.2 = 0
            · rw [he] at c1
              have HC1 := hid (show cs = tCells (sn.1 - (i + 1)) (tcs ts ++ [(tCell t).1]) (tCell t).2 from by
                rw [HC.out, show sn.1 - i = (sn.1 - (i + 1)) + 1 by omega]; exact if_pos he)
              have CE := hid (fun (W : World) (R : Rd 64 W w1.heap.size (fun k => w.heap.size ≤ k) t) => tpCell_c R DD.out.Nr (by have := HT.out; omega))
              obtain ⟨cv68, _⟩ := DD.out.cell (j := 68) (by decide)
              have c68 : wr.cell? ⟨wb.heap.size, 68, none⟩ = some cv := cv68
              clear he cv68 HC
              go_upto_region 16 with fail
              obtain ⟨y, hy⟩ : ∃ y, y = (tCell t).1.1 := ⟨_, rfl⟩
              obtain ⟨B, hBd⟩ : ∃ B, B = (tCell t).1.2 := ⟨_, rfl⟩
              obtain ⟨t', ht'⟩ : ∃ t', t' = (tCell t).2 := ⟨_, rfl⟩
              rw [← ht'] at HC1
              have HC2 := hid (show cs = tCells (sn.1 - (i + 1)) (tcs ts ++ [(y, B)]) t' from by rw [HC1.out, hy, hBd])
              have HT2 := hid (show t'.1.length ≤ xs.length from by rw [ht']; exact Nat.le_trans (tCell_le t) HT.out)
              rw [← ht', ← hy, ← hBd] at CE
              clear hy hBd ht' HC1
              obtain ⟨i0, hi0, hz0, hz1, hz2⟩ := info_parts infoR
              have HI := hid (And.intro hi0 (And.intro hz0 (And.intro hz1 hz2)))
              clear hi0 hz0 hz1 hz2
              have hlen20 := hid (show ts.length ≤ 1000 from by have := HL2.out; omega)
              have hpv := OC.out.1
              refine region_inv (n := 116) (I := Apd [.pointer (some ⟨wb.heap.size, 68, none⟩), cv, .pointer (some ⟨w1.heap.size, 0, none⟩), undef, undef, undef, .pointer (some ⟨wb.heap.size, 68, none⟩), undef] 1 3 4 5 7
                (fun W => DT 35 64 w w1.heap.size w.heap.size wb.heap.size t s2 cv W ∧ Cs 50 (RG w) W w.heap.size cv ts)
                (fun v W => ∃ vB, v = .agg #[.int .i64 y, vB] ∧ vB.oneCell' = true ∧ RG w W vB B ∧ DT 35 64 w w1.heap.size w.heap.size wb.heap.size t' s2 cv W ∧ Cs 50 (RG w) W w.heap.size cv ts)
                (fun v W => ∃ vB g, v = .slice (some ⟨g, 0, none⟩) 1 1 ∧ vB.oneCell' = true ∧ Blk W g #[.int .i64 y, vB] 50 ∧ RG w W vB B ∧ DT 35 64 w w1.heap.size w.heap.size wb.heap.size t' s2 cv W ∧ Cs 50 (RG w) W w.heap.size cv ts)
                (fun v W => ∃ vB, DT 35 64 w w1.heap.size w.heap.size wb.heap.size t' s2 cv W ∧ Cs 50 (RG w) W w.heap.size v (ts ++ [(y, B, vB)]))
                (fun W => ∃ v vB, DT 35 64 w w1.heap.size w.heap.size wb.heap.size t' s2 v W ∧ Cs 50 (RG w) W w.heap.size v (ts ++ [(y, B, vB)]))) (by kernel_rfl) (by kernel_rfl) (by kernel_rfl) (by kernel_rfl) (Apd.start ⟨DD.out.drew, OC.out⟩) ?hop ?hend
              case hop =>
                refine And.intro ?_ ?_
                · intro L V ρ w' hI hk hc hf hd hs
                  have s6 : ρ (.tmp 6) = .pointer (some ⟨wb.heap.size, 0, none⟩) := hs 6 (by kernel_rfl)
                  clear hd hs
                  exact outcome_value (v := .pointer (some ⟨wb.heap.size, 68, none⟩)) (by simp [go_sem, s6]) (hI.val (by decide) (by decide) (by decide) (by decide) rfl)
                refine And.intro ?_ ?_
                · intro L V ρ w' hI hk hc hf hd hs
                  have s69 : ρ (.tmp 69) = .pointer (some ⟨wb.heap.size, 68, none⟩) := ((hd 0 (by kernel_rfl)).2 69 (by kernel_rfl)).trans (hI.at (by decide) (by decide) (by decide) (by decide) (hd 0 (by kernel_rfl)).1)
                  have hcell : w'.cell? ⟨wb.heap.size, 68, none⟩ = some cv := hI.cell (C := fun W => W.cell? ⟨wb.heap.size, 68, none⟩ = some cv) (fun W h => (h.1.cell (j := 68) (by decide)).1) (fun v W h => by obtain ⟨_, _, _, _, h, _⟩ := h; exact (h.cell (j := 68) (by decide)).1) (fun v W h => by obtain ⟨_, _, _, _, _, _, h, _⟩ := h; exact (h.cell (j := 68) (by decide)).1) hk
                  have hp1 : cv = cv := rfl
                  clear hd hs
                  obtain ⟨pc, nc, ncap, hcvf⟩ : ∃ p n c, cv = .slice p n c := by obtain ⟨p, c, h, _⟩ := ownsRow_form hpv; exact ⟨p, _, c, h⟩
                  subst hcvf
                  exact outcome_value (v := .slice pc nc ncap) (by simp [go_sem, s69, hcell]) (hI.val (by decide) (by decide) (by decide) (by decide) rfl)
                refine And.intro ?_ ?_
                · intro L V ρ w' hI hk hc hf hd hs
                  have s4 : ρ (.tmp 4) = .pointer (some ⟨w1.heap.size, 0, none⟩) := hs 4 (by kernel_rfl)
                  clear hd hs
                  rw [BigFrame.run_move (.tmp 4) rfl]
                  exact hI.val (by decide) (by decide) (by decide) (by decide) s4
                refine And.intro ?_ ?_
                · intro L V ρ w' hI hk hc hf hd hs
                  have s71 : ρ (.tmp 71) = .pointer (some ⟨w1.heap.size, 0, none⟩) := ((hd 2 (by kernel_rfl)).2 71 (by kernel_rfl)).trans (hI.at (by decide) (by decide) (by decide) (by decide) (hd 2 (by kernel_rfl)).1)
                  clear hd hs
                  obtain ⟨D1, O1⟩ := hI.before hk
                  refine outcome_enter (w := w') (f := 35) (args := #[.pointer (some ⟨w1.heap.size, 0, none⟩)]) (by simp [go_sem, hf, s71]) ?_
                  refine (CE.out w' D1.rd).mono ?_
                  rintro e w2 ⟨vB, rfl, OB, oB, R2, M2⟩
                  have nr : ∀ (b : Nat) (ve : Value) (n : Nat) (size : Nat) (xs : List Value) (U : TypeId), w'.ownsRow b U size ve n xs → U ≠ 64 → ∀ k, ve.ownBlock = some k → ¬ k = w1.heap.size := fun b ve n size xs U O hU k hk e => by
                    obtain ⟨_, Br, _⟩ := D1.rd
                    subst e
                    exact ownsRow_blk O Br hU hk
                  refine ⟨_, rfl, hI.call hk (by decide) (by decide) (by decide) ⟨vB, rfl, ?_, ⟨OB, fun h0 k hk => Nat.lt_of_not_le (oB h0 k hk)⟩, D1.call R2 M2, O1.mod M2 (nr _ _ _ _ _ _ O1.1 (by decide)) (fun v' ys Oy => Oy.mod M2 (fun k hk => by have := D1.r0; omega))⟩⟩
                  obtain ⟨pB, mB, cB, rfl⟩ := OB.form; rfl
                refine And.intro ?_ ?_
                · intro L V ρ w' hI hk hc hf hd hs
                  have h3 := (hd 3 (by kernel_rfl)).1
                  have s72 : ρ (.tmp 72) = V 3 := (hd 3 (by kernel_rfl)).2 72 (by kernel_rfl)
                  clear hd hs
                  obtain ⟨⟨vB, hv3, h1, OB, D1, O1⟩, hnext⟩ := hI.build h3 hk (by decide) (by decide) (by decide)
                  rw [hv3] at s72
                  refine outcome_value (v := .slice (some ⟨w'.heap.size, 0, none⟩) 1 1) (w := w'.alloc (.cells #[.int .i64 y, vB] 50)) (by simp [go_sem, s72]) (hnext _ _ ⟨vB, w'.heap.size, rfl, h1, Blk.new w' _ _, OB.alloc _, D1.alloc _, ?_⟩)
                  exact O1.mod ((Mod.refl (fun _ => False) w').alloc _) (fun k hk h => h) (fun v' ys Oy => Oy.alloc _)
                refine And.intro ?_ ?_
                · intro L V ρ w' hI hk hc hf hd hs
                  have h4 := (hd 4 (by kernel_rfl)).1
                  have h1 := (hd 1 (by kernel_rfl)).1
                  have s73 : ρ (.tmp 73) = V 4 := (hd 4 (by kernel_rfl)).2 73 (by kernel_rfl)
                  have s70 : ρ (.tmp 70) = cv := ((hd 1 (by kernel_rfl)).2 70 (by kernel_rfl)).trans (hI.at (by decide) (by decide) (by decide) (by decide) h1)
                  clear hd hs
                  obtain ⟨⟨vB, g, hv4, h1B, BB, OB, D1, O1⟩, hnext⟩ := hI.app h4 h1 hk (by decide) (by decide) (by decide) (by decide)
                  rw [hv4] at s73
                  obtain ⟨v', w2, hr, C2, M2, hvv⟩ := run_appC Try.underlying33 HI.out.1 HI.out.2.1 HI.out.2.2.1 HI.out.2.2.2 O1 y B vB h1B BB OB hlen20.out D1.below.size (fun w'' v'' ys Oy Mx => Oy.mod Mx (fun k hk => (ownsRow_lt O1.1 k hk).1)) 33 1
                  refine outcome_value (v := v') (w := w2) ?_ (hnext _ _ ⟨vB, D1.app (base := w.heap.size) O1.1 (Nat.le_refl _) M2 (by decide) (by decide), C2⟩)
                  simp only [execOp, resolve, invoke, builtin, Sem.run_bind, Sem.run_pure, Result.andThen_ok, List.map_toArray, List.map_cons, List.map_nil, s70, s73, hr]
                refine And.intro ?_ ?_
                · intro L V ρ w' hI hk hc hf hd hs
                  have s6 : ρ (.tmp 6) = .pointer (some ⟨wb.heap.size, 0, none⟩) := hs 6 (by kernel_rfl)
                  clear hd hs
                  exact outcome_value (v := .pointer (some ⟨wb.heap.size, 68, none⟩)) (by simp [go_sem, s6]) (hI.val (by decide) (by decide) (by decide) (by decide) rfl)
                refine And.intro ?_ ?_
                · intro L V ρ w' hI hk hc hf hd hs
                  have h5 := (hd 5 (by kernel_rfl)).1
                  have s74 : ρ (.tmp 74) = V 5 := (hd 5 (by kernel_rfl)).2 74 (by kernel_rfl)
                  have s75 : ρ (.tmp 75) = .pointer (some ⟨wb.heap.size, 68, none⟩) := ((hd 6 (by kernel_rfl)).2 75 (by kernel_rfl)).trans (hI.at (by decide) (by decide) (by decide) (by decide) (hd 6 (by kernel_rfl)).1)
                  clear hd hs
                  obtain ⟨⟨vB, D1, O1⟩, hnext⟩ := hI.store h5 hk (by decide) (by decide) (by decide) (by decide)
                  obtain ⟨p5, n5, c5, hv5⟩ : ∃ p n c, V 5 = .slice p n c := by obtain ⟨p, c, h, _⟩ := ownsRow_form O1.1; exact ⟨p, _, c, h⟩
                  obtain ⟨d1, f1⟩ := D1.cell (j := 68) (by decide)
                  have d1' : w'.cell? ⟨wb.heap.size, 68, none⟩ = some cv := d1
                  have nf : ∀ (b : Nat) (ve : Value) (n : Nat) (size : Nat) (xs : List Value) (U : TypeId), w'.ownsRow b U size ve n xs → U ≠ 35 → ∀ k, ve.ownBlock = some k → ¬ k = wb.heap.size := fun b ve n size xs U O hU k hk e => by
                    subst e
                    exact ownsRow_fn O D1.f6 hU hk
                  refine outcome_skip (w := w'.setCell ⟨wb.heap.size, 68, none⟩ (V 5)) ?_ (hnext _ _ ⟨V 5, vB, D1.cells _, O1.mod (Mod.one _ _ _ _) (nf _ _ _ _ _ _ O1.1 (by decide)) (fun v' ys Oy => Oy.mod (Mod.one _ _ _ _) (fun k hk => by have := D1.h6; omega))⟩)
                  rw [hv5] at s74 ⊢
                  simp [go_sem, s74, s75, d1', f1]
                exact trivial
              case hend =>
                intro L V w13 hL hI
                obtain ⟨v13, vB, D13, O13⟩ := hI.end (hL 7 (by decide))
                have DH := hid D13; have OH := hid O13
                simp only [lexF, Act.put, List.setIfInBounds_toArray, List.set_cons_zero, List.set_cons_succ]
                clear hI hL D13 O13
                go_wp2
                go_roundg (sn.1 - (i + 1))
                case measure => omega
                case rel => exact ⟨i + 1, v13, ts ++ [(y, B, vB)], t', by go_num, rfl, by omega, hid (by rw [HC2.out]; unfold tcs; rw [List.map_append]; rfl), hid (by rw [List.length_append, HL2.out]; rfl), HT2, DH, OH⟩
            · have he2 : (t.2 == 0) = false := by simp; exact he
              have HE := hid (show cs = (tcs ts, t) from by rw [HC.out]; exact tCells_err he _ _)
              have HE1 := hid (show cs.1 = tcs ts by rw [HE.out])
              have HE2 := hid (show t = cs.2 by rw [HE.out])
              clear HC he
              go_wp2
              go_meet
              case rel => exact ⟨cv, ts, HE1, hid (HE2.out ▸ HT.out), hid (by have := HL2.out; omega), hid (HE2.out ▸ DD.out), OC⟩
          · have hini : ¬ (i : Int) < (sn.1 : Int) := by omega
            have HE := hid (show cs = (tcs ts, t) from by rw [HC.out, show sn.1 - i = 0 by omega]; rfl)
            have HE1 := hid (show cs.1 = tcs ts by rw [HE.out])
            have HE2 := hid (show t = cs.2 by rw [HE.out])
            clear HC
            go_wp2
            go_meet
            case rel => exact ⟨cv, ts, HE1, hid (HE2.out ▸ HT.out), hid (by have := HL2.out; omega), hid (HE2.out ▸ DD.out), OC⟩
      case rest =>
        obtain ⟨cv, ts, HE1, HLE, HT16, DD, OC⟩ := hcut
        obtain ⟨pr, cr, c0⟩ := DD.out.rd.cell0
        obtain ⟨ln, hln⟩ : ∃ ln, ln = cs.2.1.length := ⟨_, rfl⟩
        rw [← hln] at c0 HLE
        have hln' := hid hln
        have hle := HLE.out
        have hsub : IntKind.i64.wrap ((xs.length : Int) - (ln : Int)) = (xs.length : Int) - (ln : Int) := IntWalk.i64_in _ (by omega)
        obtain ⟨h9, hh9⟩ : ∃ h9, h9 = tHash cs.2 := ⟨_, rfl⟩
        have hh9' := hid hh9
        have h9len := hid (show h9.1.length = 32 by rw [hh9]; exact tHash_len _)
        have CH := hid (hh9 ▸ tpHash_c DD.out.rd DD.out.Nr (by omega) : Calls Try.prog 34 #[.pointer (some ⟨w1.heap.size, 0, none⟩)] wc fun e w' => e = .returned (.agg (hl32 h9.1)) ∧ Rd 64 w' w1.heap.size (fun k => w.heap.size ≤ k) h9.2 ∧ Mod (fun k => k = w1.heap.size) wc w')
        have hz22 : ∀ W : World, (zeroValue 22).run Try.prog W = .ok (.agg (hl32 zero32)) W := zero_h32
        have h32s := hid (fun ys : List W8 => show (Try.prog.info? 22).map (·.size) = some (hl32 ys).size from by rw [hl32_size]; kernel_rfl)
        clear hln hh9
        go_upto_region 18 with fail
        clear c0
        go_upto_region 19 with (first
          | ((with_reducible refine at_op (.store 22 (.tmp 10) (.tmp 85)) rfl ?_); refine wpList_store_mid rfl 22 (.tmp 10) (.tmp 85) rfl w14.heap.size 0 (hl32 h9.1) rfl rfl (by rw [hl32_size]; exact (Fn.new w14 (hl32 zero32) 22 (hl32_size _) (fun j hj => hl32_get _ hj)).there 0 32 (by decide)) (h32s.out h9.1) (hl32_one h9.1) ?_)
          | (go_at_call 34; ((with_reducible refine CH.out.mono ?_); rintro e w14 ⟨rfl, R14, M14⟩); have D14 := hid (DD.out.call R14 M14); have O14 := hid (OC.out.mod M14 (fun k hk e => by obtain ⟨_, Br, _⟩ := DD.out.rd; subst e; exact ownsRow_blk OC.out.1 Br (by decide) hk) (fun v' ys Oy => Oy.mod M14 (fun k hk => by have := DD.out.r0; omega))); clear R14 M14))
        simp only [Act.put]
        obtain ⟨w15, hw15⟩ : ∃ w15, w15 = (w14.alloc (.cells (hl32 zero32) 22)).setCells w14.heap.size 0 (hl32 h9.1).toList := ⟨_, rfl⟩
        have hd6 := D14.out.f6.lt
        have hd2 := D14.out.f2.lt
        have hdr := D14.out.rd.lt
        have D15 := hid (show DT 35 64 w w1.heap.size w.heap.size wb.heap.size h9.2 s2 cv w15 from by
          rw [hw15]; exact (D14.out.alloc _).far (Mod.cells _ _ _ _) (by omega) (by omega) (by omega) (by have := D14.out.below.size; omega))
        have F8 := hid (show Fn w15 w14.heap.size 22 32 (fun j => .int .u8 (ub (h9.1.getD j 0))) from by
          rw [hw15]; exact (Fn.new w14 (hl32 zero32) 22 (hl32_size _) (fun j hj => hl32_get _ hj)).storeAll (fun j => .int .u8 (ub (h9.1.getD j 0))))
        have O15 := hid (show Cs 50 (RG w) w15 w.heap.size cv ts from by
          rw [hw15]
          exact (O14.out.mod ((Mod.refl (fun _ => False) w14).alloc _) (fun k hk h => h) (fun v' ys Oy => Oy.alloc _)).mod (Mod.cells _ _ _ _) (fun k hk e => by have := (ownsRow_lt O14.out.1 k hk).2; omega) (fun v' ys Oy => Oy.mod (Mod.cells _ _ _ _) (fun k hk => by have := D14.out.below.size; omega)))
        have hb8 := hid (show wb.heap.size < w14.heap.size ∧ w.heap.size < w14.heap.size ∧ w1.heap.size < w14.heap.size from ⟨hd6, hd2, hdr⟩)
        obtain ⟨b8, hb8e⟩ : ∃ b8, b8 = w14.heap.size := ⟨_, rfl⟩
        rw [← hw15, ← hb8e]
        rw [← hb8e] at F8 hb8
        clear hw15 hb8e hd6 hd2 hdr D14 O14 CH DD OC hsub
        obtain ⟨t9, ht9⟩ : ∃ t9, t9 = tFail (decide (0 < h9.2.1.length)) h9.2 := ⟨_, rfl⟩
        have ht9' := hid ht9
        obtain ⟨p9, c9, k9⟩ := D15.out.rd.cell0
        obtain ⟨l9, hl9⟩ : ∃ l9, l9 = h9.2.1.length := ⟨_, rfl⟩
        have CF := hid (ht9 ▸ tpFail_c D15.out.rd D15.out.Nr (decide (0 < h9.2.1.length)))
        rw [← hl9] at k9 CF
        clear ht9 hl9
        go_cut [] from 86 to 93 (fun wr => Hid (DT 35 64 w w1.heap.size w.heap.size wb.heap.size t9 s2 cv wr) ∧ Hid (Fn wr b8 22 32 (fun j => .int .u8 (ub (h9.1.getD j 0)))) ∧ Hid (Cs 50 (RG w) wr w.heap.size cv ts))
        case first =>
          by_cases h0 : l9 = 0
          · subst h0
            have CG := hid (show Calls Try.prog 31 #[.pointer (some ⟨w1.heap.size, 0, none⟩), .bool false] w15 _ from CF.out)
            clear CF
            go_wp2_with (go_at_call 31; ((with_reducible refine CG.out.mono ?_); rintro e w16 ⟨rfl, R16, M16⟩); have D16 := hid (D15.out.call R16 M16); have F16 := hid (F8.out.mod M16 (fun e => by have := hb8.out; omega)); have O16 := hid (O15.out.mod M16 (fun k hk e => by obtain ⟨_, Br, _⟩ := D15.out.rd; subst e; exact ownsRow_blk O15.out.1 Br (by decide) hk) (fun v' ys Oy => Oy.mod M16 (fun k hk => by have := D15.out.r0; omega))); clear R16 M16)
            go_meet
            case rel => exact ⟨D16, F16, O16⟩
          · have h0i : (0 : Int) < (l9 : Int) := by omega
            have h0n : 0 < l9 := by omega
            have CG := hid (by have := CF.out; rw [decide_eq_true h0n] at this; exact this : Calls Try.prog 31 #[.pointer (some ⟨w1.heap.size, 0, none⟩), .bool true] w15 _)
            clear CF h0
            go_wp2_with (go_at_call 31; ((with_reducible refine CG.out.mono ?_); rintro e w16 ⟨rfl, R16, M16⟩); have D16 := hid (D15.out.call R16 M16); have F16 := hid (F8.out.mod M16 (fun e => by have := hb8.out; omega)); have O16 := hid (O15.out.mod M16 (fun k hk e => by obtain ⟨_, Br, _⟩ := D15.out.rd; subst e; exact ownsRow_blk O15.out.1 Br (by decide) hk) (fun v' ys Oy => Oy.mod M16 (fun k hk => by have := D15.out.r0; omega))); clear R16 M16)
            go_meet
            case rel => exact ⟨D16, F16, O16⟩
        case rest =>
          obtain ⟨D16, F16, O16⟩ := hcut
          clear CF D15 F8 O15 k9
          have e1 := D16.out.rd.cell1
          have hA := HA.out
          have hdec := hid (decS_eq h5 hm'.out (by rw [← hx'.out]; exact ht0'.out) hA.1 hA.2.1 hA.2.2.1 hA.2.2.2.1 hA.2.2.2.2.1 hA.2.2.2.2.2 hcs'.out hh9'.out ht9'.out)
          clear hA
          by_cases h9e : t9.2 = 0
          · rw [h9e] at e1
            have hdec2 := hid (hdec.out.trans (if_pos h9e))
            obtain ⟨lg, hlg⟩ : ∃ lg : Nat, lg = xs.length - ln := ⟨_, rfl⟩
            have elg : (xs.length : Int) - (ln : Int) = (lg : Int) := by omega
            rw [elg]
            rw [← hln'.out, ← hlg] at hdec2
            have hlgx : lg ≤ xs.length := by omega
            have hlcap : (lg : Int) ≤ (cap : Int) := by
              by_cases h0 : 0 < xs.length
              · have := HB.out
                obtain ⟨p', c', e', hq'⟩ := this
                cases e'
                obtain ⟨_, _, _, _, h, _⟩ := hq' h0
                omega
              · omega
            have KS := hid (fun m : Wd wc => refSum_l ((HB.out.take' lg hlgx).below (D16.out.below.trans (m.h.mono D16.out.below.size))) (by rw [List.length_take]; omega))
            have HRG := hid (fun W (h : ∃ m : Wd wc, W = m.w) => by obtain ⟨m, rfl⟩ := h; exact (F16.out.below m.h F16.out.lt).range' (hl32 h9.1) (hl32_size _) (fun j hj => hl32_get _ hj) : ∀ W, (∃ m : Wd wc, W = m.w) → W.rangeAt b8 0 (hl32 h9.1).toList)
            have h32l := hid (show (Try.prog.info? 22).map (·.size) = some (hl32 h9.1).toList.length from by rw [Array.length_toList, hl32_size]; kernel_rfl)
            have hu22 := Try.underlying22
            have heq := eq32 (x := shaL (xs.take lg)) (y := h9.1) (shaL_length _) h9len.out
            clear elg hlg h9e
            by_cases hsum : shaL (xs.take lg) = h9.1
            · have hdec3 := hid (hdec2.out.trans (if_pos hsum))
              rw [decide_eq_true hsum] at heq
              clear hsum
              go_upto_region 22 with fail
              refine region_wd (by kernel_rfl) (by kernel_rfl) ?_
              repeat (first
                | go_big_quiet_skip
                | (go_big_quiet_want
                   first
                   | (refine quiet_load_mid 22 (.tmp 10) rfl b8 0 rfl (hl32 h9.1).toList _ HRG.out hu22 rfl h32l.out ?_
                      simp only [Act.put, List.setIfInBounds_toArray, List.set_cons_zero, List.set_cons_succ, Array.toArray_toList]
                      go_big_quiet_on)
                   | (go_big_quiet_op
                      first
                      | go_big_quiet_on
                      | go_big_quiet_call ((go_at_call 20; exact Wd.call _ (KS.out _))))))
              refine wpQuiet_nil ?_
              rintro _ ⟨nq, rfl⟩
              obtain ⟨w18, hw18⟩ : ∃ w18, w18 = nq.w := ⟨_, rfl⟩
              have DQ := hid (hw18 ▸ D16.out.quiet nq.h : DT 35 64 w w1.heap.size w.heap.size wb.heap.size t9 s2 cv w18)
              have OQ := hid (hw18 ▸ O16.out.mod (Mod.of_below nq.h (fun _ => False)) (fun k hk h => h) (fun v' ys Oy => Oy.below nq.h) : Cs 50 (RG w) w18 w.heap.size cv ts)
              rw [← hw18]
              clear hw18
              obtain ⟨s3, hs3⟩ : ∃ s3 : Strm, s3 = { s2 with cells := tcs ts } := ⟨_, rfl⟩
              have hs3' := hid hs3
              have hv3 := hid (show strmV s2 cv = strmV s3 cv from by rw [hs3]; rfl)
              have hs3d := hid (show s3 = ⟨decide (m.1 = 73), na.1, nb.1, nc.1, hp.1, hg.1, cs.1⟩ from by rw [hs3, hs2'.out, hs1'.out, hin.out, hq'.out, hx'.out, HE1.out])
              have hb3 := hid (show s3.base.length = 32 from by rw [hs3d.out]; show hp.1.length = 32; rw [HA.out.2.2.2.1]; exact tHash_len _)
              have hnl := hid (show s3.set.length ≤ 1000000 ∧ s3.frm.length ≤ 1000000 ∧ s3.til.length ≤ 1000000 from by
                    rw [hs3d.out]
                    have hA := HA.out
                    refine ⟨?_, ?_, ?_⟩
                    · show na.1.length ≤ _; rw [hA.1]; exact tName_len _
                    · show nb.1.length ≤ _; rw [hA.2.1]; exact tName_len _
                    · show nc.1.length ≤ _; rw [hA.2.2.1]; exact tName_len _)
              have hcells := hid (show CellsAt w18 cv s3.cells from by rw [hs3]; exact OQ.out.read (fun v xs O => O.1) (by have := HT16.out; omega))
              have hcv1 := hid (show cv.oneCell' = true from by obtain ⟨p', c', e', _⟩ := ownsRow_form OQ.out.1; rw [e']; rfl)
              rw [← hs3d.out] at hdec3
              clear hs3
              have RG6 := hid (show w18.rangeAt wb.heap.size 0 (strmV s2 cv).toList from DQ.out.f6.range' (strmV s2 cv) (strmV_size _ _) (fun j hj => strmV_get _ _ hj))
              have hi69 := hid (show (Try.prog.info? 35).map (·.size) = some (strmV s2 cv).toList.length from by rw [Array.length_toList, strmV_size]; kernel_rfl)
              by_cases hmay : mayS s3
              · have HD := hid (hdec3.out.trans (if_pos hmay))
                have CM := hid (by have := rmay_c hv3.out hb3.out hcells.out hnl.out.1 hnl.out.2.1 hnl.out.2.2; rwa [decide_eq_true hmay] at this : Calls Try.prog 13 #[.agg (strmV s2 cv)] w18 fun e w' => e = .returned (.bool true) ∧ Below w18.heap.size w18 w')
                clear hmay
                go_upto_region 26 with (first
                  | ((with_reducible refine at_op (.load 35 (.tmp 6)) rfl ?_); refine wpList_load_mid rfl 35 (.tmp 6) rfl wb.heap.size 0 rfl (strmV s2 cv).toList _ RG6.out Try.underlying35 rfl hi69.out ?_)
                  | (go_at_call 13; refine CM.out.mono ?_; rintro e w19 ⟨rfl, hb19⟩; have HB19 := hid hb19; clear hb19))
                have DR := hid (DQ.out.quiet HB19.out)
                have OR := hid (OQ.out.mod (Mod.of_below HB19.out (fun _ => False)) (fun k hk h => h) (fun v' ys Oy => Oy.below HB19.out))
                have RG7 := hid (show w19.rangeAt wb.heap.size 0 (strmV s2 cv).toList from DR.out.f6.range' (strmV s2 cv) (strmV_size _ _) (fun j hj => strmV_get _ _ hj))
                go_wp2_with (first
                  | ((with_reducible refine at_op (.load 35 (.tmp 6)) rfl ?_); refine wpList_load_mid rfl 35 (.tmp 6) rfl wb.heap.size 0 rfl (strmV s2 cv).toList _ RG7.out Try.underlying35 rfl hi69.out ?_)
                  | ((with_reducible refine at_op (.store 35 (.tmp 2) (.tmp 115)) rfl ?_); refine wpList_store_mid rfl 35 (.tmp 2) (.tmp 115) rfl w.heap.size 0 (strmV s2 cv) rfl rfl (there_set DR.out.f2 (strmV_size _ _)) (by rw [strmV_size]; kernel_rfl) (strmV_one _ _ hcv1.out) ?_))
                obtain ⟨FL, BL, ML⟩ := DR.out.lay s2 cv
                refine bodyPost_ret (v := .tuple #[.agg (strmV s2 cv), .int .i64 0]) (results_strm (p := 2) (u := 3) (ty := 35) rfl _ _ w.heap.size _ _ rfl rfl (load_strm FL Try.underlying35 rfl (by kernel_rfl))) rfl ⟨cv, ts, by rw [HD.out, hv3.out], by rw [HD.out, hs3'.out], ?_, BL⟩
                exact OR.out.mod ML (fun k hk e => by subst e; exact ownsRow_fn OR.out.1 DR.out.f2 (by decide) hk) (fun v' ys Oy => Oy.mod ML (fun k hk => by omega))
              · have HD := hid (hdec3.out.trans (if_neg hmay))
                have CM := hid (by have := rmay_c hv3.out hb3.out hcells.out hnl.out.1 hnl.out.2.1 hnl.out.2.2; rwa [decide_eq_false hmay] at this : Calls Try.prog 13 #[.agg (strmV s2 cv)] w18 fun e w' => e = .returned (.bool false) ∧ Below w18.heap.size w18 w')
                clear hmay
                go_upto_region 25 with (first
                  | ((with_reducible refine at_op (.load 35 (.tmp 6)) rfl ?_); refine wpList_load_mid rfl 35 (.tmp 6) rfl wb.heap.size 0 rfl (strmV s2 cv).toList _ RG6.out Try.underlying35 rfl hi69.out ?_)
                  | (go_at_call 13; refine CM.out.mono ?_; rintro e w19 ⟨rfl, hb19⟩; have HB19 := hid hb19; clear hb19))
                have DR := hid (DQ.out.quiet HB19.out)
                go_wp2_with ((with_reducible refine at_op (.store 35 (.tmp 2) (.tmp 114)) rfl ?_); refine wpList_store_mid rfl 35 (.tmp 2) (.tmp 114) rfl w.heap.size 0 zs rfl rfl (there_set DR.out.f2 hsz.out) (by rw [hsz.out]; kernel_rfl) hso.out ?_)
                rw [HZ.out]
                obtain ⟨FL, BL, ML⟩ := DR.out.lay Strm.zero (.slice none 0 0)
                refine bodyPost_ret (v := .tuple #[.agg (strmV Strm.zero (.slice none 0 0)), .int .i64 3]) (results_strm (p := 2) (u := 3) (ty := 35) rfl _ _ w.heap.size _ _ rfl rfl (load_strm FL Try.underlying35 rfl (by kernel_rfl))) rfl ⟨.slice none 0 0, [], by rw [HD.out], by rw [HD.out]; rfl, Cs.nil _ _ _ _, BL⟩
            · have HD := hid (hdec2.out.trans (if_neg hsum))
              rw [decide_eq_false hsum] at heq
              clear hsum
              go_upto_region 22 with fail
              refine region_wd (by kernel_rfl) (by kernel_rfl) ?_
              repeat (first
                | go_big_quiet_skip
                | (go_big_quiet_want
                   first
                   | (refine quiet_load_mid 22 (.tmp 10) rfl b8 0 rfl (hl32 h9.1).toList _ HRG.out hu22 rfl h32l.out ?_
                      simp only [Act.put, List.setIfInBounds_toArray, List.set_cons_zero, List.set_cons_succ, Array.toArray_toList]
                      go_big_quiet_on)
                   | (go_big_quiet_op
                      first
                      | go_big_quiet_on
                      | go_big_quiet_call ((go_at_call 20; exact Wd.call _ (KS.out _))))))
              refine wpQuiet_nil ?_
              rintro _ ⟨nq, rfl⟩
              have DQ := hid (D16.out.quiet nq.h)
              go_wp2_with ((with_reducible refine at_op (.store 35 (.tmp 2) (.tmp 110)) rfl ?_); refine wpList_store_mid rfl 35 (.tmp 2) (.tmp 110) rfl w.heap.size 0 zs rfl rfl (there_set DQ.out.f2 hsz.out) (by rw [hsz.out]; kernel_rfl) hso.out ?_)
              rw [HZ.out]
              obtain ⟨FL, BL, ML⟩ := DQ.out.lay Strm.zero (.slice none 0 0)
              refine bodyPost_ret (v := .tuple #[.agg (strmV Strm.zero (.slice none 0 0)), .int .i64 14]) (results_strm (p := 2) (u := 3) (ty := 35) rfl _ _ w.heap.size _ _ rfl rfl (load_strm FL Try.underlying35 rfl (by kernel_rfl))) rfl ⟨.slice none 0 0, [], by rw [HD.out], by rw [HD.out]; rfl, Cs.nil _ _ _ _, BL⟩
          · have e92 : (t9.2 == 0) = false := by simp; exact h9e
            have HD := hid (hdec.out.trans (if_neg h9e))
            clear h9e
            go_upto_region 21 with fail
            refine region_rel (n := 116) (B := fun W => Mod (fun k => k = w.heap.size) wc W ∧ Fn W w.heap.size 35 69 (sf Strm.zero (.slice none 0 0))) (E := fun _ _ => True) (φ := fun k v _ => v = ([.agg zs, .pointer (some ⟨w1.heap.size, 0, none⟩), .pointer (some ⟨w1.heap.size, 0, none⟩), .pointer (some ⟨w1.heap.size, 1, none⟩), .int .i64 t9.2, undef, .int .i64 t9.2] : List Value).getD k undef) (by kernel_rfl) (by kernel_rfl) (by kernel_rfl) (by kernel_rfl) (fun _ _ _ _ h _ => h) (fun _ => trivial) ⟨(Mod.refl _ wc).drew, D16.out.f2⟩ ?hop ?hend
            case hop =>
              refine And.intro ?_ ?_
              · intro V ρ W hB hc hf hd hs
                clear hd hs
                exact outcome_value (v := .agg zs) (by simp [go_sem, hz]) ⟨rfl, hB, trivial⟩
              refine And.intro ?_ ?_
              · intro V ρ W hB hc hf hd hs
                have s4 : ρ (.tmp 4) = .pointer (some ⟨w1.heap.size, 0, none⟩) := hs 4 (by kernel_rfl)
                clear hd hs
                rw [BigFrame.run_move (.tmp 4) rfl]
                exact ⟨s4, hB, trivial⟩
              refine And.intro ?_ ?_
              · intro V ρ W hB hc hf hd hs
                have s100 : ρ (.tmp 100) = .pointer (some ⟨w1.heap.size, 0, none⟩) := (hd 1 (by kernel_rfl) 100 (by kernel_rfl)).2.trans (hd 1 (by kernel_rfl) 100 (by kernel_rfl)).1
                clear hd hs
                exact outcome_value (v := .pointer (some ⟨w1.heap.size, 0, none⟩)) (by simp [go_sem, s100]) ⟨rfl, hB, trivial⟩
              refine And.intro ?_ ?_
              · intro V ρ W hB hc hf hd hs
                have s101 : ρ (.tmp 101) = .pointer (some ⟨w1.heap.size, 0, none⟩) := (hd 2 (by kernel_rfl) 101 (by kernel_rfl)).2.trans (hd 2 (by kernel_rfl) 101 (by kernel_rfl)).1
                clear hd hs
                exact outcome_value (v := .pointer (some ⟨w1.heap.size, 1, none⟩)) (by simp [go_sem, s101]) ⟨rfl, hB, trivial⟩
              refine And.intro ?_ ?_
              · intro V ρ W hB hc hf hd hs
                have s102 : ρ (.tmp 102) = .pointer (some ⟨w1.heap.size, 1, none⟩) := (hd 3 (by kernel_rfl) 102 (by kernel_rfl)).2.trans (hd 3 (by kernel_rfl) 102 (by kernel_rfl)).1
                clear hd hs
                have k1 : W.cell? ⟨w1.heap.size, 1, none⟩ = some (.int .i64 t9.2) := by
                    obtain ⟨_, Br, _⟩ := D16.out.rd
                    exact (hB.1.blk Br (fun e => D16.out.r2 e)).cellv rfl
                exact outcome_value (v := .int .i64 t9.2) (by simp [go_sem, s102, k1]) ⟨rfl, hB, trivial⟩
              refine And.intro ?_ ?_
              · intro V ρ W hB hc hf hd hs
                have s99 : ρ (.tmp 99) = .agg zs := (hd 0 (by kernel_rfl) 99 (by kernel_rfl)).2.trans (hd 0 (by kernel_rfl) 99 (by kernel_rfl)).1
                have s2' : ρ (.tmp 2) = .pointer (some ⟨w.heap.size, 0, none⟩) := hs 2 (by kernel_rfl)
                clear hd hs
                refine outcome_skip (run_store_strm rfl s2' s99 (there_set hB.2 hsz.out) (by rw [hsz.out]; kernel_rfl) hso.out) ⟨rfl, ?_, trivial⟩
                rw [HZ.out]
                exact ⟨hB.1.trans (Mod.cells _ _ _ _), hB.2.storeAll _⟩
              refine And.intro ?_ ?_
              · intro V ρ W hB hc hf hd hs
                have s103 : ρ (.tmp 103) = .int .i64 t9.2 := (hd 4 (by kernel_rfl) 103 (by kernel_rfl)).2.trans (hd 4 (by kernel_rfl) 103 (by kernel_rfl)).1
                clear hd hs
                rw [BigFrame.run_assign (.tmp 103) rfl]
                exact ⟨s103, hB, trivial⟩
              exact trivial
            case hend =>
              intro V w17 hB17 hV
              have v6 : V 6 = .int .i64 t9.2 := hV 6 (by decide)
              have HB17 := hid hB17
              simp only [lexF, Act.put, List.setIfInBounds_toArray, List.set_cons_zero, List.set_cons_succ, v6]
              clear hV v6 hB17
              go_wp2
              refine bodyPost_ret (v := .tuple #[.agg (strmV Strm.zero (.slice none 0 0)), .int .i64 t9.2]) (results_strm (p := 2) (u := 3) (ty := 35) rfl _ _ w.heap.size _ _ rfl rfl (load_strm HB17.out.2 Try.underlying35 rfl (by kernel_rfl))) rfl ⟨.slice none 0 0, [], by rw [HD.out], by rw [HD.out]; rfl, Cs.nil _ _ _ _, (D16.out.below.trans (HB17.out.1.below D16.out.below.size (fun k hk e => by omega)))⟩
end Go.Proofs.Ytpbkdjnogjmfcaa
