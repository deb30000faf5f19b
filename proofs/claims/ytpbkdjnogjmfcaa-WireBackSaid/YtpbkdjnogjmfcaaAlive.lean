/- The live question of the wire. -/
import Derived.Test.YtpbkdjnogjmfcaaStrmLaw
import Derived.Test.YtpbkdjnogjmfcaaApd
import Derived.IntWalk
namespace Go.Proofs.Ytpbkdjnogjmfcaa
open Go.RowKit Go.ChangeMaps

def sA : Strm := ⟨false, [97], [], [115], zero32, zero32, []⟩
theorem may_sA : mayS sA := by
  refine ⟨fun i hi => absurd hi (Nat.not_lt_zero i), ?_, ?_, ?_⟩
  · show isName (str [97]); decide +kernel
  · show isName (str [115]); decide +kernel
  · exact ⟨rfl, rfl⟩
theorem encS_sA : (encS sA).length = 103 := by
  unfold encS
  rw [List.length_append, shaL_length]; rfl
theorem encS_sA0 : (encS sA).getD 0 0 = 70 := rfl
theorem sA_value : ((strmV Strm.zero (.slice none 0 0)).setIfInBounds 1 (.string ⟨#[97]⟩)).setIfInBounds 3 (.string ⟨#[115]⟩) = strmV sA (.slice none 0 0) := by
  refine arr_ext (by simp [strmV_size]) (fun i hi => ?_)
  by_cases e3 : i = 3
  · subst e3; rw [Array.getElem?_setIfInBounds_self_of_lt (by simp [strmV_size])]; rfl
  · rw [Array.getElem?_setIfInBounds_ne (Ne.symm e3)]
    by_cases e1 : i = 1
    · subst e1; rw [Array.getElem?_setIfInBounds_self_of_lt (by simp [strmV_size])]; rfl
    · rw [Array.getElem?_setIfInBounds_ne (Ne.symm e1), strmV_get _ _ hi]
      unfold sf
      simp only [if_neg e1, if_neg e3]; rfl
theorem cells_nil (w : World) : CellsAt w (.slice none 0 0) [] := ⟨none, 0, rfl, Nat.zero_le _, fun h => absurd h (Nat.lt_irrefl 0)⟩
theorem dec_nil : decS [] = (2, Strm.zero) := dec_cut may_sA rfl rfl 0 (by rw [encS_sA]; decide)
theorem bytes_first {w : World} {p : Option Addr} {n c : Nat} {xs : List W8} {x : W8} (h : Bytes w (.slice p n c) xs) (hx : xs.getD 0 0 = x) (h0 : 0 < xs.length) : ∃ b off, p = some ⟨b, off, none⟩ ∧ w.cell? ⟨b, off, none⟩ = some (.int .u8 (ub x)) ∧ xs.length ≤ c := by
  obtain ⟨p', cap, e, hc⟩ := h
  cases e
  obtain ⟨b, off, rfl, h1, h2, h3, h4⟩ := hc h0
  refine ⟨b, off, rfl, ?_, h2⟩
  have := h4 0 h0
  rw [hx] at this
  exact this
set_option maxRecDepth 100000 in
set_option maxHeartbeats 2000000 in
theorem alive_c (w : World) : Calls Try.prog 8 #[] w fun e w' => e = .returned (.bool true) ∧ Below w.heap.size w w' := by
  obtain ⟨zs, hzs⟩ : ∃ zs, zs = strmV Strm.zero (.slice none 0 0) := ⟨_, rfl⟩
  have hz : ∀ W : World, (zeroValue 25).run Try.prog W = .ok (.agg zs) W := by rw [hzs]; exact strm_zero
  have hsz := hid (show zs.size = 69 by rw [hzs]; exact strmV_size _ _)
  have hne : ¬ zs = #[] := fun e => by have := hsz.out; rw [e] at this; cases this
  have h3z : 3 < zs.size := by have := hsz.out; omega
  have h1z : 1 < zs.size := by have := hsz.out; omega
  have CE := hid (fun W => (by
    have := encode_c (w := W) (s := sA) (cv := .slice none 0 0) (zs := (zs.setIfInBounds 1 (.string ⟨#[97]⟩)).setIfInBounds 3 (.string ⟨#[115]⟩)) (by rw [hzs]; exact sA_value) rfl rfl (cells_nil W)
    unfold EncAns at this
    simp only [may_sA, if_true] at this
    exact this : Calls Try.prog 9 #[.agg ((zs.setIfInBounds 1 (.string ⟨#[97]⟩)).setIfInBounds 3 (.string ⟨#[115]⟩))] W fun e w' => (∃ v, e = .returned (.tuple #[v, .int .i64 0]) ∧ Ow w' W.heap.size v (encS sA)) ∧ Below W.heap.size W w'))
  have CD := hid (fun (W : World) (v : Value) (hB : Bytes W v (encS sA)) => (by
    have := decode_c hB (by rw [encS_sA]; decide)
    rw [dec_enc may_sA rfl rfl] at this
    exact this : Calls Try.prog 14 #[v] W fun e w' => ∃ cv ts, e = .returned (.tuple #[.agg (strmV sA cv), .int .i64 0]) ∧ sA.cells = tcs ts ∧ Cs 44 (fun u v xs => Ow u W.heap.size v xs) w' W.heap.size cv ts ∧ Below W.heap.size W w'))
  have CN := hid (fun (W : World) => (by
    have := decode_c (w := W) (v := .slice none 0 0) (xs := []) (Ow.nil W 0).bytes (Nat.zero_le _)
    rw [dec_nil] at this
    exact this : Calls Try.prog 14 #[.slice none 0 0] W fun e w' => ∃ cv ts, e = .returned (.tuple #[.agg (strmV Strm.zero cv), .int .i64 2]) ∧ Strm.zero.cells = tcs ts ∧ Cs 44 (fun u v xs => Ow u W.heap.size v xs) w' W.heap.size cv ts ∧ Below W.heap.size W w'))
  have HZ := hid hzs
  clear hzs
  go_enter Try.func8, Try.ntmps8
  go_upto_region 2 with (go_at_call 9; ((with_reducible refine (CE.out _).mono ?_); rintro e w1 ⟨⟨v1, rfl, O1⟩, hb1⟩); have P1 := hid O1; have B1 := hid hb1; clear O1 hb1)
  have FN := hid (fun W : World => (show Fn (W.alloc (.cells zs 25)) W.heap.size 25 69 (sf Strm.zero (.slice none 0 0)) by rw [HZ.out]; exact Fn.arr W _ 69 _))
  have SZ := hid (fun (s : Strm) (cv : Value) => strmV_size s cv)
  have ONE := hid (fun (s : Strm) (p : Option Addr) (n c : Nat) => strmV_one s (.slice p n c) rfl)
  have CD1 := hid (CD.out w1 v1 P1.out.bytes)
  obtain ⟨p1, c1, rfl⟩ := P1.out.slice
  have BY1 := hid P1.out.bytes
  rw [encS_sA] at *
  go_upto_region 3 with (first
    | (go_at_call 14; ((with_reducible refine CD1.out.mono ?_); rintro e w2 ⟨cv2, ts2, rfl, _, O2, hb2⟩); have B2 := hid hb2; obtain ⟨p2, m2, rfl, _⟩ := ownsRow_form O2.1; clear O2 hb2; (obtain ⟨z2, hz2⟩ : ∃ z2, z2 = strmV sA (.slice p2 ts2.length m2) := ⟨_, rfl⟩); rw [← hz2]; have HZ2 := hid hz2; have S2 := hid (hz2 ▸ SZ.out _ _ : z2.size = 69); have O2' := hid (hz2 ▸ ONE.out _ _ _ _ : z2.all (·.oneCell') = true); clear hz2)
    | ((with_reducible refine at_op (.store 25 (.tmp 3) (.tmp 15)) rfl ?_); refine wpList_store_mid rfl 25 (.tmp 3) (.tmp 15) rfl w2.heap.size 0 z2 rfl rfl (there_set (FN.out w2) S2.out) (by rw [S2.out]; kernel_rfl) O2'.out ?_))
  have LAY := hid (fun (W : World) (z : Array Value) => (((Below.refl _ W).alloc (Nat.le_refl _) _).trans ((Mod.cells _ W.heap.size 0 _).below (by simp) (fun k hk e => by omega)) : Below W.heap.size W ((W.alloc (.cells zs 25)).setCells W.heap.size 0 z.toList)))
  have F3 := hid (show Fn ((w2.alloc (.cells zs 25)).setCells w2.heap.size 0 z2.toList) w2.heap.size 25 69 (sf sA (.slice p2 ts2.length m2)) by rw [HZ2.out]; exact (FN.out w2).storeAll _)
  have B3 := hid (B2.out.trans ((LAY.out w2 z2).mono B2.out.size))
  obtain ⟨w3, hw3⟩ : ∃ w3, w3 = (w2.alloc (.cells zs 25)).setCells w2.heap.size 0 z2.toList := ⟨_, rfl⟩
  rw [← hw3] at F3 B3
  rw [← hw3]
  clear hw3
  have CN1 := hid (CN.out w3)
  obtain ⟨b3, hb3⟩ : ∃ b3, b3 = w2.heap.size := ⟨_, rfl⟩
  rw [← hb3] at F3
  rw [← hb3]
  clear hb3
  go_upto_region 4 with (first
    | (go_at_call 14; ((with_reducible refine CN1.out.mono ?_); rintro e w4 ⟨cv4, ts4, rfl, _, O4, hb4⟩); have B4 := hid hb4; obtain ⟨p4, m4, rfl, _⟩ := ownsRow_form O4.1; clear O4 hb4; (obtain ⟨z4, hz4⟩ : ∃ z4, z4 = strmV Strm.zero (.slice p4 ts4.length m4) := ⟨_, rfl⟩); rw [← hz4]; have S4 := hid (hz4 ▸ SZ.out _ _ : z4.size = 69); have O4' := hid (hz4 ▸ ONE.out _ _ _ _ : z4.all (·.oneCell') = true); clear hz4)
    | ((with_reducible refine at_op (.store 25 (.tmp 5) (.tmp 19)) rfl ?_); refine wpList_store_mid rfl 25 (.tmp 5) (.tmp 19) rfl w4.heap.size 0 z4 rfl rfl (there_set (FN.out w4) S4.out) (by rw [S4.out]; kernel_rfl) O4'.out ?_))
  have B5 := hid (B4.out.trans ((LAY.out w4 z4).mono B4.out.size))
  obtain ⟨w5, hw5⟩ : ∃ w5, w5 = (w4.alloc (.cells zs 25)).setCells w4.heap.size 0 z4.toList := ⟨_, rfl⟩
  rw [← hw5] at B5
  rw [← hw5]
  clear hw5
  have c51 : w5.cell? ⟨b3, 1, none⟩ = some (.string ⟨#[97]⟩) := (F3.out.below B5.out F3.out.lt).cell (j := 1) (by decide)
  obtain ⟨b1, off1, e1, c10, hcap⟩ := bytes_first ((BY1.out.below B3.out).below B5.out) encS_sA0 (by rw [encS_sA]; decide)
  rw [show ub 70 = 70 from rfl] at c10
  rw [encS_sA] at hcap
  cases e1
  have BL := hid ((B1.out.trans (B3.out.mono B1.out.size)).trans (B5.out.mono (Nat.le_trans B1.out.size B3.out.size)))
  have hc103 : (103 : Int) ≤ (c1 : Int) := by omega
  go_wp2
  go_ret
  exact ⟨rfl, BL.out⟩
end Go.Proofs.Ytpbkdjnogjmfcaa

/- A stream as the document's. -/
namespace Go.Proofs.Ytpbkdjnogjmfcaa
open Go.RowKit Go.ChangeMaps

theorem Apd.base {vals : List Value} {ld cl bu ap st : Nat} {P0 : World → Prop} {P1 P2 P3 : Value → World → Prop} {E : World → Prop} {L : Nat → Bool} {V : Nat → Value} {w : World} (h : Apd vals ld cl bu ap st P0 P1 P2 P3 E L V w) {C : World → Prop} (c0 : ∀ w, P0 w → C w) (c1 : ∀ v w, P1 v w → C w) (c2 : ∀ v w, P2 v w → C w) (c3 : ∀ v w, P3 v w → C w) (c4 : ∀ w, E w → C w) : C w := by
  obtain ⟨_, a2, a3, a4, a5, a6, _, _, _⟩ := h
  cases e1 : L cl with
  | false => exact c0 _ (a2 e1)
  | true =>
    cases e2 : L bu with
    | false => exact c1 _ _ (a3 e1 e2)
    | true =>
      cases e3 : L ap with
      | false => exact c2 _ _ (a4 e2 e3)
      | true =>
        cases e4 : L st with
        | false => exact c3 _ _ (a5 e3 e4)
        | true => exact c4 _ (a6 e4)
theorem plain_built (s : Strm) : Try.prog.built 35 [(0, .bool s.inc), (1, .string (str s.set)), (2, .string (str s.frm)), (3, .string (str s.til)), (4, .agg (hl32 s.base)), (5, .agg (hl32 s.goal))] = some (strmV s (.slice none 0 0)) := by kernel_rfl
theorem results_strm1 {fn : Func} {p : Tmp} {ty : TypeId} (h : fn.results = #[.cell p ty]) (tmps : Array Value) (w : World) (g : Nat) (cs : Array Value)
    (hp : tmps.getD p undef = .pointer (some ⟨g, 0, none⟩)) (hl : (loadVar ty ⟨g, 0, none⟩).run Try.prog w = .ok (.agg cs) w) :
    (results fn tmps).run Try.prog w = .ok (.agg cs) w := by
  have hp' : tmps[p]?.getD undef = .pointer (some ⟨g, 0, none⟩) := by simpa using hp
  simp [results, h, hp', asAddr, hl]
/-- What the walk through the cells knows. -/
structure PS (w0 w1 : World) (b3 : Nat) (s : Strm) (cv cw : Value) (ts : List Tr) (wr : World) : Prop where
  below : Below w1.heap.size w1 wr
  f3 : Fn wr b3 35 69 (sf s cv)
  rows : Cs 50 (fun _ v xs => Bytes w0 v xs) wr w1.heap.size cw ts
  b3 : w1.heap.size ≤ b3
section
variable {w0 w1 : World} {b3 : Nat} {s : Strm} {cv cw v' : Value} {ts ts' : List Tr} {wr w4 : World}
theorem PS.cell (h : PS w0 w1 b3 s cv cw ts wr) : wr.cell? ⟨b3, 68, none⟩ = some cv := h.f3.cell (j := 68) (by decide)
theorem PS.drew (h : PS w0 w1 b3 s cv cw ts wr) : PS w0 w1 b3 s cv cw ts wr.drew := ⟨h.below.drew, h.f3, h.rows, h.b3⟩
theorem PS.at (h : PS w0 w1 b3 s cv cw ts wr) : wr.cell? ⟨b3, 68, none⟩ = some cv ∧ wr.frozen? ⟨b3, 68, none⟩ = false := ⟨h.cell, h.f3.frozen 68⟩
theorem PS.alloc (h : PS w0 w1 b3 s cv cw ts wr) (o : Obj) : PS w0 w1 b3 s cv cw ts (wr.alloc o) :=
  ⟨h.below.alloc h.below.size o, h.f3.alloc o, h.rows.mod ((Mod.refl (fun _ => False) wr).alloc o) (fun _ _ h => h) (fun _ _ Oy => Oy), h.b3⟩
theorem PS.app (h : PS w0 w1 b3 s cv cw ts wr) (C : Cs 50 (fun _ v xs => Bytes w0 v xs) w4 w1.heap.size v' ts') (M : Mod (fun k => cw.ownBlock = some k) wr w4) : PS w0 w1 b3 s cv v' ts' w4 :=
  ⟨h.below.trans (M.below h.below.size (fun k hk e => by have := (ownsRow_lt h.rows.1 k e).1; omega)), h.f3.mod M (ownsRow_fn h.rows.1 h.f3 (by decide)), C, h.b3⟩
theorem PS.lay (h : PS w0 w1 b3 s cv cw ts wr) : PS w0 w1 b3 s cw cw ts (wr.setCell ⟨b3, 68, none⟩ cw) :=
  ⟨h.below.trans ((Mod.one wr b3 68 cw).below h.below.size (fun k hk e => by have := h.b3; omega)), (h.f3.set 68 cw).congr (fun j hj => (sf_cells s cv cw j hj).symm), h.rows.mod (Mod.one wr b3 68 cw) (fun k hk e => by subst e; exact ownsRow_fn h.rows.1 h.f3 (by decide) hk) (fun v' ys Oy => Oy), h.b3⟩
end
set_option maxRecDepth 100000 in
set_option maxHeartbeats 2000000 in
theorem plain_c {w : World} {s : Strm} {cv : Value} {zs : Array Value} (hzs : zs = strmV s cv) (hC : CellsAt w cv s.cells) (hlen : s.cells.length ≤ 1000) :
    Calls Try.prog 11 #[.agg zs] w fun e w' => ∃ cv', e = .returned (.agg (strmV s cv')) ∧ CellsAt w' cv' s.cells ∧ Below w.heap.size w w' := by
  obtain ⟨w1, hw1⟩ : ∃ w1, w1 = w.alloc (.cells zs 25) := ⟨_, rfl⟩
  have L1 := hid (show Below w.heap.size w w1 by rw [hw1]; exact (Below.refl _ w).alloc (Nat.le_refl _) _)
  have F1 := hid (show Fn w1 w.heap.size 25 69 (sf s cv) by rw [hw1, hzs]; exact Fn.arr w _ 69 _)
  have hs1 := hid (show w1.heap.size = w.heap.size + 1 by rw [hw1]; simp)
  have hw1s := hid (show w.heap.size < w1.heap.size from Fn.lt F1.out)
  have hz1 := hid (show zs.size = 69 by rw [hzs]; exact strmV_size _ _)
  have FF := hid (fun (W : World) (h : Below w1.heap.size w1 W) => strm_cells (F1.out.below h F1.out.lt))
  have FB := hid (fun (W : World) (h : Below w1.heap.size w1 W) => strm_base (F1.out.below h F1.out.lt))
  have FG := hid (fun (W : World) (h : Below w1.heap.size w1 W) => strm_goal (F1.out.below h F1.out.lt))
  obtain ⟨yo, hyo⟩ : ∃ yo, yo = strmV Strm.zero (.slice none 0 0) := ⟨_, rfl⟩
  have hz : ∀ W : World, (zeroValue 35).run Try.prog W = .ok (.agg yo) W := by rw [hyo]; exact (fun W => rfl)
  have HY := hid hyo
  have C1 := hid (hC.below L1.out)
  have hbt := hid (plain_built s)
  have h32s := hid (fun ys : List W8 => show (Try.prog.info? 22).map (·.size) = some (hl32 ys).toList.length from by rw [Array.length_toList, hl32_size]; kernel_rfl)
  have HL := hid hlen
  obtain ⟨hb, hhb⟩ : ∃ hb, hb = hl32 s.base := ⟨_, rfl⟩
  obtain ⟨hg, hhg⟩ : ∃ hg, hg = hl32 s.goal := ⟨_, rfl⟩
  rw [← hhb, ← hhg] at hbt
  obtain ⟨z1, hz1'⟩ : ∃ z1, z1 = strmV s (.slice none 0 0) := ⟨_, rfl⟩
  rw [← hz1'] at hbt
  have HZ1 := hid hz1'
  have SZ1 := hid (show z1.size = 69 by rw [hz1']; exact strmV_size _ _)
  have ON1 := hid (show z1.all (·.oneCell') = true by rw [hz1']; exact strmV_one _ _ rfl)
  have hib := hid (show (Try.prog.info? 22).map (·.size) = some hb.toList.length by rw [hhb]; exact h32s.out _)
  have hig := hid (show (Try.prog.info? 22).map (·.size) = some hg.toList.length by rw [hhg]; exact h32s.out _)
  rw [← hhb] at FB
  rw [← hhg] at FG
  clear hhb hhg hz1' hzs hyo hC hlen h32s
  go_enter Try.func11, Try.ntmps11
  go_upto_region 1 with fail
  rw [← hw1]
  clear hw1
  rw [← hs1.out]
  obtain ⟨w2, hw2⟩ : ∃ w2, w2 = w1.alloc (.cells yo 35) := ⟨_, rfl⟩
  have L2 := hid (show Below w1.heap.size w1 w2 by rw [hw2]; exact (Below.refl _ w1).alloc (Nat.le_refl _) _)
  have F2 := hid (show Fn w2 w1.heap.size 35 69 (sf Strm.zero (.slice none 0 0)) by rw [hw2, HY.out]; exact Fn.arr w1 _ 69 _)
  have hs2 := hid (show w2.heap.size = w1.heap.size + 1 by rw [hw2]; simp)
  rw [← hw2]
  clear hw2
  obtain ⟨c0, c1, c2, c3, _⟩ := FF.out w2 L2.out
  have rb := FB.out w2 L2.out
  have rg := FG.out w2 L2.out
  have F3 := hid (show Fn (w2.alloc (.cells yo 35)) w2.heap.size 35 69 (sf Strm.zero (.slice none 0 0)) by rw [HY.out]; exact Fn.arr w2 _ 69 _)
  go_upto_region 2 with (first
    | ((with_reducible refine at_op (.load 22 (.tmp 13)) rfl ?_); refine wpList_load_mid rfl 22 (.tmp 13) rfl w.heap.size 4 rfl hb.toList _ rb Try.underlying22 rfl hib.out ?_)
    | ((with_reducible refine at_op (.load 22 (.tmp 15)) rfl ?_); refine wpList_load_mid rfl 22 (.tmp 15) rfl w.heap.size 36 rfl hg.toList _ rg Try.underlying22 rfl hig.out ?_)
    | ((with_reducible refine at_op (.build 35 #[(0, .tmp 6), (1, .tmp 8), (2, .tmp 10), (3, .tmp 12), (4, .tmp 14), (5, .tmp 16)]) rfl ?_); refine Go.wpList_buildTo rfl 35 #[(0, .tmp 6), (1, .tmp 8), (2, .tmp 10), (3, .tmp 12), (4, .tmp 14), (5, .tmp 16)] rfl _ rfl z1 (by simp only [List.map_toArray, List.map_cons, List.map_nil]; exact hbt.out) ?_)
    | ((with_reducible refine at_op (.store 35 (.tmp 3) (.tmp 17)) rfl ?_); refine wpList_store_mid rfl 35 (.tmp 3) (.tmp 17) rfl w2.heap.size 0 z1 rfl rfl (there_set F3.out SZ1.out) (by rw [SZ1.out]; kernel_rfl) ON1.out ?_))
  have P3 := hid (show PS w1 w2 w2.heap.size s (.slice none 0 0) (.slice none 0 0) [] ((w2.alloc (.cells yo 35)).setCells w2.heap.size 0 z1.toList) from
    ⟨((Below.refl _ w2).alloc (Nat.le_refl _) _).trans ((Mod.cells _ w2.heap.size 0 _).below (by simp) (fun k hk e => by omega)), by rw [HZ1.out]; exact F3.out.storeAll _, Cs.nil _ _ _ _, Nat.le_refl _⟩)
  obtain ⟨w3, hw3⟩ : ∃ w3, w3 = (w2.alloc (.cells yo 35)).setCells w2.heap.size 0 z1.toList := ⟨_, rfl⟩
  rw [← hw3] at P3
  rw [← hw3]
  clear hw3 F3 c0 c1 c2 c3 rb rg FB FG
  simp only [Act.put]
  have FF := hid (fun (W : World) (h : Below w2.heap.size w2 W) => FF.out W (L2.out.trans (h.mono L2.out.size)))
  obtain ⟨p, cap, rfl, hm, hcells⟩ := C1.out
  obtain ⟨n, hn⟩ : ∃ n, n = s.cells.length := ⟨_, rfl⟩
  have hn' := hid hn
  rw [← hn] at hm hcells FF
  unfold maxLen at hm
  have HC := hid hcells
  have hn1 := hid (show n ≤ 1000 from by rw [hn]; exact HL.out)
  clear hcells hn
  go_upto_region 3 with fail
  go_loopg [4] n (fun g v4 wr => ∃ (i : Nat) (cv : Value) (ts : List Tr), v4 = .int .i64 i ∧ g = n - i ∧ i ≤ n ∧ Hid (ts.length = i) ∧ Hid (tcs ts = s.cells.take i) ∧ Hid (PS w1 w2 w2.heap.size s cv cv ts wr))
  case atStart => exact ⟨0, .slice none 0 0, [], rfl, rfl, Nat.zero_le _, hid rfl, hid rfl, P3⟩
  case round =>
    obtain ⟨i, cv, ts, rfl, hg, hi, HTL, HTC, DD⟩ := hrel
    have c68 := (FF.out wr DD.out.below).2.2.2.2
    by_cases hlt : i < n
    · have hlti : (i : Int) < (n : Int) := by omega
      have hni : ¬ (i : Int) < 0 := by omega
      obtain ⟨b, off, e, hbl, hcap, hcell⟩ := HC.out (by omega)
      subst e
      obtain ⟨vb, k1, k2, k3⟩ := hcell i hlt
      have hcapi : (n : Int) ≤ (cap : Int) := by omega
      obtain ⟨y, hy⟩ : ∃ y, y = (cellAt s.cells i).1 := ⟨_, rfl⟩
      obtain ⟨B, hB⟩ : ∃ B, B = (cellAt s.cells i).2 := ⟨_, rfl⟩
      rw [← hy] at k1
      rw [← hB] at k3
      obtain ⟨pb, nb, cb, rfl⟩ := k3.form
      obtain ⟨pc, cc, rfl, _⟩ := ownsRow_form DD.out.rows.1
      have BK := hid k3
      have G := hid (fun (W : World) (h : Below w2.heap.size w2 W) => And.intro (FF.out W h).2.2.2.2 (And.intro (((L2.out.trans (h.mono L2.out.size)).cell (p := ⟨b, off + i * 2, none⟩) hbl).trans k1) (((L2.out.trans (h.mono L2.out.size)).cell (p := ⟨b, off + i * 2 + 1, none⟩) hbl).trans k2)))
      have hnext : Hid (s.cells.take (i + 1) = s.cells.take i ++ [(y, B)]) := hid (by
        rw [hy, hB, List.take_add_one, cellAt, List.getD_eq_getElem?_getD, List.getElem?_eq_getElem (by rw [← hn'.out]; exact hlt)]; rfl)
      have hltn := hid (show ts.length ≤ 1000 from by have := HTL.out; have := hn1.out; omega)
      clear k1 k2 k3 hcell hy hB
      obtain ⟨i0, hi0, hz0, hz1, hz2⟩ := info_parts infoR
      have HI := hid (And.intro hi0 (And.intro hz0 (And.intro hz1 hz2)))
      clear hi0 hz0 hz1 hz2
      have hbl50 := hid (show Try.prog.built 50 [(0, .int .i64 y), (1, .slice pb nb cb)] = some #[.int .i64 y, .slice pb nb cb] by kernel_rfl)
      go_upto_region 5 with fail
      refine region_inv (n := 44) (I := Apd [.pointer (some ⟨w2.heap.size, 68, none⟩), .slice pc ts.length cc, .pointer (some ⟨w.heap.size, 68, none⟩), .slice (some ⟨b, off, none⟩) n cap, .int .i64 i, .pointer (some ⟨b, off + i * 2, none⟩), .pointer (some ⟨b, off + i * 2, none⟩), .int .i64 y, .pointer (some ⟨w.heap.size, 68, none⟩), .slice (some ⟨b, off, none⟩) n cap, .int .i64 i, .pointer (some ⟨b, off + i * 2, none⟩), .pointer (some ⟨b, off + i * 2 + 1, none⟩), .slice pb nb cb, undef, undef, undef, .pointer (some ⟨w2.heap.size, 68, none⟩), undef] 1 14 15 16 18
        (PS w1 w2 w2.heap.size s (.slice pc ts.length cc) (.slice pc ts.length cc) ts)
        (fun v W => v = .agg #[.int .i64 y, .slice pb nb cb] ∧ PS w1 w2 w2.heap.size s (.slice pc ts.length cc) (.slice pc ts.length cc) ts W)
        (fun v W => ∃ g, v = .slice (some ⟨g, 0, none⟩) 1 1 ∧ Blk W g #[.int .i64 y, .slice pb nb cb] 50 ∧ PS w1 w2 w2.heap.size s (.slice pc ts.length cc) (.slice pc ts.length cc) ts W)
        (fun v W => PS w1 w2 w2.heap.size s (.slice pc ts.length cc) v (ts ++ [(y, B, .slice pb nb cb)]) W)
        (fun W => ∃ v, PS w1 w2 w2.heap.size s v v (ts ++ [(y, B, .slice pb nb cb)]) W)) (by kernel_rfl) (by kernel_rfl) (by kernel_rfl) (by kernel_rfl) (Apd.start DD.out.drew) ?hop ?hend
      case hop =>
        refine And.intro ?_ ?_
        · intro L V ρ w' hI hk hc hf hd hs
          have s3 : ρ (.tmp 3) = .pointer (some ⟨w2.heap.size, 0, none⟩) := hs 3 (by kernel_rfl)
          clear hd hs
          exact outcome_value (v := .pointer (some ⟨w2.heap.size, 68, none⟩)) (by simp [go_sem, s3]) (hI.val (by decide) (by decide) (by decide) (by decide) rfl)
        refine And.intro ?_ ?_
        · intro L V ρ w' hI hk hc hf hd hs
          have s25 : ρ (.tmp 25) = .pointer (some ⟨w2.heap.size, 68, none⟩) := ((hd 0 (by kernel_rfl)).2 25 (by kernel_rfl)).trans (hI.at (by decide) (by decide) (by decide) (by decide) (hd 0 (by kernel_rfl)).1)
          have hcell : w'.cell? ⟨w2.heap.size, 68, none⟩ = some (.slice pc ts.length cc) := hI.cell (C := fun W => W.cell? ⟨w2.heap.size, 68, none⟩ = some (.slice pc ts.length cc)) (fun W h => h.cell) (fun v W h => h.2.cell) (fun v W h => by obtain ⟨_, _, _, h⟩ := h; exact h.cell) hk
          clear hd hs
          exact outcome_value (v := .slice pc ts.length cc) (by simp [go_sem, s25, hcell]) (hI.val (by decide) (by decide) (by decide) (by decide) rfl)
        refine And.intro ?_ ?_
        · intro L V ρ w' hI hk hc hf hd hs
          have s1 : ρ (.tmp 1) = .pointer (some ⟨w.heap.size, 0, none⟩) := hs 1 (by kernel_rfl)
          clear hd hs
          exact outcome_value (v := .pointer (some ⟨w.heap.size, 68, none⟩)) (by simp [go_sem, s1]) (hI.val (by decide) (by decide) (by decide) (by decide) rfl)
        refine And.intro ?_ ?_
        · intro L V ρ w' hI hk hc hf hd hs
          have s27 : ρ (.tmp 27) = .pointer (some ⟨w.heap.size, 68, none⟩) := ((hd 2 (by kernel_rfl)).2 27 (by kernel_rfl)).trans (hI.at (by decide) (by decide) (by decide) (by decide) (hd 2 (by kernel_rfl)).1)
          have hW := hI.base (C := Below w2.heap.size w2) (fun W h => h.below) (fun v W h => h.2.below) (fun v W h => by obtain ⟨_, _, _, h⟩ := h; exact h.below) (fun v W h => h.below) (fun W h => by obtain ⟨_, h⟩ := h; exact h.below)
          have c68 := (G.out w' hW).1
          clear hd hs
          exact outcome_value (v := .slice (some ⟨b, off, none⟩) n cap) (by simp [go_sem, s27, c68]) (hI.val (by decide) (by decide) (by decide) (by decide) rfl)
        refine And.intro ?_ ?_
        · intro L V ρ w' hI hk hc hf hd hs
          have s4 : ρ (.tmp 4) = .int .i64 i := hs 4 (by kernel_rfl)
          clear hd hs
          rw [BigFrame.run_move (.tmp 4) rfl]
          exact hI.val (by decide) (by decide) (by decide) (by decide) s4
        refine And.intro ?_ ?_
        · intro L V ρ w' hI hk hc hf hd hs
          have s28 : ρ (.tmp 28) = .slice (some ⟨b, off, none⟩) n cap := ((hd 3 (by kernel_rfl)).2 28 (by kernel_rfl)).trans (hI.at (by decide) (by decide) (by decide) (by decide) (hd 3 (by kernel_rfl)).1)
          have s29 : ρ (.tmp 29) = .int .i64 i := ((hd 4 (by kernel_rfl)).2 29 (by kernel_rfl)).trans (hI.at (by decide) (by decide) (by decide) (by decide) (hd 4 (by kernel_rfl)).1)
          clear hd hs
          exact outcome_value (v := .pointer (some ⟨b, off + i * 2, none⟩)) (by simp [go_sem, s28, s29, hlti]) (hI.val (by decide) (by decide) (by decide) (by decide) rfl)
        refine And.intro ?_ ?_
        · intro L V ρ w' hI hk hc hf hd hs
          have s30 : ρ (.tmp 30) = .pointer (some ⟨b, off + i * 2, none⟩) := ((hd 5 (by kernel_rfl)).2 30 (by kernel_rfl)).trans (hI.at (by decide) (by decide) (by decide) (by decide) (hd 5 (by kernel_rfl)).1)
          clear hd hs
          exact outcome_value (v := .pointer (some ⟨b, off + i * 2, none⟩)) (by simp [go_sem, s30]) (hI.val (by decide) (by decide) (by decide) (by decide) rfl)
        refine And.intro ?_ ?_
        · intro L V ρ w' hI hk hc hf hd hs
          have s31 : ρ (.tmp 31) = .pointer (some ⟨b, off + i * 2, none⟩) := ((hd 6 (by kernel_rfl)).2 31 (by kernel_rfl)).trans (hI.at (by decide) (by decide) (by decide) (by decide) (hd 6 (by kernel_rfl)).1)
          have hW := hI.base (C := Below w2.heap.size w2) (fun W h => h.below) (fun v W h => h.2.below) (fun v W h => by obtain ⟨_, _, _, h⟩ := h; exact h.below) (fun v W h => h.below) (fun W h => by obtain ⟨_, h⟩ := h; exact h.below)
          have d1 := (G.out w' hW).2.1
          clear hd hs
          exact outcome_value (v := .int .i64 y) (by simp [go_sem, s31, d1]) (hI.val (by decide) (by decide) (by decide) (by decide) rfl)
        refine And.intro ?_ ?_
        · intro L V ρ w' hI hk hc hf hd hs
          have s1 : ρ (.tmp 1) = .pointer (some ⟨w.heap.size, 0, none⟩) := hs 1 (by kernel_rfl)
          clear hd hs
          exact outcome_value (v := .pointer (some ⟨w.heap.size, 68, none⟩)) (by simp [go_sem, s1]) (hI.val (by decide) (by decide) (by decide) (by decide) rfl)
        refine And.intro ?_ ?_
        · intro L V ρ w' hI hk hc hf hd hs
          have s33 : ρ (.tmp 33) = .pointer (some ⟨w.heap.size, 68, none⟩) := ((hd 8 (by kernel_rfl)).2 33 (by kernel_rfl)).trans (hI.at (by decide) (by decide) (by decide) (by decide) (hd 8 (by kernel_rfl)).1)
          have hW := hI.base (C := Below w2.heap.size w2) (fun W h => h.below) (fun v W h => h.2.below) (fun v W h => by obtain ⟨_, _, _, h⟩ := h; exact h.below) (fun v W h => h.below) (fun W h => by obtain ⟨_, h⟩ := h; exact h.below)
          have c68 := (G.out w' hW).1
          clear hd hs
          exact outcome_value (v := .slice (some ⟨b, off, none⟩) n cap) (by simp [go_sem, s33, c68]) (hI.val (by decide) (by decide) (by decide) (by decide) rfl)
        refine And.intro ?_ ?_
        · intro L V ρ w' hI hk hc hf hd hs
          have s4 : ρ (.tmp 4) = .int .i64 i := hs 4 (by kernel_rfl)
          clear hd hs
          rw [BigFrame.run_move (.tmp 4) rfl]
          exact hI.val (by decide) (by decide) (by decide) (by decide) s4
        refine And.intro ?_ ?_
        · intro L V ρ w' hI hk hc hf hd hs
          have s34 : ρ (.tmp 34) = .slice (some ⟨b, off, none⟩) n cap := ((hd 9 (by kernel_rfl)).2 34 (by kernel_rfl)).trans (hI.at (by decide) (by decide) (by decide) (by decide) (hd 9 (by kernel_rfl)).1)
          have s35 : ρ (.tmp 35) = .int .i64 i := ((hd 10 (by kernel_rfl)).2 35 (by kernel_rfl)).trans (hI.at (by decide) (by decide) (by decide) (by decide) (hd 10 (by kernel_rfl)).1)
          clear hd hs
          exact outcome_value (v := .pointer (some ⟨b, off + i * 2, none⟩)) (by simp [go_sem, s34, s35, hlti]) (hI.val (by decide) (by decide) (by decide) (by decide) rfl)
        refine And.intro ?_ ?_
        · intro L V ρ w' hI hk hc hf hd hs
          have s36 : ρ (.tmp 36) = .pointer (some ⟨b, off + i * 2, none⟩) := ((hd 11 (by kernel_rfl)).2 36 (by kernel_rfl)).trans (hI.at (by decide) (by decide) (by decide) (by decide) (hd 11 (by kernel_rfl)).1)
          clear hd hs
          exact outcome_value (v := .pointer (some ⟨b, off + i * 2 + 1, none⟩)) (by simp [go_sem, s36]) (hI.val (by decide) (by decide) (by decide) (by decide) rfl)
        refine And.intro ?_ ?_
        · intro L V ρ w' hI hk hc hf hd hs
          have s37 : ρ (.tmp 37) = .pointer (some ⟨b, off + i * 2 + 1, none⟩) := ((hd 12 (by kernel_rfl)).2 37 (by kernel_rfl)).trans (hI.at (by decide) (by decide) (by decide) (by decide) (hd 12 (by kernel_rfl)).1)
          have hW := hI.base (C := Below w2.heap.size w2) (fun W h => h.below) (fun v W h => h.2.below) (fun v W h => by obtain ⟨_, _, _, h⟩ := h; exact h.below) (fun v W h => h.below) (fun W h => by obtain ⟨_, h⟩ := h; exact h.below)
          have d2 := (G.out w' hW).2.2
          clear hd hs
          exact outcome_value (v := .slice pb nb cb) (by simp [go_sem, s37, d2]) (hI.val (by decide) (by decide) (by decide) (by decide) rfl)
        refine And.intro ?_ ?_
        · intro L V ρ w' hI hk hc hf hd hs
          have s32 : ρ (.tmp 32) = .int .i64 y := ((hd 7 (by kernel_rfl)).2 32 (by kernel_rfl)).trans (hI.at (by decide) (by decide) (by decide) (by decide) (hd 7 (by kernel_rfl)).1)
          have s38 : ρ (.tmp 38) = .slice pb nb cb := ((hd 13 (by kernel_rfl)).2 38 (by kernel_rfl)).trans (hI.at (by decide) (by decide) (by decide) (by decide) (hd 13 (by kernel_rfl)).1)
          clear hd hs
          have hP := hI.before hk
          refine outcome_value (v := .agg #[.int .i64 y, .slice pb nb cb]) (w := w') (by simp [go_sem, s32, s38]) (hI.call hk (by decide) (by decide) (by decide) ⟨rfl, hP⟩)
        refine And.intro ?_ ?_
        · intro L V ρ w' hI hk hc hf hd hs
          have h3 := (hd 14 (by kernel_rfl)).1
          have s39 : ρ (.tmp 39) = V 14 := (hd 14 (by kernel_rfl)).2 39 (by kernel_rfl)
          clear hd hs
          obtain ⟨⟨hv3, hP⟩, hnext⟩ := hI.build h3 hk (by decide) (by decide) (by decide)
          rw [hv3] at s39
          exact outcome_value (v := .slice (some ⟨w'.heap.size, 0, none⟩) 1 1) (w := w'.alloc (.cells #[.int .i64 y, .slice pb nb cb] 50)) (by simp [go_sem, s39]) (hnext _ _ ⟨w'.heap.size, rfl, Blk.new w' _ _, hP.alloc _⟩)
        refine And.intro ?_ ?_
        · intro L V ρ w' hI hk hc hf hd hs
          have h4 := (hd 15 (by kernel_rfl)).1
          have h1 := (hd 1 (by kernel_rfl)).1
          have s40 : ρ (.tmp 40) = V 15 := (hd 15 (by kernel_rfl)).2 40 (by kernel_rfl)
          have s26 : ρ (.tmp 26) = .slice pc ts.length cc := ((hd 1 (by kernel_rfl)).2 26 (by kernel_rfl)).trans (hI.at (by decide) (by decide) (by decide) (by decide) (hd 1 (by kernel_rfl)).1)
          clear hd hs
          obtain ⟨⟨g, hv4, BB, hP⟩, hnext⟩ := hI.app h4 h1 hk (by decide) (by decide) (by decide) (by decide)
          rw [hv4] at s40
          obtain ⟨v', w4, hr, C2, M2, _⟩ := run_appC Try.underlying33 HI.out.1 HI.out.2.1 HI.out.2.2.1 HI.out.2.2.2 hP.rows y B (.slice pb nb cb) rfl BB BK.out (by have := hltn.out; omega) hP.below.size (fun w'' v'' ys Oy Mx => Oy) 33 1
          refine outcome_value (v := v') (w := w4) ?_ (hnext _ _ (hP.app C2 M2))
          simp only [execOp, resolve, invoke, builtin, Sem.run_bind, Sem.run_pure, Result.andThen_ok, List.map_toArray, List.map_cons, List.map_nil, s40, s26, hr]
        refine And.intro ?_ ?_
        · intro L V ρ w' hI hk hc hf hd hs
          have s3 : ρ (.tmp 3) = .pointer (some ⟨w2.heap.size, 0, none⟩) := hs 3 (by kernel_rfl)
          clear hd hs
          exact outcome_value (v := .pointer (some ⟨w2.heap.size, 68, none⟩)) (by simp [go_sem, s3]) (hI.val (by decide) (by decide) (by decide) (by decide) rfl)
        refine And.intro ?_ ?_
        · intro L V ρ w' hI hk hc hf hd hs
          have h5 := (hd 16 (by kernel_rfl)).1
          have s41 : ρ (.tmp 41) = V 16 := (hd 16 (by kernel_rfl)).2 41 (by kernel_rfl)
          have s42 : ρ (.tmp 42) = .pointer (some ⟨w2.heap.size, 68, none⟩) := ((hd 17 (by kernel_rfl)).2 42 (by kernel_rfl)).trans (hI.at (by decide) (by decide) (by decide) (by decide) (hd 17 (by kernel_rfl)).1)
          clear hd hs
          obtain ⟨hP, hnext⟩ := hI.store h5 hk (by decide) (by decide) (by decide) (by decide)
          obtain ⟨p5, n5, c5, hv5⟩ : ∃ p n c, V 16 = .slice p n c := by obtain ⟨p, c, h, _⟩ := ownsRow_form hP.rows.1; exact ⟨p, _, c, h⟩
          obtain ⟨d1, f1⟩ := hP.at
          refine outcome_skip (w := w'.setCell ⟨w2.heap.size, 68, none⟩ (V 16)) ?_ (hnext _ _ ⟨V 16, hP.lay⟩)
          rw [hv5] at s41 ⊢
          simp [go_sem, s41, s42, d1, f1]
        exact trivial
      case hend =>
        intro L V w13 hL hI
        obtain ⟨v13, D13⟩ := hI.end (hL 18 (by decide))
        have DH := hid D13
        simp only [lexF, Act.put, List.setIfInBounds_toArray, List.set_cons_zero, List.set_cons_succ]
        clear hI hL D13
        go_wp2
        go_roundg (n - (i + 1))
        case measure => omega
        case rel => exact ⟨i + 1, v13, _, by go_num, rfl, by omega, hid (by simp [HTL.out]), hid (by rw [hnext.out, ← HTC.out]; simp [tcs]), DH⟩
    · have hini : ¬ (i : Int) < (n : Int) := by omega
      have hin : i = n := by omega
      have HTA := hid (show tcs ts = s.cells from by rw [HTC.out, hin, hn'.out, List.take_length])
      clear hin HTC
      obtain ⟨z5, hz5⟩ : ∃ z5, z5 = strmV s cv := ⟨_, rfl⟩
      have HZ5 := hid hz5
      have S5 := hid (show z5.size = 69 from by rw [hz5]; exact strmV_size _ _)
      have O5 := hid (show z5.all (·.oneCell') = true from by
        obtain ⟨pc, cc, e, _⟩ := ownsRow_form DD.out.rows.1
        rw [hz5, e]; exact strmV_one _ _ rfl)
      clear hz5
      have rs5 : wr.rangeAt w2.heap.size 0 z5.toList := DD.out.f3.range' z5 S5.out (fun j hj => by rw [HZ5.out]; exact strmV_get _ _ hj)
      have hi5 := hid (show (Try.prog.info? 35).map (·.size) = some z5.toList.length from by rw [Array.length_toList, S5.out]; kernel_rfl)
      have F2w := hid (F2.out.below DD.out.below F2.out.lt)
      go_wp2_with (first
        | ((with_reducible refine at_op (.load 35 (.tmp 3)) rfl ?_); refine wpList_load_mid rfl 35 (.tmp 3) rfl w2.heap.size 0 rfl z5.toList _ rs5 Try.underlying35 rfl hi5.out ?_)
        | ((with_reducible refine at_op (.store 35 (.tmp 2) (.tmp 43)) rfl ?_); refine wpList_store_mid rfl 35 (.tmp 2) (.tmp 43) rfl w1.heap.size 0 z5 rfl rfl (there_set F2w.out S5.out) (by rw [S5.out]; kernel_rfl) O5.out ?_))
      have FL := F2w.out.storeAll (sf s cv)
      rw [show arr 69 (sf s cv) = z5 from HZ5.out.symm] at FL
      have BW := hid (show Below w1.heap.size w1 (wr.setCells w1.heap.size 0 z5.toList) from L2.out.trans ((DD.out.below.mono L2.out.size).trans ((Mod.cells wr w1.heap.size 0 z5.toList).below (Nat.le_trans L2.out.size DD.out.below.size) (fun k hk e => by omega))))
      have RW := DD.out.rows.mod (Mod.cells wr w1.heap.size 0 z5.toList) (fun k hk e => by have := (ownsRow_lt DD.out.rows.1 k hk).1; have := hs2.out; omega) (fun v' ys Oy => Oy)
      refine bodyPost_ret (v := .agg (strmV s cv)) (results_strm1 (p := 2) (ty := 35) rfl _ _ w1.heap.size _ rfl (load_strm FL Try.underlying35 rfl (by kernel_rfl))) rfl ⟨cv, rfl, ?_, L1.out.trans (BW.out.mono L1.out.size)⟩
      have := RW.read (fun v xs h => h.below BW.out) (by have := HTL.out; have := hn1.out; omega)
      rwa [HTA.out] at this
end Go.Proofs.Ytpbkdjnogjmfcaa

/- Equal streams are the same, and small streams are small. -/
namespace Go.Proofs.Ytpbkdjnogjmfcaa
open Go.RowKit Go.ChangeMaps

theorem neq32 {x : List W8} (hx : x.length = 32) (W : World) : (Op.equalIn 10000 22 (.agg (hl32 x)) (.agg (hl32 x))).run Try.prog W = .ok true W := by
  rw [eq32 hx hx W, decide_eq_true rfl]
set_option maxRecDepth 100000 in
set_option maxHeartbeats 2000000 in
theorem same_c {w : World} {s : Strm} {cv cv' : Value} {zs zs' : Array Value} (hzs : zs = strmV s cv) (hzs' : zs' = strmV s cv') (hb : s.base.length = 32) (hg : s.goal.length = 32) (hC : CellsAt w cv s.cells) (hC' : CellsAt w cv' s.cells) :
    Calls Try.prog 16 #[.agg zs, .agg zs'] w fun e w' => e = .returned (.bool true) ∧ Below w.heap.size w w' := by
  obtain ⟨w1, hw1⟩ : ∃ w1, w1 = w.alloc (.cells zs 35) := ⟨_, rfl⟩
  have L1 := hid (show Below w.heap.size w w1 by rw [hw1]; exact (Below.refl _ w).alloc (Nat.le_refl _) _)
  have F1 := hid (show Fn w1 w.heap.size 35 69 (sf s cv) by rw [hw1, hzs]; exact Fn.arr w _ 69 _)
  have hs1 := hid (show w1.heap.size = w.heap.size + 1 by rw [hw1]; simp)
  obtain ⟨w2, hw2⟩ : ∃ w2, w2 = w1.alloc (.cells zs' 35) := ⟨_, rfl⟩
  have L2 := hid (show Below w1.heap.size w1 w2 by rw [hw2]; exact (Below.refl _ w1).alloc (Nat.le_refl _) _)
  have F2 := hid (show Fn w2 w1.heap.size 35 69 (sf s cv') by rw [hw2, hzs']; exact Fn.arr w1 _ 69 _)
  have F1w := hid (F1.out.below L2.out F1.out.lt)
  have FF := hid (fun (W : World) (h : Below w2.heap.size w2 W) => And.intro (strm_cells (F1w.out.below h F1w.out.lt)) (strm_cells (F2.out.below h F2.out.lt)))
  have FB := hid (fun (W : World) (h : Below w2.heap.size w2 W) => And.intro (strm_base (F1w.out.below h F1w.out.lt)) (strm_base (F2.out.below h F2.out.lt)))
  have FG := hid (fun (W : World) (h : Below w2.heap.size w2 W) => And.intro (strm_goal (F1w.out.below h F1w.out.lt)) (strm_goal (F2.out.below h F2.out.lt)))
  have h32s := hid (fun ys : List W8 => show (Try.prog.info? 22).map (·.size) = some (hl32 ys).toList.length from by rw [Array.length_toList, hl32_size]; kernel_rfl)
  have C2 := hid ((hC.below L1.out).below L2.out)
  have C2' := hid ((hC'.below L1.out).below L2.out)
  have eb := neq32 hb
  have eg := neq32 hg
  have ib := hid (h32s.out s.base)
  have ig := hid (h32s.out s.goal)
  obtain ⟨hbs, hhb⟩ : ∃ hbs, hbs = hl32 s.base := ⟨_, rfl⟩
  obtain ⟨hgs, hhg⟩ : ∃ hgs, hgs = hl32 s.goal := ⟨_, rfl⟩
  rw [← hhb] at FB eb ib
  rw [← hhg] at FG eg ig
  obtain ⟨n, hn⟩ : ∃ n, n = s.cells.length := ⟨_, rfl⟩
  obtain ⟨p, cap, rfl, hm, hcells⟩ := C2.out
  obtain ⟨p', cap', rfl, _, hcells'⟩ := C2'.out
  rw [← hn] at hm hcells hcells' FF
  unfold maxLen at hm
  have HC := hid hcells
  have HC' := hid hcells'
  have HM := hid hm
  have LL := hid (L1.out.trans (L2.out.mono L1.out.size))
  clear hcells hcells' hn hhb hhg hzs hzs' hC hC' hb hg h32s C2 C2'
  obtain ⟨⟨c0, c1, c2, c3, c68⟩, d0, d1, d2, d3, d68⟩ := FF.out w2 (Below.refl _ _)
  obtain ⟨rb, sb⟩ := FB.out w2 (Below.refl _ _)
  obtain ⟨rg, sg⟩ := FG.out w2 (Below.refl _ _)
  have q0 : (s.inc != s.inc) = false := by simp
  go_enter Try.func16, Try.ntmps16
  go_upto_region 1 with fail
  rw [← hw1, ← hs1.out, ← hw2]
  clear hw1 hw2
  go_upto_region 3 with (first
    | ((with_reducible refine at_op (.load 22 (.tmp 33)) rfl ?_); refine wpList_load_g (by rfl) 22 (.tmp 33) rfl w.heap.size 4 rfl hbs.toList _ rb Try.underlying22 rfl ib.out ?_)
    | ((with_reducible refine at_op (.load 22 (.tmp 35)) rfl ?_); refine wpList_load_g (by rfl) 22 (.tmp 35) rfl w1.heap.size 4 rfl hbs.toList _ sb Try.underlying22 rfl ib.out ?_)
    | ((with_reducible refine at_op (.load 22 (.tmp 40)) rfl ?_); refine wpList_load_g (by rfl) 22 (.tmp 40) rfl w.heap.size 36 rfl hgs.toList _ rg Try.underlying22 rfl ig.out ?_)
    | ((with_reducible refine at_op (.load 22 (.tmp 42)) rfl ?_); refine wpList_load_g (by rfl) 22 (.tmp 42) rfl w1.heap.size 36 rfl hgs.toList _ sg Try.underlying22 rfl ig.out ?_))
  clear rb sb rg sg eb eg FB FG q0 c0 c1 c2 c3 d0 d1 d2 d3
  go_upto_region 4 with fail
  go_loopg [5] n (fun g v5 wr => ∃ i : Nat, v5 = .int .i64 i ∧ g = n - i ∧ i ≤ n ∧ Hid (Below w2.heap.size w2 wr))
  case atStart => exact ⟨0, rfl, rfl, Nat.zero_le _, hid (Below.refl _ _)⟩
  case round =>
    obtain ⟨i, rfl, hg, hi, BR⟩ := hrel
    obtain ⟨⟨_, _, _, _, c68⟩, _, _, _, _, d68⟩ := FF.out wr BR.out
    have hm := HM.out
    by_cases hlt : i < n
    · have hlti : (i : Int) < (n : Int) := by omega
      obtain ⟨b, off, e, hbl, hcap, hcell⟩ := HC.out (by omega)
      subst e
      obtain ⟨b', off', e, hbl', hcap', hcell'⟩ := HC'.out (by omega)
      subst e
      obtain ⟨vb, k1, k2, k3⟩ := hcell i hlt
      obtain ⟨vb', k1', k2', k3'⟩ := hcell' i hlt
      obtain ⟨a, ha⟩ : ∃ a, a = (cellAt s.cells i).1 := ⟨_, rfl⟩
      obtain ⟨B, hB⟩ : ∃ B, B = (cellAt s.cells i).2 := ⟨_, rfl⟩
      rw [← ha] at k1 k1'
      rw [← hB] at k3 k3'
      have K3 := hid k3
      have K3' := hid k3'
      obtain ⟨pb, nb, cb, rfl⟩ := k3.form
      obtain ⟨pb', nb', cb', rfl⟩ := k3'.form
      have hcapi : (n : Int) ≤ (cap : Int) := by omega
      have hcapi' : (n : Int) ≤ (cap' : Int) := by omega
      go_upto_region 6 with fail
      have LB := hid (fun m : Wd wr => show Below w2.heap.size w2 m.w from BR.out.trans (m.h.mono BR.out.size))
      have g68 : ∀ m : Wd wr, m.w.cell? ⟨w.heap.size, 68, none⟩ = some (.slice (some ⟨b, off, none⟩) n cap) := fun m => (FF.out m.w (LB.out m)).1.2.2.2.2
      have f68 : ∀ m : Wd wr, m.w.cell? ⟨w1.heap.size, 68, none⟩ = some (.slice (some ⟨b', off', none⟩) n cap') := fun m => (FF.out m.w (LB.out m)).2.2.2.2.2
      have g0 : ∀ m : Wd wr, m.w.cell? ⟨b, off + i * 2, none⟩ = some (.int .i64 a) := fun m => ((LB.out m).cell (p := ⟨b, off + i * 2, none⟩) hbl).trans k1
      have g1 : ∀ m : Wd wr, m.w.cell? ⟨b, off + i * 2 + 1, none⟩ = some (.slice pb nb cb) := fun m => ((LB.out m).cell (p := ⟨b, off + i * 2 + 1, none⟩) hbl).trans k2
      have f0 : ∀ m : Wd wr, m.w.cell? ⟨b', off' + i * 2, none⟩ = some (.int .i64 a) := fun m => ((LB.out m).cell (p := ⟨b', off' + i * 2, none⟩) hbl').trans k1'
      have f1 : ∀ m : Wd wr, m.w.cell? ⟨b', off' + i * 2 + 1, none⟩ = some (.slice pb' nb' cb') := fun m => ((LB.out m).cell (p := ⟨b', off' + i * 2 + 1, none⟩) hbl').trans k2'
      have CV := hid (show ∀ W, (∃ m : Wd wr, W = m.w) → (convert 28 9 (.slice pb nb cb)).run Try.prog W = .ok (.string (str B)) W from fun W hW => by obtain ⟨m, rfl⟩ := hW; exact conv_str' (K3.out.below (LB.out m)))
      have CV' := hid (show ∀ W, (∃ m : Wd wr, W = m.w) → (convert 28 9 (.slice pb' nb' cb')).run Try.prog W = .ok (.string (str B)) W from fun W hW => by obtain ⟨m, rfl⟩ := hW; exact conv_str' (K3'.out.below (LB.out m)))
      clear k1 k2 k3 k1' k2' k3' hcell hcell' ha hB c68 d68
      refine region_wd (by kernel_rfl) (by kernel_rfl) ?_
      repeat (first
        | go_big_quiet_skip
        | (go_big_quiet_want
           first
           | (refine quiet_convert 28 9 (.tmp 81) rfl (.string (str B)) CV.out ?_
              simp only [Act.put, List.setIfInBounds_toArray, List.set_cons_zero, List.set_cons_succ]
              go_big_quiet_on)
           | (refine quiet_convert 28 9 (.tmp 88) rfl (.string (str B)) CV'.out ?_
              simp only [Act.put, List.setIfInBounds_toArray, List.set_cons_zero, List.set_cons_succ]
              go_big_quiet_on)
           | (go_big_quiet_op
              go_big_quiet_on))
        )
      refine wpQuiet_nil ?_
      rintro _ ⟨nq, rfl⟩
      have BR2 := hid (LB.out nq)
      go_wp2
      go_roundg (n - (i + 1))
      case measure => omega
      case rel => exact ⟨i + 1, by go_num, rfl, by omega, BR2⟩
    · have hini : ¬ (i : Int) < (n : Int) := by omega
      go_wp2
      go_ret
      exact ⟨rfl, LL.out.trans (BR.out.mono LL.out.size)⟩
end Go.Proofs.Ytpbkdjnogjmfcaa

/- Small streams. -/
namespace Go.Proofs.Ytpbkdjnogjmfcaa
open Go.RowKit Go.ChangeMaps

def smallS (s : Strm) : Prop := (s.cells.length ≤ 20 ∧ ∀ i, i < s.cells.length → (cellAt s.cells i).2.length ≤ 300) ∧ s.set.length ≤ 100 ∧ s.frm.length ≤ 100 ∧ s.til.length ≤ 100
instance (s : Strm) : Decidable (smallS s) := by unfold smallS; infer_instance
set_option maxRecDepth 100000 in
set_option maxHeartbeats 2000000 in
theorem small_c {w : World} {s : Strm} {cv : Value} {zs : Array Value} (hzs : zs = strmV s cv) (hC : CellsAt w cv s.cells) :
    Calls Try.prog 7 #[.agg zs] w fun e w' => e = .returned (.bool (decide (smallS s))) ∧ Below w.heap.size w w' := by
  obtain ⟨w1, hw1⟩ : ∃ w1, w1 = w.alloc (.cells zs 25) := ⟨_, rfl⟩
  have L1 := hid (show Below w.heap.size w w1 by rw [hw1]; exact (Below.refl _ w).alloc (Nat.le_refl _) _)
  have F1 := hid (show Fn w1 w.heap.size 25 69 (sf s cv) by rw [hw1, hzs]; exact Fn.arr w _ 69 _)
  have FF := hid (fun (W : World) (h : Below w1.heap.size w1 W) => strm_cells (F1.out.below h F1.out.lt))
  have C1 := hid (hC.below L1.out)
  have hq := hid (show decide (smallS s) = decide ((s.cells.length ≤ 20 ∧ ∀ i, i < s.cells.length → (cellAt s.cells i).2.length ≤ 300) ∧ s.set.length ≤ 100 ∧ s.frm.length ≤ 100 ∧ s.til.length ≤ 100) from rfl)
  obtain ⟨n, hn⟩ : ∃ n, n = s.cells.length := ⟨_, rfl⟩
  obtain ⟨p, cap, rfl, hm, hcells⟩ := C1.out
  rw [← hn] at hm hcells FF hq
  have hn' := hid hn
  unfold maxLen at hm
  have HC := hid hcells
  have HM := hid hm
  have sz := str_size
  clear hcells hn hzs hC C1 F1
  go_enter Try.func7, Try.ntmps7
  go_upto_region 1 with fail
  rw [← hw1]
  clear hw1
  go_upto_region 2 with fail
  go_loopg [3] n (fun g v5 wr => ∃ i : Nat, v5 = .int .i64 i ∧ g = n - i ∧ i ≤ n ∧ i ≤ 20 ∧ Hid (∀ j, j < i → (cellAt s.cells j).2.length ≤ 300) ∧ Hid (Below w1.heap.size w1 wr))
  case atStart => exact ⟨0, rfl, rfl, Nat.zero_le _, Nat.zero_le _, hid (fun j hj => absurd hj (Nat.not_lt_zero j)), hid (Below.refl _ _)⟩
  case round =>
    obtain ⟨i, rfl, hg, hi, h20, HJ, BR⟩ := hrel
    obtain ⟨c0, c1, c2, c3, c68⟩ := FF.out wr BR.out
    have hm := HM.out
    have LR := hid (L1.out.trans (BR.out.mono L1.out.size))
    by_cases hlt : i < n
    · have hlti : (i : Int) < (n : Int) := by omega
      obtain ⟨b, off, e, hbl, hcap, hcell⟩ := HC.out (by omega)
      subst e
      by_cases he : i = 20
      · have e20 : ((i : Int) == 20) = true := by rw [he]; rfl
        have HQ := hid (hq.out.trans (decide_eq_false (fun h => by have := h.1.1; omega)))
        clear he hcell
        go_wp2
        go_ret
        exact ⟨by rw [HQ.out]; rfl, LR.out⟩
      · have e20 : ((i : Int) == 20) = false := by simp; omega
        obtain ⟨vb, k1, k2, k3⟩ := hcell i hlt
        have d2 : wr.cell? ⟨b, off + i * 2 + 1, none⟩ = some vb := (BR.out.cell (p := ⟨b, off + i * 2 + 1, none⟩) hbl).trans k2
        obtain ⟨pb, cb, rfl⟩ := k3.len
        obtain ⟨m, hmB⟩ : ∃ m, m = (cellAt s.cells i).2.length := ⟨_, rfl⟩
        rw [← hmB] at d2
        have hcapi : (n : Int) ≤ (cap : Int) := by omega
        have HMB := hid hmB
        clear hcell k1 k2 k3 hmB
        by_cases h300 : m ≤ 300
        · have h300' : ¬ (300 : Int) < (m : Int) := by omega
          have HJ2 := hid (show ∀ j, j < i + 1 → (cellAt s.cells j).2.length ≤ 300 from fun j hj => by
            by_cases e : j = i
            · rw [e, ← HMB.out]; exact h300
            · exact HJ.out j (by omega))
          go_wp2
          go_roundg (n - (i + 1))
          case measure => omega
          case rel => exact ⟨i + 1, by go_num, rfl, by omega, by omega, HJ2, BR⟩
        · have h300' : (300 : Int) < (m : Int) := by omega
          have HQ := hid (hq.out.trans (decide_eq_false (fun h => by have := h.1.2 i hlt; have := HMB.out; omega)))
          go_wp2
          go_ret
          exact ⟨by rw [HQ.out]; rfl, LR.out⟩
    · have hini : ¬ (i : Int) < (n : Int) := by omega
      have HQ := hid (hq.out.trans (show _ = decide (s.set.length ≤ 100 ∧ s.frm.length ≤ 100 ∧ s.til.length ≤ 100) from by
        rw [Bool.eq_iff_iff]
        simp only [decide_eq_true_eq]
        exact ⟨fun h => h.2, fun h => ⟨⟨by omega, fun j hj => HJ.out j (by omega)⟩, h⟩⟩))
      obtain ⟨a1, ha1⟩ : ∃ a1, a1 = s.set.length := ⟨_, rfl⟩
      obtain ⟨a2, ha2⟩ : ∃ a2, a2 = s.frm.length := ⟨_, rfl⟩
      obtain ⟨a3, ha3⟩ : ∃ a3, a3 = s.til.length := ⟨_, rfl⟩
      have q1 : (str s.set).size = a1 := by rw [str_size, ha1]
      have q2 : (str s.frm).size = a2 := by rw [str_size, ha2]
      have q3 : (str s.til).size = a3 := by rw [str_size, ha3]
      rw [← ha1, ← ha2, ← ha3] at HQ
      clear ha1 ha2 ha3 sz
      by_cases h1 : a1 ≤ 100
      · have h1' : (a1 : Int) ≤ 100 := by omega
        by_cases h2 : a2 ≤ 100
        · have h2' : (a2 : Int) ≤ 100 := by omega
          by_cases h3 : a3 ≤ 100
          · have h3' : (a3 : Int) ≤ 100 := by omega
            go_wp2
            go_ret
            exact ⟨by rw [HQ.out, decide_eq_true ⟨h1, h2, h3⟩]; rfl, LR.out⟩
          · have h3' : ¬ (a3 : Int) ≤ 100 := by omega
            go_wp2
            go_ret
            exact ⟨by rw [HQ.out, decide_eq_false (fun h => h3 h.2.2)]; rfl, LR.out⟩
        · have h2' : ¬ (a2 : Int) ≤ 100 := by omega
          go_wp2
          go_ret
          exact ⟨by rw [HQ.out, decide_eq_false (fun h => h2 h.2.1)]; rfl, LR.out⟩
      · have h1' : ¬ (a1 : Int) ≤ 100 := by omega
        go_wp2
        go_ret
        exact ⟨by rw [HQ.out, decide_eq_false (fun h => h1 h.1)]; rfl, LR.out⟩
end Go.Proofs.Ytpbkdjnogjmfcaa
