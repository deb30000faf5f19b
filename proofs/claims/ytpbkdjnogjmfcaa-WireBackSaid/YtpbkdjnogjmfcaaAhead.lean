/- The program's ahead: the names. -/
import Derived.Test.YtpbkdjnogjmfcaaCat
import Derived.Test.YtpbkdjnogjmfcaaDecL
import Derived.Deep.RegionHeld3
import Derived.OwnWalk
namespace Go.Proofs.Ytpbkdjnogjmfcaa
open Go.RowKit Go.ChangeMaps

def nameK (s : Strm) (k : Nat) : List W8 := if k = 0 then s.set else if k = 1 then s.frm else s.til
def markB (s : Strm) : W8 := if s.inc = true then 73 else 70
def preK (s : Strm) : Nat → List W8
  | 0 => [markB s]
  | k + 1 => preK s k ++ leb (nameK s k).length ++ nameK s k
/-- What is asked of a stream that is laid: its sizes. -/
structure Fit (s : Strm) : Prop where
  base : s.base.length = 32
  goal : s.goal.length = 32
  set : s.set.length ≤ 1000
  frm : s.frm.length ≤ 1000
  til : s.til.length ≤ 1000
  cells : s.cells.length ≤ 100
  each : ∀ i, i < s.cells.length → 0 ≤ (cellAt s.cells i).1 ∧ (cellAt s.cells i).1 < 256 ∧ (cellAt s.cells i).2.length ≤ 300
theorem Fit.name {s : Strm} (h : Fit s) (k : Nat) : (nameK s k).length ≤ 1000 := by
  unfold nameK; repeat' split
  · exact h.set
  · exact h.frm
  · exact h.til
theorem Fit.pre {s : Strm} (h : Fit s) : ∀ k, (preK s k).length ≤ 1 + k * 1020
  | 0 => by simp [preK]
  | k + 1 => by
    have := h.pre k
    have h2 := h.name k
    have h3 := lebF_length 10 (nameK s k).length
    show (preK s k ++ leb (nameK s k).length ++ nameK s k).length ≤ _
    unfold leb
    simp; omega
theorem strm_goal {w : World} {b : Nat} {T : TypeId} {s : Strm} {cv : Value} (F : Fn w b T 69 (sf s cv)) : w.rangeAt b 36 (hl32 s.goal).toList := by
  intro j v hv
  have hj : j < 32 := by rw [← hl32_size s.goal]; simpa using (List.getElem?_eq_some_iff.1 hv).1
  rw [Array.getElem?_toList, hl32_get _ hj] at hv
  rw [← hv, F.cell (j := 36 + j) (by omega)]
  unfold sf
  rw [if_neg (by omega), if_neg (by omega), if_neg (by omega), if_neg (by omega), if_neg (by omega), if_pos (by omega), show 36 + j - 36 = j by omega]
theorem bytes_range {w : World} {b o : Nat} {xs : List W8} (hl : xs.length = 32) (hb : b < w.heap.size) (h : w.rangeAt b o (hl32 xs).toList) : Bytes w (.slice (some ⟨b, o, none⟩) 32 32) xs :=
  ⟨_, 32, by rw [hl], fun _ => ⟨b, o, rfl, hb, by omega, by unfold maxLen; omega, fun i hi => h i _ (by rw [Array.getElem?_toList]; exact hl32_get _ (by omega))⟩⟩
theorem step_app {ops : Array Oper} {o : Oper} {a : Act} {K : Act → World → Prop} {Q : Exit → Act → World → Prop} {E : Prop} (hgd : o.guard = none) (s x : Operand) (ho : o.op = .call { callee := .builtin .append, args := #[s, x], argTypes := #[28, 28] })
    {w : World} {base : Nat} {v vx : Value} {xs ys : List W8} (hs : a.eval s = v) (hx : a.eval x = vx) (O : Ow w base v xs) (hB : Bytes w vx ys) (hlen : xs.length + ys.length ≤ 1000000) (hbase : base ≤ w.heap.size)
    (h : ∀ v' w', Ow w' base v' (xs ++ ys) → Mod (fun k => v.ownBlock = some k) w w' → (v'.ownBlock = v.ownBlock ∨ v'.ownBlock = some w.heap.size) → K (a.put o.dst v') w') :
    if Region.wanted o (yielded ops a.tmps) = true then Oper.wp Try.prog o a w K Q else E := by
  have hw : Region.wanted o (yielded ops a.tmps) = true := by simp [Region.wanted, hgd]
  rw [if_pos hw]
  obtain ⟨v', w', hr, h2, h3, h4⟩ := run_app O hB hlen hbase o.type
  unfold Oper.wp execOp
  simp only [ho, resolve, invoke, builtin, Sem.run_bind, Sem.run_pure, Result.andThen_ok, List.map_toArray, List.map_cons, List.map_nil, hs, hx, hr]
  exact h _ _ h2 h3 h4
def cat3 (s : Strm) : Nat → List W8 := fun i => if i = 0 then preK s 3 else if i = 1 then s.base else s.goal
theorem cat3_len {s : Strm} (h : Fit s) : (flat (cat3 s) 3).length ≤ 4000 := by
  have := h.pre 3
  have h1 := h.base
  have h2 := h.goal
  simp [flat, cat3]; omega
theorem cat3_head (s : Strm) : flat (cat3 s) 3 ++ leb s.cells.length = headB s := by
  unfold headB nameB
  simp [flat, cat3, preK, nameK, markB, List.append_assoc]
theorem cellsB_le {s : Strm} (h : Fit s) : ∀ i, i ≤ s.cells.length → (cellsB (s.cells.take i)).length ≤ i * 302 := by
  intro i
  induction i with
  | zero => intro _; simp [cellsB]
  | succ i ih =>
    intro hi
    have hi' : i < s.cells.length := by omega
    rw [List.take_succ_eq_append_getElem hi', cellsB_append, List.length_append]
    have := ih (by omega)
    have e : s.cells[i] = cellAt s.cells i := by unfold cellAt; rw [List.getD_eq_getElem?_getD, List.getElem?_eq_getElem hi']; rfl
    have := (h.each i hi').2.2
    rw [e]
    show _ + (cellB _ ++ []).length ≤ _
    simp [cellB]; omega
def aheadPhi (b : Nat) (v3 cv : Value) (s : Strm) (n : Nat) (kq : Nat) (v : Value) (W : World) : Prop :=
  match kq with
  | 0 => v = v3
  | 1 => v = .pointer (some ⟨b, 4, none⟩)
  | 2 => v = .slice (some ⟨b, 4, none⟩) 32 32
  | 3 => v = .pointer (some ⟨b, 36, none⟩)
  | 4 => v = .slice (some ⟨b, 36, none⟩) 32 32
  | 5 => ∃ g, v = .slice (some ⟨g, 0, none⟩) 3 3 ∧ Parts W (some ⟨g, 0, none⟩) 3 (cat3 s)
  | 6 => Ow W b v (flat (cat3 s) 3)
  | 7 => v = .pointer (some ⟨b, 68, none⟩)
  | 8 => v = cv
  | 9 => v = .int .i64 (n : Int)
  | 10 => v = .int .u64 (n : Int)
  | _ => Ow W b v (flat (cat3 s) 3 ++ leb n)
theorem aheadPhi_mono {b : Nat} {v3 cv : Value} {s : Strm} {n : Nat} : ∀ (j : Nat) (v : Value) (w w' : World), aheadPhi b v3 cv s n j v w → Below w.heap.size w w' → aheadPhi b v3 cv s n j v w' := by
  intro j v w w' h hb
  match j, h with
  | 5, ⟨g, h1, h2⟩ => exact ⟨g, h1, h2.below hb⟩
  | 6, h => exact Ow.below h hb
  | 0, h | 1, h | 2, h | 3, h | 4, h | 7, h | 8, h | 9, h | 10, h => exact h
  | j + 11, h => exact Ow.below h hb
theorem parts3 {W : World} {v0 v1 v2 : Value} {s : Strm} (h0 : Bytes W v0 (preK s 3)) (h1 : Bytes W v1 s.base) (h2 : Bytes W v2 s.goal) (o0 : ∀ k, v0.ownBlock = some k → k < W.heap.size) (o1 : ∀ k, v1.ownBlock = some k → k < W.heap.size) (o2 : ∀ k, v2.ownBlock = some k → k < W.heap.size) :
    Parts (W.alloc (.cells #[v0, v1, v2] 28)) (some ⟨W.heap.size, 0, none⟩) 3 (cat3 s) := by
  have La : Below W.heap.size W (W.alloc (.cells #[v0, v1, v2] 28)) := (Below.refl _ W).alloc (Nat.le_refl _) _
  intro i hi
  have : i = 0 ∨ i = 1 ∨ i = 2 := by omega
  rcases this with rfl | rfl | rfl
  · exact ⟨_, 0, v0, rfl, by simp, (Blk.new W _ _).cellv rfl, h0.below La, fun _ k hk => by have := o0 k hk; simp; omega⟩
  · exact ⟨_, 0, v1, rfl, by simp, (Blk.new W _ _).cellv rfl, h1.below La, fun _ k hk => by have := o1 k hk; simp; omega⟩
  · exact ⟨_, 0, v2, rfl, by simp, (Blk.new W _ _).cellv rfl, h2.below La, fun _ k hk => by have := o2 k hk; simp; omega⟩
set_option maxRecDepth 100000 in
set_option maxHeartbeats 4000000 in
theorem ahead_c {w : World} {s : Strm} {cv : Value} {zs : Array Value} (hzs : zs = strmV s cv) (hF : Fit s) (hC : CellsAt w cv s.cells) :
    Calls Try.prog 18 #[.agg zs] w fun e w' => ∃ v, e = .returned v ∧ Ow w' w.heap.size v (aheadS s) ∧ Below w.heap.size w w' := by
  obtain ⟨w1, hw1⟩ : ∃ w1, w1 = w.alloc (.cells zs 25) := ⟨_, rfl⟩
  have L1 := hid (show Below w.heap.size w w1 by rw [hw1]; exact (Below.refl _ w).alloc (Nat.le_refl _) _)
  have F1 := hid (show Fn w1 w.heap.size 25 69 (sf s cv) by rw [hw1, hzs]; exact Fn.arr w _ 69 _)
  have hw1s := hid (show w.heap.size < w1.heap.size from Fn.lt F1.out)
  have HF := hid hF
  have HC := hid hC
  obtain ⟨p, cap, rfl, hm, hcells⟩ := hC
  have hC6 := hid hcells
  clear hzs hcells hF
  obtain ⟨mk, hmk⟩ : ∃ mk, mk = markB s := ⟨_, rfl⟩
  have hmk' := hid hmk
  have W2 := hid (show Ow (w1.alloc (.cells #[.int .u8 (ub mk)] 5)) w.heap.size (.slice (some ⟨w1.heap.size, 0, none⟩) 1 1) [mk] from
    ⟨rfl, Or.inr ⟨w1.heap.size, 1, #[.int .u8 (ub mk)], rfl, by have := L1.out.size; omega, Blk.new w1 _ _, Nat.le_refl _, by unfold maxLen; omega, rfl, rfl⟩⟩)
  have L2 := hid (show Below w.heap.size w (w1.alloc (.cells #[.int .u8 (ub mk)] 5)) from L1.out.alloc L1.out.size _)
  have F2 := hid (F1.out.alloc (.cells #[.int .u8 (ub mk)] 5))
  go_enter Try.func18, Try.ntmps18
  go_upto_region 1 with fail
  rw [← hw1]
  have c0 := (strm_cells F1.out).1
  clear hw1 hmk
  go_upto_region 2 with fail
  obtain ⟨w2, hw2⟩ : ∃ w2, w2 = w1.alloc (.cells #[.int .u8 (ub mk)] 5) := ⟨_, rfl⟩
  rw [← hw2] at W2 L2 F2
  obtain ⟨d0, d1, d2, d3, d68⟩ := strm_cells F2.out
  have key : (s.inc = true ∧ ub mk = 73) ∨ (s.inc = false ∧ ub mk = 70) := by
    by_cases hinc : s.inc = true
    · exact Or.inl ⟨hinc, by rw [hmk'.out]; unfold markB; rw [if_pos hinc]; rfl⟩
    · exact Or.inr ⟨by simpa using hinc, by rw [hmk'.out]; unfold markB; rw [if_neg hinc]; rfl⟩
  rcases key with ⟨hinc, e⟩ | ⟨hinc, e⟩
  all_goals
    have e0 := (strm_cells (F1.out.alloc (.cells #[.int .u8 70] 5))).1
    rw [hinc] at e0
    rw [e] at hw2
    clear hinc e
    go_upto_region 4 with fail
    first | rw [← hw2] | trace_state
    clear hw2
    go_upto_block 0 with fail
    obtain ⟨w3, hw3⟩ : ∃ w3, w3 = w2.alloc (.cells #[.string (str s.set), .string (str s.frm), .string (str s.til)] 9) := ⟨_, rfl⟩
    have L3 := hid (show Below w2.heap.size w2 w3 from by rw [hw3]; exact (Below.refl _ w2).alloc (Nat.le_refl _) _)
    have N3 := hid (show ∀ k, k < 3 → w3.cell? ⟨w2.heap.size, k, none⟩ = some (.string (str (nameK s k))) from by
      have B := Blk.new w2 #[.string (str s.set), .string (str s.frm), .string (str s.til)] 9
      intro k hk
      rw [hw3]
      have : k = 0 ∨ k = 1 ∨ k = 2 := by omega
      rcases this with rfl | rfl | rfl
      · exact B.cellv rfl
      · exact B.cellv rfl
      · exact B.cellv rfl)
    have hs23 := hid (show w2.heap.size < w3.heap.size from by rw [hw3]; simp)
    have O3 := hid (show Ow w3 w.heap.size (.slice (some ⟨w1.heap.size, 0, none⟩) 1 1) (preK s 0) from by
      have := W2.out.below L3.out
      rw [hmk'.out] at this
      exact this)
    rw [← hw3]
    clear hw3
    go_cut [3] from 22 to 30 (fun v3 wr => Hid (Ow wr w.heap.size v3 (preK s 3)) ∧ Hid (Below w3.heap.size w3 wr))
    case first =>
      go_upto_region 5 with fail
      go_loopg [3, 22] 3 (fun g v3 v22 wr => ∃ k : Nat, v22 = .int .i64 k ∧ g = 3 - k ∧ k ≤ 3 ∧ Hid (Ow wr w.heap.size v3 (preK s k)) ∧ Hid (Below w3.heap.size w3 wr))
      case atStart => exact ⟨0, rfl, rfl, by omega, O3, hid (Below.refl _ _)⟩
      case round =>
        obtain ⟨k, rfl, hg, hk, O, L⟩ := hrel
        by_cases hlt : k < 3
        · have hlti : (k : Int) < 3 := by omega
          have ck : wr.cell? ⟨w2.heap.size, k, none⟩ = some (.string (str (nameK s k))) := (L.out.cell (p := ⟨w2.heap.size, k, none⟩) hs23.out).trans (N3.out k hlt)
          obtain ⟨S, hS⟩ : ∃ S, S = str (nameK s k) := ⟨_, rfl⟩
          have hun := hid (show unstr S = nameK s k by rw [hS, unstr_str])
          have hsz := hid (show S.size ≤ 1000 by rw [hS, str_size]; exact HF.out.name k)
          rw [← hS] at ck
          have hcv : (convert 9 28 (.string S)).run Try.prog wr = .ok (.slice (some ⟨wr.heap.size, 0, none⟩) S.size (grownCap wr S.size 0 5)) (Go.Lib.bytesWorld wr 5 S) := conv_bts wr S
          obtain ⟨gc, hgc⟩ : ∃ gc, gc = grownCap wr S.size 0 5 := ⟨_, rfl⟩
          have BS := hid (bts_bytes wr S (by have := hsz.out; omega))
          have LS := hid (bts_below wr S)
          obtain ⟨wS, hwS⟩ : ∃ wS, wS = Go.Lib.bytesWorld wr 5 S := ⟨_, rfl⟩
          rw [← hgc, ← hwS] at hcv
          rw [← hgc, ← hwS] at BS
          rw [← hwS] at LS
          have OS := hid (O.out.below LS.out)
          have hpl := hid (show (preK s k).length ≤ 99000 from by have := HF.out.pre k; omega)
          have CP := hid (putString_c OS.out.bytes BS.out hpl.out (by rw [hun.out]; have := HF.out.name k; omega))
          rw [hun.out] at CP
          clear hS hgc hwS
          go_wp2_with (go_at_call 37; refine CP.out.mono ?_; rintro e w5 ⟨v5, rfl, O5, L5⟩; have O5' := hid O5; have L5' := hid L5; clear O5 L5)
          go_roundg (3 - (k + 1))
          case measure => omega
          case rel => exact ⟨k + 1, by go_num, rfl, by omega, hid (O5'.out.lower (by have := L.out.size; have := L3.out.size; have := L2.out.size; have := LS.out.size; omega)), hid (L.out.trans ((LS.out.trans (L5'.out.mono LS.out.size)).mono L.out.size))⟩
        · have hlti : ¬ (k : Int) < 3 := by omega
          have O' := hid (show Ow wr w.heap.size u3 (preK s 3) from by rw [show 3 = k by omega]; exact O.out)
          go_wp2
          go_meet
          case rel => exact ⟨O', L⟩
    case rest =>
      obtain ⟨O4, L4⟩ := hcut
      obtain ⟨p3, n3, c3, rfl⟩ := O4.out.bytes.form
      obtain ⟨n, hn⟩ : ∃ n, n = s.cells.length := ⟨_, rfl⟩
      have hn' := hid hn
      have LW := hid (show Below w2.heap.size w2 wc from L3.out.trans (L4.out.mono L3.out.size))
      have F4 := hid (F2.out.below LW.out (Fn.lt F2.out))
      rw [← hn] at F4
      have hbw := hid (Fn.lt F4.out)
      have hbw2 := hid (show w.heap.size ≤ wc.heap.size from Nat.le_of_lt hbw.out)
      have BB := hid (bytes_range HF.out.base hbw.out (strm_base F4.out))
      have BG := hid (bytes_range HF.out.goal hbw.out (strm_goal F4.out))
      have C68 := hid ((strm_cells F4.out).2.2.2.2)
      have hfl := hid (show (flat (cat3 s) 3).length ≤ 90000 from by have := cat3_len HF.out; omega)
      have hn100 : n ≤ 100 := by rw [hn]; exact HF.out.cells
      have hwn : IntKind.u64.wrap (n : Int) = (n : Int) := by simp [IntKind.wrap, IntKind.bits, IntKind.signed]; omega
      have hrefl : ∀ w : World, Below w.heap.size w w := fun w => Below.refl _ _
      rw [← hn] at hm hC6
      clear hn
      go_upto_region 9 with fail
      refine region_rel (n := 66) (B := fun w' => Below wc.heap.size wc w') (E := fun w w' => Below w.heap.size w w') (φ := aheadPhi w.heap.size (.slice p3 n3 c3) (.slice p n cap) s n) (by kernel_rfl) (by kernel_rfl) (by kernel_rfl) (by kernel_rfl) aheadPhi_mono hrefl ((Below.refl _ _).drew) ?hop ?hend
      case hop =>
        refine And.intro ?_ ?_
        · intro V ρ W hB hc hf hd hs
          have s3 : ρ (.tmp 3) = .slice p3 n3 c3 := hs 3 (by kernel_rfl)
          clear hd hs
          rw [BigFrame.run_move (.tmp 3) rfl]
          exact ⟨s3, hB, hrefl W⟩
        refine And.intro ?_ ?_
        · intro V ρ W hB hc hf hd hs
          have s1 : ρ (.tmp 1) = .pointer (some ⟨w.heap.size, 0, none⟩) := hs 1 (by kernel_rfl)
          clear hd hs
          refine outcome_value (v := .pointer (some ⟨w.heap.size, 4, none⟩)) ?_ ⟨rfl, hB, hrefl W⟩
          simp [go_sem, s1]
        refine And.intro ?_ ?_
        · intro V ρ W hB hc hf hd hs
          have s32 : ρ (.tmp 32) = .pointer (some ⟨w.heap.size, 4, none⟩) := (hd 1 (by kernel_rfl) 32 (by kernel_rfl)).2.trans (hd 1 (by kernel_rfl) 32 (by kernel_rfl)).1
          clear hd hs
          exact outcome_value (v := .slice (some ⟨w.heap.size, 4, none⟩) 32 32) (by simp [go_sem, slicedAt, s32]) ⟨rfl, hB, hrefl W⟩
        refine And.intro ?_ ?_
        · intro V ρ W hB hc hf hd hs
          have s1 : ρ (.tmp 1) = .pointer (some ⟨w.heap.size, 0, none⟩) := hs 1 (by kernel_rfl)
          clear hd hs
          refine outcome_value (v := .pointer (some ⟨w.heap.size, 36, none⟩)) ?_ ⟨rfl, hB, hrefl W⟩
          simp [go_sem, s1]
        refine And.intro ?_ ?_
        · intro V ρ W hB hc hf hd hs
          have s34 : ρ (.tmp 34) = .pointer (some ⟨w.heap.size, 36, none⟩) := (hd 3 (by kernel_rfl) 34 (by kernel_rfl)).2.trans (hd 3 (by kernel_rfl) 34 (by kernel_rfl)).1
          clear hd hs
          exact outcome_value (v := .slice (some ⟨w.heap.size, 36, none⟩) 32 32) (by simp [go_sem, slicedAt, s34]) ⟨rfl, hB, hrefl W⟩
        refine And.intro ?_ ?_
        · intro V ρ W hB hc hf hd hs
          have s31 : ρ (.tmp 31) = .slice p3 n3 c3 := (hd 0 (by kernel_rfl) 31 (by kernel_rfl)).2.trans (hd 0 (by kernel_rfl) 31 (by kernel_rfl)).1
          have s33 : ρ (.tmp 33) = .slice (some ⟨w.heap.size, 4, none⟩) 32 32 := (hd 2 (by kernel_rfl) 33 (by kernel_rfl)).2.trans (hd 2 (by kernel_rfl) 33 (by kernel_rfl)).1
          have s35 : ρ (.tmp 35) = .slice (some ⟨w.heap.size, 36, none⟩) 32 32 := (hd 4 (by kernel_rfl) 35 (by kernel_rfl)).2.trans (hd 4 (by kernel_rfl) 35 (by kernel_rfl)).1
          clear hd hs
          have hlt4 := hid (O4.out.lt)
          refine outcome_value (v := .slice (some ⟨W.heap.size, 0, none⟩) 3 3) (w := W.alloc (.cells #[.slice p3 n3 c3, .slice (some ⟨w.heap.size, 4, none⟩) 32 32, .slice (some ⟨w.heap.size, 36, none⟩) 32 32] 28)) (by simp [go_sem, s31, s33, s35]) ⟨⟨W.heap.size, rfl, ?_⟩, hB.alloc hB.size _, (Below.refl _ W).alloc (Nat.le_refl _) _⟩
          exact parts3 (O4.out.bytes.below hB) ((BB.out).below hB) ((BG.out).below hB) (fun k hk => Nat.lt_of_lt_of_le (O4.out.lt k hk).2 hB.size) (fun k hk => by have : w.heap.size = k := Option.some.inj hk; have := hbw.out; have := hB.size; omega) (fun k hk => by have : w.heap.size = k := Option.some.inj hk; have := hbw.out; have := hB.size; omega)
        refine And.intro ?_ ?_
        · intro V ρ W hB hc hf hd hs
          obtain ⟨f36, s36⟩ := hd 5 (by kernel_rfl) 36 (by kernel_rfl)
          clear hd hs
          obtain ⟨g, e36, hPP⟩ := f36
          rw [e36] at s36
          refine outcome_enter (w := W) (f := 39) (args := #[.slice (some ⟨g, 0, none⟩) 3 3]) (by simp [go_sem, hf, s36]) ?_
          refine (concat_c hPP (by decide) (by decide) (Nat.le_trans hfl.out (by decide))).mono ?_
          rintro e w2 ⟨v2, rfl, hO, hL⟩
          exact ⟨v2, rfl, hO.lower (Nat.le_trans hbw2.out hB.size), hB.trans (hL.mono hB.size), hL⟩
        refine And.intro ?_ ?_
        · intro V ρ W hB hc hf hd hs
          have s1 : ρ (.tmp 1) = .pointer (some ⟨w.heap.size, 0, none⟩) := hs 1 (by kernel_rfl)
          clear hd hs
          refine outcome_value (v := .pointer (some ⟨w.heap.size, 68, none⟩)) ?_ ⟨rfl, hB, hrefl W⟩
          simp [go_sem, s1]
        refine And.intro ?_ ?_
        · intro V ρ W hB hc hf hd hs
          have s38 : ρ (.tmp 38) = .pointer (some ⟨w.heap.size, 68, none⟩) := (hd 7 (by kernel_rfl) 38 (by kernel_rfl)).2.trans (hd 7 (by kernel_rfl) 38 (by kernel_rfl)).1
          clear hd hs
          have k68 : W.cell? ⟨w.heap.size, 68, none⟩ = some (.slice p n cap) := (hB.cell (p := ⟨w.heap.size, 68, none⟩) hbw.out).trans C68.out
          exact outcome_value (v := .slice p n cap) (by simp [go_sem, s38, k68]) ⟨rfl, hB, hrefl W⟩
        refine And.intro ?_ ?_
        · intro V ρ W hB hc hf hd hs
          have s39 : ρ (.tmp 39) = .slice p n cap := (hd 8 (by kernel_rfl) 39 (by kernel_rfl)).2.trans (hd 8 (by kernel_rfl) 39 (by kernel_rfl)).1
          clear hd hs
          refine outcome_value (v := .int .i64 (n : Int)) ?_ ⟨rfl, hB, hrefl W⟩
          simp [go_sem, s39]
        refine And.intro ?_ ?_
        · intro V ρ W hB hc hf hd hs
          have s40 : ρ (.tmp 40) = .int .i64 (n : Int) := (hd 9 (by kernel_rfl) 40 (by kernel_rfl)).2.trans (hd 9 (by kernel_rfl) 40 (by kernel_rfl)).1
          clear hd hs
          exact outcome_value (v := .int .u64 (n : Int)) (by simp [go_sem, s40, hwn]) ⟨rfl, hB, hrefl W⟩
        refine And.intro ?_ ?_
        · intro V ρ W hB hc hf hd hs
          obtain ⟨f37, s37⟩ := hd 6 (by kernel_rfl) 37 (by kernel_rfl)
          have s41 : ρ (.tmp 41) = .int .u64 (n : Int) := (hd 10 (by kernel_rfl) 41 (by kernel_rfl)).2.trans (hd 10 (by kernel_rfl) 41 (by kernel_rfl)).1
          clear hd hs
          refine outcome_enter (w := W) (f := 38) (args := #[V 6, .int .u64 (n : Int)]) (by simp [go_sem, hf, s37, s41]) ?_
          refine (put_c (Ow.bytes f37) (by have := hfl.out; omega) n (by omega)).mono ?_
          rintro e w2 ⟨v2, rfl, hO, hL⟩
          exact ⟨v2, rfl, hO.lower (Nat.le_trans hbw2.out hB.size), hB.trans (hL.mono hB.size), hL⟩
        refine And.intro ?_ ?_
        · intro V ρ W hB hc hf hd hs
          obtain ⟨f42, s42⟩ := hd 11 (by kernel_rfl) 42 (by kernel_rfl)
          clear hd hs
          rw [BigFrame.run_assign (.tmp 42) rfl, s42]
          exact ⟨f42, hB, hrefl W⟩
        exact trivial
      case hend =>
        intro V w5 hB5 hV
        have v12 : Ow w5 w.heap.size (V 12) (flat (cat3 s) 3 ++ leb n) := hV 12 (by decide)
        have H12 := hid (show Ow w5 w.heap.size (V 12) (headB s) from by rw [← cat3_head, ← hn'.out]; exact v12)
        have HB5 := hid hB5
        simp only [lexF, Act.put, List.setIfInBounds_toArray, List.set_cons_zero, List.set_cons_succ]
        clear hV v12 hB5 hfl O4 BB BG hwn hrefl
        simp only [Nat.reduceAdd]
        obtain ⟨vh, hvh⟩ : ∃ vh, vh = V 12 := ⟨_, rfl⟩
        rw [← hvh] at H12 ⊢
        clear hvh
        have c68 : w5.cell? ⟨w.heap.size, 68, none⟩ = some (.slice p n cap) := (HB5.out.cell (p := ⟨w.heap.size, 68, none⟩) hbw.out).trans C68.out
        have L5 := hid (show Below w.heap.size w w5 from (L2.out.trans (LW.out.mono L2.out.size)).trans (HB5.out.mono hbw2.out))
        have hhl := hid (show (headB s).length ≤ 4100 from by rw [← cat3_head]; have := cat3_len HF.out; have := lebF_length 10 s.cells.length; unfold leb; simp; omega)
        clear C68 LW F4 hbw
        go_upto_region 11 with fail
        go_loopg [3, 46] n (fun g v3 v46 wr => ∃ i : Nat, v46 = .int .i64 i ∧ g = n - i ∧ i ≤ n ∧ Hid (Ow wr w.heap.size v3 (headB s ++ cellsB (s.cells.take i))) ∧ Hid (Below w.heap.size w wr))
        case atStart => exact ⟨0, rfl, rfl, Nat.zero_le _, hid (by simpa [cellsB] using H12.out), L5⟩
        case round =>
          obtain ⟨i, rfl, hg, hi, O, L⟩ := hrel
          by_cases hlt : i < n
          · have hlti : (i : Int) < (n : Int) := by omega
            obtain ⟨b, off, e, hbl, hcap, hcell⟩ := hC6.out (by omega)
            cases e
            obtain ⟨vb, k1, k2, k3⟩ := hcell i hlt
            obtain ⟨ha0, ha1, hal⟩ := HF.out.each i (by rw [← hn'.out]; exact hlt)
            obtain ⟨x, hx⟩ : ∃ x : W8, x = BitVec.ofInt 8 (cellAt s.cells i).1 := ⟨_, rfl⟩
            have hxa : (cellAt s.cells i).1 = ub x := by rw [hx]; unfold ub; rw [BitVec.toNat_ofInt]; omega
            obtain ⟨Bc, hBc⟩ : ∃ Bc, Bc = (cellAt s.cells i).2 := ⟨_, rfl⟩
            rw [hxa] at k1
            rw [← hBc] at k3 hal
            obtain ⟨pb, cb, rfl⟩ := k3.len
            obtain ⟨l, hl⟩ : ∃ l, l = Bc.length := ⟨_, rfl⟩
            obtain ⟨mb, hmb⟩ : ∃ mb : W8, mb = if Bc.length = 0 then 72 else 67 := ⟨_, rfl⟩
            have hnext := hid (show cellsB (s.cells.take (i + 1)) = cellsB (s.cells.take i) ++ ([x, mb] ++ Bc) from by
              have hi' : i < s.cells.length := by rw [← hn'.out]; exact hlt
              rw [List.take_succ_eq_append_getElem hi', cellsB_append]
              have : s.cells[i] = cellAt s.cells i := by unfold cellAt; rw [List.getD_eq_getElem?_getD, List.getElem?_eq_getElem hi']; rfl
              rw [this, hx, hmb, hBc]
              show _ ++ (cellB _ ++ []) = _
              rw [List.append_nil]; rfl)
            have hlenT := hid (show (headB s ++ cellsB (s.cells.take i)).length ≤ 50000 from by
              have := cellsB_le HF.out i (by rw [← hn'.out]; omega)
              have := hhl.out
              rw [List.length_append]; omega)
            have d1 : wr.cell? ⟨b, off + i * 2, none⟩ = some (.int .i64 (ub x)) := (L.out.cell (p := ⟨b, off + i * 2, none⟩) hbl).trans k1
            have d2 : wr.cell? ⟨b, off + i * 2 + 1, none⟩ = some (.slice pb Bc.length cb) := (L.out.cell (p := ⟨b, off + i * 2 + 1, none⟩) hbl).trans k2
            rw [← hl] at d2 hmb
            have KB := hid (hl ▸ k3 : Bytes w (.slice pb l cb) Bc)
            have hl' := hid hl
            have hal' := hid hal
            obtain ⟨hx0, hx1⟩ := ub_bd x
            have hcapi : (n : Int) ≤ (cap : Int) := by omega
            have key : (((l : Int) == 0) = true ∧ ub mb = 72) ∨ (((l : Int) == 0) = false ∧ ub mb = 67) := by
              by_cases h0 : l = 0
              · exact Or.inl ⟨by rw [h0]; rfl, by rw [hmb, if_pos h0]; rfl⟩
              · exact Or.inr ⟨by simp; omega, by rw [hmb, if_neg h0]; rfl⟩
            clear hx hxa hBc hl hmb k1 k2 k3 hal ha0 ha1 hcell
            rcases key with ⟨hl0, em⟩ | ⟨hl0, em⟩
            all_goals
              go_upto_region 16 with fail
              rw [← em]
              clear em
              have hwx : IntKind.u8.wrap (ub x) = ub x := by simp [IntKind.wrap, IntKind.bits, IntKind.signed]; omega
              obtain ⟨W0, hW0⟩ : ∃ W0, W0 = wr.alloc (.cells #[.int .i64 (ub x), .slice pb l cb] 44) := ⟨_, rfl⟩
              have B7 := hid (show Blk W0 wr.heap.size #[.int .i64 (ub x), .slice pb l cb] 44 by rw [hW0]; exact Blk.new wr _ _)
              have OA := hid (show Ow (W0.alloc (.cells #[.int .u8 (ub x), .int .u8 (ub mb)] 5)).drew w.heap.size u3 (headB s ++ cellsB (s.cells.take i)) by rw [hW0]; exact Ow.alloc (O.out.alloc _) _)
              have LA := hid (show Below w.heap.size w (W0.alloc (.cells #[.int .u8 (ub x), .int .u8 (ub mb)] 5)).drew by rw [hW0]; exact ((L.out.alloc L.out.size _).alloc (by have := L.out.size; simp; omega) _).drew)
              have hb7 := hid (show w.heap.size ≤ wr.heap.size ∧ ∀ k, u3.ownBlock = some k → k < wr.heap.size from ⟨L.out.size, fun k hk => (O.out.lt k hk).2⟩)
              have PB := hid (Bytes.lit W0 #[.int .u8 (ub x), .int .u8 (ub mb)] [x, mb] rfl (by simp))
              have g0 : W0.cell? ⟨wr.heap.size, 0, none⟩ = some (.int .i64 (ub x)) := B7.out.cellv rfl
              have g1 : W0.cell? ⟨wr.heap.size, 1, none⟩ = some (.slice pb l cb) := B7.out.cellv rfl
              have hw7 := B7.out.lt
              rw [← hW0]
              clear hW0
              go_region_held3 (fun W => W.cell? ⟨wr.heap.size, 0, none⟩ = some (.int .i64 (ub x)) ∧ W.cell? ⟨wr.heap.size, 1, none⟩ = some (.slice pb l cb)) (first | (exact ⟨by assumption, by assumption⟩) | go_keep)
                ((first
                  | (refine step_app rfl (.tmp 54) (.tmp 59) rfl (by rfl) (by rfl) OA.out PB.out (by have := hlenT.out; simp only [List.length_cons, List.length_nil]; omega) LA.out.size ?_; intro v6 w6 O6 M6 e6; have L6 := hid (M6.own_below OA.out LA.out.size LA.out); have B6 := M6.blk (B7.out.alloc _) (fun e => by have := hb7.out.2 _ e; omega); have q0 := B6.cellv (i := 0) rfl; have q1 := B6.cellv (i := 1) rfl; have O6' := hid O6; have B6' := hid B6; have hv6 := hid (show ∀ k, v6.ownBlock = some k → k ≠ wr.heap.size from fun k hk e => by rcases e6 with e6 | e6; (have := hb7.out.2 k (e6 ▸ hk); omega); (rw [e6] at hk; have h6 : W0.heap.size + 1 = k := (by have h := Option.some.inj hk; simpa using h); omega)); clear O6 M6 e6 B6)
                  | (refine step_app rfl (.tmp 60) (.tmp 62) rfl (by rfl) (by rfl) O6'.out (KB.out.below L6.out) (by have h1 := hlenT.out; have h2 := hal'.out; simp only [List.length_append, List.length_cons, List.length_nil] at h1 h2 ⊢; omega) L6.out.size ?_; intro v8 w8 O8 M8 e8; have L8 := hid (M8.own_below O6'.out L6.out.size L6.out); have B8 := M8.blk B6'.out (fun e => hv6.out _ e rfl); have r0 := B8.cellv (i := 0) rfl; have r1 := B8.cellv (i := 1) rfl; have O8' := hid O8; clear O8 M8 e8 B8)))
              have O9 := hid (show Ow w8 w.heap.size v8 (headB s ++ cellsB (s.cells.take (i + 1))) from by
                have := O8'.out
                rw [hnext.out]
                simpa [List.append_assoc] using this)
              go_wp2
              go_roundg (n - (i + 1))
              case measure => omega
              case rel => exact ⟨i + 1, by go_num, rfl, by omega, O9, L8⟩
          · have hlti : ¬ (i : Int) < (n : Int) := by omega
            have O9 := hid (show Ow wr w.heap.size u3 (aheadS s) from by
              have := O.out
              rw [List.take_of_length_le (by rw [← hn'.out]; omega)] at this
              exact this)
            go_wp2
            go_ret
            exact ⟨_, rfl, O9.out, L.out⟩
end Go.Proofs.Ytpbkdjnogjmfcaa
