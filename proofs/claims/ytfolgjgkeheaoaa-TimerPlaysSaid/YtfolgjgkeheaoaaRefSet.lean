/- The document's Set. -/
import Derived.Test.YtfolgjgkeheaoaaRefDue2
namespace Go.Proofs.Ytfolgjgkeheaoaa
open Go.RowKit Go.ChangeMaps

set_option maxRecDepth 100000 in
set_option maxHeartbeats 2000000 in
theorem ahead_c (w : World) (a b : Ent) :
    Calls Try.prog 22 #[.agg #[.int .u32 a.1, .int .u64 a.2], .agg #[.int .u32 b.1, .int .u64 b.2]] w fun e w' => e = .returned (.bool (lt a b)) ∧ Below w.heap.size w w' := by
  go_enter Try.func22, Try.ntmps22
  go_wp2
  all_goals
    go_ret
    refine ⟨ret_bool ?_, ((Below.refl _ _).alloc (Nat.le_refl _) _).alloc (by simp) _⟩
    rw [Bool.eq_iff_iff, lt_iff]
    simp
    try omega
theorem ins_skip {e : Ent} {a : List Ent} (h : ∀ p ∈ a, lt e p = false) (b : List Ent) : ins e (a ++ b) = a ++ ins e b := by
  induction a with
  | nil => rfl
  | cons x xs ih =>
    have hx := h x List.mem_cons_self
    show (if lt e x then e :: x :: (xs ++ b) else x :: ins e (xs ++ b)) = _
    rw [if_neg (by rw [hx]; simp), ih (fun p hp => h p (List.mem_cons_of_mem _ hp))]; rfl
theorem prs_one (x : Ent) : prs [x] = [.int .u32 x.1, .int .u64 x.2] := rfl
/-- A slice of pairs of the call's own. -/
def OwnP (w : World) (base : Nat) (v : Value) (m : List Ent) : Prop := w.ownsRow base 53 2 v m.length (prs m)
theorem OwnP.shape {w : World} {base : Nat} {v : Value} {m : List Ent} (h : OwnP w base v m) : ∃ q c, v = .slice q m.length c := by
  rcases h.2 with ⟨e, e'⟩ | ⟨g', cap', cur, e, _⟩
  · exact ⟨none, 0, by rw [e, e']⟩
  · exact ⟨_, _, e⟩
theorem OwnP.grown {w w' : World} {base : Nat} {v v' : Value} {m : List Ent} {x : Ent} {o : Obj} (h : OwnP w base v m) (ho : w'.ownsRow base 53 2 v' (m.length + 1) (prs m ++ [.int .u32 x.1, .int .u64 x.2])) (hg : (w.alloc o).grownBy w' v.ownBlock) :
    OwnP w' base v' (m ++ [x]) ∧ Mod (fun k => base ≤ k) w w' := by
  refine ⟨by unfold OwnP; rw [List.length_append, prs_append]; exact ho, ((Mod.refl (fun k => base ≤ k) w).alloc o).trans (Mod.of_grown hg (fun kk hk => ?_))⟩
  rcases h.2 with ⟨e, _⟩ | ⟨g', cap', cur, e, hge, _⟩
  · rw [e] at hk; cases hk
  · rw [e] at hk; cases hk; exact hge

theorem OwnP.grownP {w w' : World} {base n : Nat} {v v' : Value} {m : List Ent} {x : Ent} {o : Obj} (hn : m.length = n) (h : w.ownsRow base 53 2 v n (prs m)) (ho : w'.ownsRow base 53 2 v' (n + 1) (prs m ++ [.int .u32 x.1, .int .u64 x.2])) (hg : (w.alloc o).grownBy w' v.ownBlock) :
    OwnP w' base v' (m ++ [x]) ∧ Mod (fun k => base ≤ k) w w' := by
  subst hn
  exact OwnP.grown (m := m) h ho hg
theorem OwnP.grownD {w w' : World} {base : Nat} {v v' : Value} {m : List Ent} {x : Ent} {o : Obj} (h : OwnP w base v m) (ho : w'.ownsRow base 53 2 v' (m.length + 1) (prs m ++ [.int .u32 x.1, .int .u64 x.2])) (hg : (w.alloc o).drew.grownBy w' v.ownBlock) :
    OwnP w' base v' (m ++ [x]) ∧ Mod (fun k => base ≤ k) w w' := h.grown ho ⟨hg.os, hg.tape, hg.output, hg.size, hg.block⟩
theorem news_allocD (w : World) (cs : Array Value) (T : TypeId) : ∀ j u, cs.toList[j]? = some u → (w.alloc (.cells cs T)).drew.cell? ((⟨w.heap.size, 0, none⟩ : Addr).add j) = some u := fun j u h => news_alloc w cs T j u h
theorem OwnP.allocD {w : World} {base : Nat} {v : Value} {m : List Ent} (h : OwnP w base v m) (o : Obj) : (w.alloc o).drew.ownsRow base 53 2 v m.length (prs m) := World.ownsRow.alloc h o
theorem OwnP.allocN {w : World} {base : Nat} {v : Value} {m : List Ent} (h : OwnP w base v m) (o : Obj) : (w.alloc o).ownsRow base 53 2 v m.length (prs m) := World.ownsRow.alloc h o

set_option maxRecDepth 100000 in
set_option maxHeartbeats 4000000 in
theorem refSet_c {w : World} {v : Value} {m : List Ent} (h : Lst w v m) (hm : m.length ≤ 1000) (id at_ : Int) :
    Calls Try.prog 14 #[v, .int .u32 id, .int .u64 at_] w fun e w' => ∃ v', e = .returned (.tuple #[v', .int .i64 (if hasL m id = false ∧ 1000 ≤ m.length then 7 else 0)]) ∧ Lst w' v' (if hasL m id = false ∧ 1000 ≤ m.length then m else setL m id at_) ∧ Below w.heap.size w w' := by
  obtain ⟨i0, hi, hz0, hz1, hz2⟩ := info_parts info53
  have HL := hid h
  obtain ⟨p, cap, rfl, h1, h2, _, _⟩ := h
  by_cases hf : hasL m id = false ∧ 1000 ≤ m.length
  · rw [if_pos hf, if_pos hf]
    obtain ⟨f1, f2⟩ := hf
    go_enter Try.func14, Try.ntmps14
    go_wp2_with (go_at_call 16; refine (refCancel_c HL.out (by omega) id).mono ?_; rintro e w1 ⟨v1, rfl, L1, B1⟩; rw [f1]; have L1' := hid L1; have B1' := hid B1; clear L1 B1)
    go_ret2
    exact ⟨_, rfl, HL.out.below B1'.out, B1'.out⟩
  · rw [if_neg hf, if_neg hf]
    have HF := hid hf
    have hf2 : hasL m id = true ∨ m.length < 1000 := by
      by_cases hh : hasL m id = true
      · exact Or.inl hh
      · right
        have : hasL m id = false := by simpa using hh
        by_cases h5 : 1000 ≤ m.length
        · exact absurd ⟨this, h5⟩ hf
        · omega
    clear hf
    go_enter Try.func14, Try.ntmps14
    have hrl : (without m id).length ≤ 1000 := Nat.le_trans (List.length_filter_le _ _) hm
    obtain ⟨r, hr⟩ : ∃ r, r = without m id := ⟨_, rfl⟩
    rw [← hr] at hrl
    have HR := hid hr
    clear hr
    cases hb : hasL m id
    all_goals
      rw [hb] at hf2
      simp at hf2
      go_upto_region 8 with (go_at_call 16; refine (refCancel_c HL.out (by omega) id).mono ?_; rintro e w1 ⟨v1, rfl, L1, B1⟩; rw [hb]; have L1' := hid L1; have B1' := hid B1; clear L1 B1)
      obtain ⟨q1, c1, e1⟩ : ∃ q c, v1 = .slice q r.length c := by obtain ⟨q, c, e, _⟩ := L1'.out; exact ⟨q, c, by rw [HR.out]; exact e⟩
      subst e1
      have LR := hid (show Lst w1 (.slice q1 r.length c1) r by rw [HR.out] at *; exact L1'.out)
      clear L1'
      obtain ⟨_, _, e1, _, _, hr3, hr4⟩ := LR.out
      cases e1
      have R3 := hid hr3; have R4 := hid hr4
      clear hr3 hr4
      obtain ⟨x, hx⟩ : ∃ x : Ent, x = (id, at_) := ⟨_, rfl⟩
      have hx1 : id = x.1 := by rw [hx]
      have hx2 : at_ = x.2 := by rw [hx]
      have HX := hid hx
      clear hx
      subst hx1 hx2
      obtain ⟨w2, hw2⟩ : ∃ w2, w2 = (w1.alloc (.cells #[.int .u32 x.1, .int .u64 x.2] 53)).alloc (.cells #[] 53) := ⟨_, rfl⟩
      have L2 := hid (show Below w1.heap.size w1 w2 by rw [hw2]; exact ((Below.refl _ _).alloc (Nat.le_refl _) _).alloc (by simp) _)
      have X2 := hid (show Blk w2 w1.heap.size #[.int .u32 x.1, .int .u64 x.2] 53 by rw [hw2]; exact (Blk.new w1 #[.int .u32 x.1, .int .u64 x.2] 53).alloc _)
      have O2 := hid (show OwnP w2 (w1.heap.size + 1) (.slice (some ⟨w1.heap.size + 1, 0, none⟩) 0 0) [] from ⟨rfl, Or.inr ⟨w1.heap.size + 1, 0, #[], rfl, Nat.le_refl _, by rw [hw2]; have := Blk.new (w1.alloc (.cells #[.int .u32 x.1, .int .u64 x.2] 53)) #[] 53; rw [show (w1.alloc (.cells #[.int .u32 x.1, .int .u64 x.2] 53)).heap.size = w1.heap.size + 1 by simp] at this; exact this, Nat.le_refl _, Nat.zero_le _, rfl, rfl⟩⟩)
      have S2 : w1.heap.size + 1 ≤ w2.heap.size := by rw [hw2]; simp
      rw [← hw2]
      clear hw2
      go_wp2_with fail
      go_loopg [11, 12, 13] r.length (fun g v11 v12 v13 wr => ∃ (k : Nat) (put : Bool) (out : List Ent), v13 = .int .i64 k ∧ v12 = .bool put ∧ g = r.length - k ∧ k ≤ r.length ∧ out.length ≤ k + 1 ∧ Hid (put = false → out = r.take k ∧ ∀ p ∈ r.take k, lt x p = false) ∧ Hid (put = true → out ++ r.drop k = ins x r) ∧ Hid (OwnP wr (w1.heap.size + 1) v11 out) ∧ Hid (Below (w1.heap.size + 1) w2 wr))
      case atStart => exact ⟨0, false, [], rfl, rfl, rfl, by omega, by simp, hid (fun _ => ⟨rfl, fun p hp => by simp at hp⟩), hid (fun h => by cases h), O2, hid (Below.refl _ _)⟩
      case round =>
        obtain ⟨k, put, out, rfl, rfl, hg, hk, hol, F, T, O, L⟩ := hrel
        have LW := hid (show Below w1.heap.size w1 wr from L2.out.trans (L.out.mono (by omega)))
        have LS := L.out.size
        obtain ⟨q, c, e⟩ := O.out.shape
        subst e
        have y0 : wr.cell? ⟨w1.heap.size, 0, none⟩ = some (.int .u32 x.1) := (L.out.cell (by simp)).trans (X2.out.cellv rfl)
        have y1 : wr.cell? ⟨w1.heap.size, 1, none⟩ = some (.int .u64 x.2) := (L.out.cell (by simp)).trans (X2.out.cellv rfl)
        have h1x : w1.heap.size < wr.heap.size := by omega
        by_cases hkr : k < r.length
        · obtain ⟨b, off, rfl, hb', _⟩ := R3.out (by omega)
          obtain ⟨z0', z1'⟩ := R4.out b off rfl k hkr
          have hde := hid (drop_eq hkr)
          have hts := hid (take_succ_getD hkr)
          generalize hy : r.getD k (0, 0) = y at z0' z1'
          have HY := hid hy
          clear hy
          have z0 : wr.cell? ⟨b, off + k * 2, none⟩ = some (.int .u32 y.1) := (LW.out.cell hb').trans z0'
          have z1 : wr.cell? ⟨b, off + k * 2 + 1, none⟩ = some (.int .u64 y.2) := (LW.out.cell hb').trans z1'
          clear z0' z1'
          have hbl := Nat.lt_of_lt_of_le hb' LW.out.size
          cases put with
          | true =>
            go_wp2
            go_region
            go_wp2_with (at_builtin; refine wpList_append_own_at _ rfl (.tmp 52) (.tmp 57) 42 rfl (w1.heap.size + 1) 53 i0 (.agg #[.int .u32 0, .int .u64 0]) 2 16 rfl hi hz0 hz1 hz2 rfl (by decide) _ (out).length (prs (out)) rfl (O.out.allocD _) ⟨wr.heap.size, 0, none⟩ 1 1 [.int .u32 y.1, .int .u64 y.2] rfl rfl (news_allocD wr #[.int .u32 y.1, .int .u64 y.2] _) (by simp [Value.oneCell']) (by unfold maxLen; omega) (by omega) (by have := L.out.size; simp [World.drew]; omega) ?_; intro v7 w7 hown7 hg7 _ _; have G7 := OwnP.grownD (x := y) O.out hown7 hg7; have O7 := hid G7.1; have L7 := hid (L.out.trans (G7.2.below (by have := L.out.size; omega) (fun c hc h => by omega))); obtain ⟨q7, c7, e7⟩ := O7.out.shape; subst e7; clear hown7 hg7 G7)
            all_goals
              go_roundg (r.length - (k + 1))
              case measure => omega
              case rel =>
                refine ⟨k + 1, true, out ++ [y], by go_num, rfl, rfl, by omega, by simp; omega, hid (fun h => by cases h), hid (fun _ => ?_), hid (by simpa using O7.out), L7⟩
                have := T.out (by trivial)
                rw [hde.out, HY.out] at this
                simpa using this
          | false =>
            obtain ⟨f1, f2⟩ := F.out (by trivial)
            have F1 := hid f1; have F2 := hid f2
            clear f1 f2
            have RD := hid (show OwnP wr.drew (w1.heap.size + 1) (.slice q out.length c) out from O.out)
            cases hl : lt x y
            · go_wp2
              go_region_with (go_at_call 22; refine (ahead_c _ x y).mono ?_; rintro e w4 ⟨rfl, hb4'⟩; rw [hl]; have hb4 : Below wr.heap.size wr w4 := ⟨hb4'.os, hb4'.tape, hb4'.output, hb4'.size, hb4'.block⟩; clear hb4'; have L4 := hid (L.out.trans (hb4.mono (by omega))); have O4 := hid (show OwnP w4 (w1.heap.size + 1) (.slice q out.length c) out from (Mod.of_below hb4 (fun _ => False)).row O.out (fun _ _ => id)); have z40 : w4.cell? ⟨b, off + k * 2, none⟩ = some (.int .u32 y.1) := (Below.cell hb4 hbl).trans z0; have z41 : w4.cell? ⟨b, off + k * 2 + 1, none⟩ = some (.int .u64 y.2) := (Below.cell hb4 hbl).trans z1; have hbl4 : b < w4.heap.size := Nat.lt_of_lt_of_le hbl hb4.size; clear hb4)
              all_goals
                simp only [List.getElem_toArray, List.getElem_cons_succ, List.getElem_cons_zero, Act.put, List.setIfInBounds_toArray, List.set_cons_succ, List.set_cons_zero]
                have hlen7 : out.length = out.length := rfl
                go_wp2_with (at_builtin; refine wpList_append_own_at _ rfl (.tmp 52) (.tmp 57) 42 rfl (w1.heap.size + 1) 53 i0 (.agg #[.int .u32 0, .int .u64 0]) 2 16 rfl hi hz0 hz1 hz2 rfl (by decide) _ (out).length (prs (out)) rfl (O4.out.allocN _) ⟨w4.heap.size, 0, none⟩ 1 1 [.int .u32 y.1, .int .u64 y.2] rfl rfl (news_alloc w4 #[.int .u32 y.1, .int .u64 y.2] _) (by simp [Value.oneCell']) (by unfold maxLen; rw [hlen7]; omega) (by rw [hlen7]; omega) (by have := L4.out.size; simp; omega) ?_; intro v7 w7 hown7 hg7 _ _; have G7 := OwnP.grown (x := y) O4.out hown7 hg7; have O7 := hid G7.1; have L7 := hid (L4.out.trans (G7.2.below (by have := L4.out.size; omega) (fun c hc h => by omega))); obtain ⟨q7, c7, e7⟩ := O7.out.shape; subst e7; clear hown7 hg7 G7)
                go_roundg (r.length - (k + 1))
                case measure => omega
                case rel =>
                  refine ⟨k + 1, false, out ++ [y], by go_num, rfl, rfl, by omega, by simp; omega, hid (fun _ => ⟨by rw [hts.out, HY.out, F1.out], fun p hp => ?_⟩), hid (fun h => by cases h), hid (by simpa using O7.out), L7⟩
                  rw [hts.out, HY.out] at hp
                  rcases List.mem_append.1 hp with hp | hp
                  · exact F2.out p hp
                  · rw [List.mem_singleton.1 hp]; exact hl
            · go_wp2
              go_region_with (go_at_call 22; refine (ahead_c _ x y).mono ?_; rintro e w4 ⟨rfl, hb4'⟩; rw [hl]; have hb4 : Below wr.heap.size wr w4 := ⟨hb4'.os, hb4'.tape, hb4'.output, hb4'.size, hb4'.block⟩; clear hb4'; have L4 := hid (L.out.trans (hb4.mono (by omega))); have O4 := hid (show OwnP w4 (w1.heap.size + 1) (.slice q out.length c) out from (Mod.of_below hb4 (fun _ => False)).row O.out (fun _ _ => id)); have z40 : w4.cell? ⟨b, off + k * 2, none⟩ = some (.int .u32 y.1) := (Below.cell hb4 hbl).trans z0; have z41 : w4.cell? ⟨b, off + k * 2 + 1, none⟩ = some (.int .u64 y.2) := (Below.cell hb4 hbl).trans z1; have y40 : w4.cell? ⟨w1.heap.size, 0, none⟩ = some (.int .u32 x.1) := (Below.cell hb4 h1x).trans y0; have y41 : w4.cell? ⟨w1.heap.size, 1, none⟩ = some (.int .u64 x.2) := (Below.cell hb4 h1x).trans y1; have hx4 : w1.heap.size < w4.heap.size := Nat.lt_of_lt_of_le h1x hb4.size; have hbl4 : b < w4.heap.size := Nat.lt_of_lt_of_le hbl hb4.size; clear hb4)
              all_goals
                simp only [List.getElem_toArray, List.getElem_cons_succ, List.getElem_cons_zero, Act.put, List.setIfInBounds_toArray, List.set_cons_succ, List.set_cons_zero]
                have hlen8 : out.length = out.length := rfl
                have hlen7 : (out ++ [x]).length = out.length + 1 := by simp
                go_wp2_with first
                  | (at_builtin; refine wpList_append_own_at _ rfl (.tmp 52) (.tmp 57) 42 rfl (w1.heap.size + 1) 53 i0 (.agg #[.int .u32 0, .int .u64 0]) 2 16 rfl hi hz0 hz1 hz2 rfl (by decide) _ (out.length + 1) (prs (out ++ [x])) rfl (P8.out.alloc _) ⟨w8.heap.size, 0, none⟩ 1 1 [.int .u32 y.1, .int .u64 y.2] rfl rfl (news_alloc w8 #[.int .u32 y.1, .int .u64 y.2] _) (by simp [Value.oneCell']) (by unfold maxLen; omega) (by omega) (by have := L8.out.size; simp; omega) ?_; intro v7 w7 hown7 hg7 _ _; have G7 := OwnP.grownP (x := y) hlen7 P8.out hown7 hg7; have O7 := hid G7.1; have L7 := hid (L8.out.trans (G7.2.below (by have := L8.out.size; omega) (fun c hc h => by omega))); obtain ⟨q7, c7, e7⟩ := O7.out.shape; subst e7; clear hown7 hg7 G7)
                  | (at_builtin; refine wpList_append_own_at _ rfl (.tmp 48) (.tmp 50) 42 rfl (w1.heap.size + 1) 53 i0 (.agg #[.int .u32 0, .int .u64 0]) 2 16 rfl hi hz0 hz1 hz2 rfl (by decide) _ (out).length (prs (out)) rfl (O4.out.allocN _) ⟨w4.heap.size, 0, none⟩ 1 1 [.int .u32 x.1, .int .u64 x.2] rfl rfl (news_alloc w4 #[.int .u32 x.1, .int .u64 x.2] _) (by simp [Value.oneCell']) (by unfold maxLen; rw [hlen8]; omega) (by rw [hlen8]; omega) (by have := L4.out.size; simp; omega) ?_; intro v8 w8 hown8 hg8 _ _; have G8 := OwnP.grown (x := x) O4.out hown8 hg8; have O8 := hid G8.1; have L8 := hid (L4.out.trans (G8.2.below (by have := L4.out.size; omega) (fun c hc h => by omega))); obtain ⟨q8, c8, e8⟩ := O8.out.shape; subst e8; have P8 := hid (show w8.ownsRow (w1.heap.size + 1) 53 2 (.slice q8 (out.length + 1) c8) (out.length + 1) (prs (out ++ [x])) from by have h := O8.out; unfold OwnP at h; rw [hlen7] at h; exact h); have z80 : w8.cell? ⟨b, off + k * 2, none⟩ = some (.int .u32 y.1) := (World.cell?_of_block (w := w4) (G8.2.block b hbl4 (fun h => by omega))).trans z40; have z81 : w8.cell? ⟨b, off + k * 2 + 1, none⟩ = some (.int .u64 y.2) := (World.cell?_of_block (w := w4) (G8.2.block b hbl4 (fun h => by omega))).trans z41; have hbl8 : b < w8.heap.size := Nat.lt_of_lt_of_le hbl4 G8.2.size; clear hown8 hg8 G8)
                go_roundg (r.length - (k + 1))
                case measure => omega
                case rel =>
                  refine ⟨k + 1, true, out ++ [x] ++ [y], by go_num, rfl, rfl, by omega, ?_, hid (fun h => by cases h), hid (fun _ => ?_), hid (by simpa using O7.out), L7⟩
                  · have := congrArg List.length F1.out; simp at this ⊢; omega
                  · have hsp : r = r.take k ++ y :: r.drop (k + 1) := by rw [← HY.out, ← hde.out]; simp
                    have : ins x r = r.take k ++ ins x (y :: r.drop (k + 1)) := by
                      conv => lhs; rw [hsp]
                      exact ins_skip F2.out _
                    rw [this, F1.out]
                    simp [ins, hl]
        · have hke : k = r.length := by omega
          subst hke
          have FT := hid (show put = false → ins x r = out ++ [x] from fun h => by
            obtain ⟨f1, f2⟩ := F.out h
            rw [List.take_length] at f1 f2
            have := ins_skip f2 []
            rw [List.append_nil] at this
            rw [this, f1]; rfl)
          have TT := hid (show put = true → ins x r = out from fun h => by
            have := T.out h
            rw [List.drop_length, List.append_nil] at this
            exact this.symm)
          have hset := hid (show setL m x.1 x.2 = ins x r by rw [HR.out]; rfl)
          cases put with
          | true =>
            go_wp2
            go_ret2
            refine ⟨_, rfl, ?_, ?_⟩
            · rw [hset.out, TT.out (by trivial)]; exact own_lst rfl O.out
            · exact B1'.out.trans (LW.out.mono B1'.out.size)
          | false =>
            have hlen7 : out.length = out.length := rfl
            go_wp2_with (at_builtin; refine wpList_append_own_at _ rfl (.tmp 61) (.tmp 63) 42 rfl (w1.heap.size + 1) 53 i0 (.agg #[.int .u32 0, .int .u64 0]) 2 16 rfl hi hz0 hz1 hz2 rfl (by decide) _ (out).length (prs (out)) rfl (O.out.allocN _) ⟨wr.heap.size, 0, none⟩ 1 1 [.int .u32 x.1, .int .u64 x.2] rfl rfl (news_alloc wr #[.int .u32 x.1, .int .u64 x.2] _) (by simp [Value.oneCell']) (by unfold maxLen; rw [hlen7]; omega) (by rw [hlen7]; omega) (by have := L.out.size; simp; omega) ?_; intro v7 w7 hown7 hg7 _ _; have G7 := OwnP.grown (x := x) O.out hown7 hg7; have O7 := hid G7.1; have L7 := hid (L.out.trans (G7.2.below (by have := L.out.size; omega) (fun c hc h => by omega))); obtain ⟨q7, c7, e7⟩ := O7.out.shape; subst e7; clear hown7 hg7 G7)
            go_ret2
            refine ⟨_, rfl, ?_, ?_⟩
            · rw [hset.out, FT.out (by trivial)]; exact own_lst rfl (show OwnP w7 (w1.heap.size + 1) (.slice q7 (out.length + 1) c7) (out ++ [x]) by have h := O7.out; rw [show (out ++ [x]).length = out.length + 1 by simp] at h; exact h)
            · exact B1'.out.trans ((L2.out.trans (L7.out.mono (by omega))).mono B1'.out.size)
end Go.Proofs.Ytfolgjgkeheaoaa
