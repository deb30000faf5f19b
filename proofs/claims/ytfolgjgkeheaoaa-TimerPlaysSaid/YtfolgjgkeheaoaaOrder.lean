/- The walk of TimerOrder. -/
import Derived.Test.YtfolgjgkeheaoaaFull
import Derived.Deep.RegionWith
import Derived.Deep.CutBlock
import Derived.Deep.CutRange
namespace Go.Proofs.Ytfolgjgkeheaoaa
open Go.RowKit Go.ChangeMaps

/-- The acts' cells that are read. -/
def Acts (w : World) (p : Option Addr) (len : Nat) : Prop :=
  ∀ i, i < len → ∃ b off x y, p = some ⟨b, off, none⟩ ∧ b < w.heap.size ∧ w.cell? ⟨b, off + i * 4 + 1, none⟩ = some (.int .u32 x) ∧ w.cell? ⟨b, off + i * 4 + 2, none⟩ = some (.int .u64 y)
theorem Acts.below {w w' : World} {p : Option Addr} {len : Nat} (h : Acts w p len) (hb : Below w.heap.size w w') : Acts w' p len := by
  intro i hi
  obtain ⟨b, off, x, y, h1, h2, h3, h4⟩ := h i hi
  exact ⟨b, off, x, y, h1, Nat.lt_of_lt_of_le h2 hb.size, (hb.cell h2).trans h3, (hb.cell h2).trans h4⟩
theorem setL_le {w : World} {t mb : Nat} {sv : Value} {m : List Ent} (R : Rep w t mb sv m) (id at_ : Int) : (setL m id at_).length ≤ m.length + 1 := by
  cases h : hasL m id
  · rw [setL_length_new h]; exact Nat.le_refl _
  · rw [setL_length_old R h]; omega

theorem row_empty {w : World} {base b : Nat} {T : TypeId} (h : Blk w b #[] T) (hb : base ≤ b) : w.ownsRow base T 1 (.slice (some ⟨b, 0, none⟩) 0 0) 0 [] :=
  ⟨rfl, Or.inr ⟨b, 0, #[], rfl, hb, h, Nat.le_refl _, Nat.zero_le _, rfl, rfl⟩⟩
theorem row_apart {w w' : World} {S : Nat → Prop} {base n sz : Nat} {v : Value} {xs : List Value} {T T' : TypeId} (M : Mod S w w') (hS : ∀ k, S k → ∃ cs fz, w.heap[k]? = some (.cells cs T fz)) (ho : w.ownsRow base T' sz v n xs) (hT : T ≠ T') : w'.ownsRow base T' sz v n xs := by
  refine ⟨ho.1, ?_⟩
  rcases ho.2 with h1 | ⟨g, cap, cur, rfl, h2, h3, h4⟩
  · exact Or.inl h1
  · refine Or.inr ⟨g, cap, cur, rfl, h2, (M.block g (Array.getElem?_eq_some_iff.1 h3).1 (fun hs => ?_)).trans h3, h4⟩
    obtain ⟨cs, fz, hc⟩ := hS g hs
    rw [h3] at hc; cases hc; exact hT rfl
theorem row_last {w : World} {base : Nat} {v a : Value} {T : TypeId} {xs : List Value} {n : Nat} (h : w.ownsRow base T 1 v (n + 1) (xs ++ [a])) : ∃ g cap, v = .slice (some ⟨g, 0, none⟩) (n + 1) cap ∧ g < w.heap.size ∧ w.cell? ⟨g, n, none⟩ = some a := by
  rcases h.2 with ⟨_, h⟩ | ⟨g, cap, cur, rfl, q1, q2, q3, q4, q5, q6⟩
  · omega
  · have hb : Blk w g cur T := q2
    refine ⟨g, cap, rfl, hb.lt, hb.cellv ?_⟩
    have hl := h.1
    simp at hl
    rw [← Array.getElem?_toList, ← List.getElem?_take_of_lt (show n < (n + 1) * 1 by omega), q6, List.getElem?_append_right (by omega)]
    rw [show n - xs.length = 0 by omega]; rfl
theorem row_last' {w : World} {base g n cap : Nat} {a : Value} {T : TypeId} {xs : List Value} (h : w.ownsRow base T 1 (.slice (some ⟨g, 0, none⟩) (n + 1) cap) (n + 1) (xs ++ [a])) : g < w.heap.size ∧ w.cell? ⟨g, n, none⟩ = some a := by
  obtain ⟨g', cap', e, h1, h2⟩ := row_last h
  cases e
  exact ⟨h1, h2⟩
theorem row_shape {w : World} {base n : Nat} {v : Value} {T : TypeId} {xs : List Value} (h : w.ownsRow base T 1 v n xs) : ∃ p cap, v = .slice p n cap := by
  rcases h.2 with ⟨h, h'⟩ | ⟨g, cap, cur, rfl, _⟩
  · exact ⟨none, 0, by rw [h, h']⟩
  · exact ⟨_, _, rfl⟩
theorem due_none {now : Int} {cur : List Ent} (h : ∀ e ∈ cur, now < e.2) : dueL now (9 : Int).toNat cur = ([], cur) := by
  cases cur with
  | nil => rfl
  | cons a m =>
    rw [show (9 : Int).toNat = 8 + 1 from rfl]
    unfold dueL
    rw [if_neg (by have := h a List.mem_cons_self; omega)]
theorem info23 : (Try.prog.info? 23).map (fun i => (i.zero, i.size, i.bytes)) = some (some (.int .u64 0), 1, 8) := by kernel_rfl

set_option maxRecDepth 100000 in
set_option maxHeartbeats 2000000 in
theorem order_walk (p : Option Addr) (len cap : Nat) (now : Int) (w : World) (hl : len ≤ maxLen) (hc : Acts w p len) :
    Calls Try.prog 4 #[.slice p len cap, .int .u64 now] w fun e w' => e = .returned (.bool true) ∧ Below w.heap.size w w' := by
  have HC := hid hc; clear hc
  have hl' : len ≤ 9223372036854775807 := by simpa [maxLen] using hl
  go_enter Try.func4, Try.ntmps4
  go_upto_block 0 with (go_at_call 7; refine (new_r _).mono ?_; rintro e w1 ⟨t, mb, sv, rfl, L1, L1', B1, R1⟩; have O1 := hid (show Out w.heap.size t mb sv from ⟨L1, L1'⟩); have R1' := hid R1; have B1' := hid B1; clear R1 B1 L1 L1')
  go_cut [6] from 21 to 42 (fun _ wr => ∃ (sv' : Value) (m : List Ent), Hid (m.length ≤ 200) ∧ Hid (Rep wr t mb sv' m) ∧ Hid (Out w.heap.size t mb sv') ∧ Hid (Below w.heap.size w wr))
  case first =>
    go_wp2_with fail
    go_loopg [6] 200 (fun g v wr => ∃ (k : Nat) (sv' : Value) (m : List Ent), v = .int .i64 k ∧ g = 200 - k ∧ k ≤ 200 ∧ Hid (m.length ≤ k) ∧ Hid (Rep wr t mb sv' m) ∧ Hid (Out w.heap.size t mb sv') ∧ Hid (Below w.heap.size w wr))
    case atStart => exact ⟨0, sv, [], rfl, rfl, by omega, hid (Nat.le_refl _), R1', O1, B1'⟩
    case round =>
      obtain ⟨k, sv', m, hv, hg, hk, hm, R, O, B⟩ := hrel
      subst hv
      by_cases hk0 : k < len ∧ k < 200
      · obtain ⟨hk1, hk2⟩ := hk0
        obtain ⟨b, off, x, y, rfl, hb, c1, c2⟩ := HC.out.below B.out k hk1
        have hn := hid (show ¬ (hasL m x = false ∧ 1000 ≤ m.length) by have := hm.out; omega)
        have RD := hid (R.out.tm (w' := wr.drew) fun _ _ k => k.drew)
        have BD := hid (B.out.drew)
        go_wp2
        go_region_with (go_at_call 8; refine (set_ok RD.out x y hn.out rfl).mono ?_; rintro e w2 ⟨M2, sv2, L2, rfl, R2⟩; have O2 := hid (O.out.next L2 BD.out.size); have R2' := hid R2; have B2' := hid (O.out.below BD.out M2 (Nat.le_refl _)); clear R2 L2 M2)
        all_goals
          go_wp2
          go_roundg (200 - (k + 1))
          case measure => omega
          case rel => exact ⟨k + 1, sv2, _, by go_num, rfl, by omega, hid (by have := setL_le R.out x y; have := hm.out; omega), R2', O2, B2'⟩
      · have hm' := hid (Nat.le_trans hm.out hk)
        go_wp2_with fail
        all_goals
          go_meet
          case rel => exact ⟨sv', m, hm', R, O, B⟩
  case rest =>
    obtain ⟨sv', m, hm, R, O, B⟩ := hcut
    obtain ⟨i0, hi, hz0, hz1, hz2⟩ := info_parts info22
    obtain ⟨j0, hj, hy0, hy1, hy2⟩ := info_parts info23
    have hm200 : m.length ≤ 200 := hm.out
    have LB := hid B.out.size
    go_upto_block 2 with (go_at_call 10; refine (len_r R.out).mono ?_; rintro e w5 ⟨rfl, rfl⟩)
    have RA := hid ((R.out.below ((Below.refl w5.heap.size w5).alloc (Nat.le_refl _) (.cells #[] 23))).below ((Below.refl _ _).alloc (Nat.le_refl _) (.cells #[] 22)))
    have BA := hid (((B.out).alloc LB.out (.cells #[] 23)).alloc (by have := LB.out; simp; omega) (.cells #[] 22))
    have OA := hid (show ((w5.alloc (.cells #[] 23)).alloc (.cells #[] 22)).ownsRow w.heap.size 23 1 (.slice (some ⟨w5.heap.size, 0, none⟩) 0 0) 0 [] from row_empty ((Blk.new w5 #[] 23).alloc _) LB.out)
    have OB := hid (show ((w5.alloc (.cells #[] 23)).alloc (.cells #[] 22)).ownsRow w.heap.size 22 1 (.slice (some ⟨w5.heap.size + 1, 0, none⟩) 0 0) 0 [] from row_empty (by have := Blk.new (w5.alloc (.cells #[] 23)) #[] 22; simpa using this) (by have := LB.out; omega))
    go_cut [8, 9, 10, 11, 12, 13, 14] from 47 to 113 (fun _ v9 _ _ _ _ _ wr => ∃ (n : Nat) (cur : List Ent) (sv2 : Value) (p9 : Option Addr) (c9 : Nat), v9 = .slice p9 n c9 ∧ n + cur.length = m.length ∧ Hid (∀ e ∈ cur, now < e.2) ∧ Hid (Rep wr t mb sv2 cur) ∧ Hid (Out w.heap.size t mb sv2) ∧ Hid (Below w.heap.size w wr))
    case first =>
      go_wp2_with fail
      go_loopg [8, 9, 10, 11, 12, 13, 14] m.length (fun g v8 v9 v10 _ _ _ _ wr => ∃ (T cur : List Ent) (sv2 : Value), v10 = .int .i64 T.length ∧ g = cur.length ∧ Hid (T ++ cur = m) ∧ T.length + cur.length = m.length ∧ Hid (wr.ownsRow w.heap.size 23 1 v8 T.length (T.map (fun e => .int .u64 e.2))) ∧
          Hid (wr.ownsRow w.heap.size 22 1 v9 T.length (T.map (fun e => .int .u32 e.1))) ∧ Hid (Rep wr t mb sv2 cur) ∧ Hid (Out w.heap.size t mb sv2) ∧ Hid (Below w.heap.size w wr))
      case atStart => exact ⟨[], m, sv', rfl, rfl, hid rfl, by simp, OA, OB, RA, O, BA⟩
      case round =>
        obtain ⟨T, cur, sv2, hv, hg2, hT, hTl, W8, W9, R2, O2, B2⟩ := hrel
        subst hv
        obtain ⟨p8, c8, e8⟩ := row_shape W8.out
        obtain ⟨p9, c9, e9⟩ := row_shape W9.out
        subst e8 e9
        have hT200 : T.length ≤ 200 := by omega
        cases cur with
        | nil =>
          go_wp2_with (go_at_call 11; refine (next_r R2.out).mono ?_; rintro e w6 ⟨rfl, hb⟩; dsimp only [List.head?, Option.map, Option.getD, Option.isSome]; have hb' := hid hb; clear hb)
          go_meet
          case rel => exact ⟨_, [], sv2, p9, c9, rfl, hTl, hid (fun e he => by cases he), hid (R2.out.below hb'.out), O2, hid (B2.out.trans (hb'.out.mono B2.out.size))⟩
        | cons a rest =>
          by_cases ha : a.2 ≤ now
          · have hna : ¬ now < a.2 := by omega
            have L0 := hid B2.out.size
            have hT1 : T.length + 1 ≤ 201 := by omega
            have order := hid (show ∀ p ∈ T, lt p a = true from fun p hp => by
              have hs : Sorted (T ++ a :: rest) := by rw [hT.out]; exact R.out.ord
              exact (List.pairwise_append.1 hs).2.2 p hp a List.mem_cons_self)
            have hdue := hid (show dueL now (1 : Int).toNat (a :: rest) = ([a], rest) by
              rw [show (1 : Int).toNat = 0 + 1 from rfl]; unfold dueL; rw [if_pos ha]; rfl)
            rcases List.eq_nil_or_concat T with hT0 | ⟨T', q, hT0⟩
            · subst hT0
              go_wp2_with first
                | (at_builtin; refine wpList_append_own_at _ rfl (.tmp 110) (.tmp 112) 35 rfl w.heap.size 22 i0 (.int .u32 0) 1 4 rfl hi hz0 hz1 hz2 rfl (by decide) _ (([] : List Ent)).length ((([] : List Ent)).map (fun e => .int .u32 e.1)) rfl (Z9.out.alloc _) ⟨w8.heap.size, 0, none⟩ 1 1 [.int .u32 a.1] rfl rfl (cell_one_new _ _ _) (by simp [Value.oneCell']) (by unfold maxLen; omega) (by omega) (by have := L5.out; simp; omega) ?_; intro v9' w9 hown9 hgrow9 _ _; have M9 := own_grown Z9.out hgrow9; have V9 := hid hown9; have V8 := hid (row_apart M9 (fun k hk => hk.2) Z8.out (by decide)); have R6 := hid (R5.out.apart M9 (fun k hk _ => by obtain ⟨_, cs, fz, hc⟩ := hk; exact ⟨cs, _, fz, hc, by decide, by decide⟩)); have B6 := hid (B5.out.trans (M9.below L5.out (fun k hk hS => by omega))); clear hown9 hgrow9 M9)
                | (at_builtin; refine wpList_append_own_at _ rfl (.tmp 106) (.tmp 108) 34 rfl w.heap.size 23 j0 (.int .u64 0) 1 8 rfl hj hy0 hy1 hy2 rfl (by decide) _ (([] : List Ent)).length ((([] : List Ent)).map (fun e => .int .u64 e.2)) rfl (X8.out.alloc _) ⟨w7.heap.size, 0, none⟩ 1 1 [.int .u64 a.2] rfl rfl (cell_one_new _ _ _) (by simp [Value.oneCell']) (by unfold maxLen; omega) (by omega) (by have := L4.out; simp; omega) ?_; intro v8' w8 hown8 hgrow8 _ _; have M8 := own_grown X8.out hgrow8; have Z8 := hid hown8; have Z9 := hid (row_apart M8 (fun k hk => hk.2) X9.out (by decide)); have R5 := hid (R4.out.apart M8 (fun k hk _ => by obtain ⟨_, cs, fz, hc⟩ := hk; exact ⟨cs, _, fz, hc, by decide, by decide⟩)); have B5 := hid (B4.out.trans (M8.below L4.out (fun k hk hS => by omega))); have L5 := hid (Nat.le_trans L4.out M8.size); clear hown8 hgrow8 M8)
                | (go_at_call 12; refine (due_ok R3.out now 1 hdue.out rfl).mono ?_; rintro e w7 ⟨v, rfl, sv7, L7, V7, R7, M7⟩; have M7' := hid M7; have R4 := hid R7; have O4 := hid (O2.out.same L7); have B4 := hid (O2.out.below B3.out M7 (Nat.le_refl _)); obtain ⟨g7, c7, rfl, hg7, x7'⟩ := row_last (xs := []) (n := 0) V7; have x7 : w7.cell? ⟨g7, 0, none⟩ = some (.int .u32 a.1) := x7'; have X8 := hid (R3.out.keeps_row M7'.out Y8.out (by decide) (by decide)); have X9 := hid (R3.out.keeps_row M7'.out Y9.out (by decide) (by decide)); have L4 := hid (Nat.le_trans L3.out M7'.out.size); clear x7' V7 R7 M7 L7)
                | (go_at_call 11; refine (next_r R2.out).mono ?_; rintro e w6 ⟨rfl, hb⟩; dsimp only [List.head?, Option.map, Option.getD, Option.isSome]; have hb' := hid hb; clear hb; have R3 := hid (R2.out.below hb'.out); have B3 := hid (B2.out.trans (hb'.out.mono B2.out.size)); have Y8 := hid ((Mod.of_below hb'.out (fun _ => False)).row W8.out (fun _ _ => id)); have Y9 := hid ((Mod.of_below hb'.out (fun _ => False)).row W9.out (fun _ _ => id)); have L3 := hid (Nat.le_trans L0.out hb'.out.size))
              go_wp2
              go_roundg rest.length
              case measure => simp [hg2]
              case rel =>
                exact ⟨([] : List Ent) ++ [a], rest, sv7, by simp <;> omega, rfl, hid (by rw [← hT.out]; simp), by simp at hTl ⊢; omega, hid (by simpa using V8.out), hid (by simpa using V9.out), R6, O4, B6⟩
            · have hT0' : T = T' ++ [q] := by simpa using hT0
              clear hT0
              subst hT0'
              have hTn : (T' ++ [q]).length = T'.length + 1 := by simp
              have hTm : (T' ++ [q]).map (fun e : Ent => Value.int .u64 e.2) = T'.map (fun e => Value.int .u64 e.2) ++ [Value.int .u64 q.2] := by simp
              have hTm' : (T' ++ [q]).map (fun e : Ent => Value.int .u32 e.1) = T'.map (fun e => Value.int .u32 e.1) ++ [Value.int .u32 q.1] := by simp
              simp only [hTn, hTm, hTm'] at W8 W9 hT200 hT1 hTl ⊢
              have hl := order.out q (by simp)
              rw [lt_iff] at hl
              obtain ⟨g8, k8, e8, _⟩ := row_last W8.out
              obtain ⟨g9, k9, e9, _⟩ := row_last W9.out
              cases e8; cases e9
              clear hTn hTm hTm'
              rcases hl with hl | ⟨hl1, hl2⟩
              · have c1 : ¬ a.2 < q.2 := by omega
                have c2 : ¬ a.2 = q.2 := by omega
                go_wp2_with first
                  | (at_builtin; refine wpList_append_own_at _ rfl (.tmp 110) (.tmp 112) 35 rfl w.heap.size 22 i0 (.int .u32 0) 1 4 rfl hi hz0 hz1 hz2 rfl (by decide) _ (T'.length + 1) (T'.map (fun e => Value.int .u32 e.1) ++ [Value.int .u32 q.1]) rfl (Z9.out.alloc _) ⟨w8.heap.size, 0, none⟩ 1 1 [.int .u32 a.1] rfl rfl (cell_one_new _ _ _) (by simp [Value.oneCell']) (by unfold maxLen; omega) (by omega) (by have := L5.out; simp; omega) ?_; intro v9' w9 hown9 hgrow9 _ _; have M9 := own_grown Z9.out hgrow9; have V9 := hid hown9; have V8 := hid (row_apart M9 (fun k hk => hk.2) Z8.out (by decide)); have R6 := hid (R5.out.apart M9 (fun k hk _ => by obtain ⟨_, cs, fz, hc⟩ := hk; exact ⟨cs, _, fz, hc, by decide, by decide⟩)); have B6 := hid (B5.out.trans (M9.below L5.out (fun k hk hS => by omega))); clear hown9 hgrow9 M9)
                  | (at_builtin; refine wpList_append_own_at _ rfl (.tmp 106) (.tmp 108) 34 rfl w.heap.size 23 j0 (.int .u64 0) 1 8 rfl hj hy0 hy1 hy2 rfl (by decide) _ (T'.length + 1) (T'.map (fun e => Value.int .u64 e.2) ++ [Value.int .u64 q.2]) rfl (X8.out.alloc _) ⟨w7.heap.size, 0, none⟩ 1 1 [.int .u64 a.2] rfl rfl (cell_one_new _ _ _) (by simp [Value.oneCell']) (by unfold maxLen; omega) (by omega) (by have := L4.out; simp; omega) ?_; intro v8' w8 hown8 hgrow8 _ _; have M8 := own_grown X8.out hgrow8; have Z8 := hid hown8; have Z9 := hid (row_apart M8 (fun k hk => hk.2) X9.out (by decide)); have R5 := hid (R4.out.apart M8 (fun k hk _ => by obtain ⟨_, cs, fz, hc⟩ := hk; exact ⟨cs, _, fz, hc, by decide, by decide⟩)); have B5 := hid (B4.out.trans (M8.below L4.out (fun k hk hS => by omega))); have L5 := hid (Nat.le_trans L4.out M8.size); clear hown8 hgrow8 M8)
                  | (go_at_call 12; refine (due_ok R3.out now 1 hdue.out rfl).mono ?_; rintro e w7 ⟨v, rfl, sv7, L7, V7, R7, M7⟩; have M7' := hid M7; have R4 := hid R7; have O4 := hid (O2.out.same L7); have B4 := hid (O2.out.below B3.out M7 (Nat.le_refl _)); obtain ⟨g7, c7, rfl, hg7, x7'⟩ := row_last (xs := []) (n := 0) V7; have x7 : w7.cell? ⟨g7, 0, none⟩ = some (.int .u32 a.1) := x7'; have X8 := hid (R3.out.keeps_row M7'.out Y8.out (by decide) (by decide)); have X9 := hid (R3.out.keeps_row M7'.out Y9.out (by decide) (by decide)); have L4 := hid (Nat.le_trans L3.out M7'.out.size); clear x7' V7 R7 M7 L7; obtain ⟨hg8, y8⟩ := row_last' X8.out; obtain ⟨hg9, y9⟩ := row_last' X9.out)
                  | (go_at_call 11; refine (next_r R2.out).mono ?_; rintro e w6 ⟨rfl, hb⟩; dsimp only [List.head?, Option.map, Option.getD, Option.isSome]; have hb' := hid hb; clear hb; have R3 := hid (R2.out.below hb'.out); have B3 := hid (B2.out.trans (hb'.out.mono B2.out.size)); have Y8 := hid ((Mod.of_below hb'.out (fun _ => False)).row W8.out (fun _ _ => id)); have Y9 := hid ((Mod.of_below hb'.out (fun _ => False)).row W9.out (fun _ _ => id)); have L3 := hid (Nat.le_trans L0.out hb'.out.size))
                go_wp2
                go_roundg rest.length
                case measure => simp [hg2]
                case rel =>
                  exact ⟨(T' ++ [q]) ++ [a], rest, sv7, by simp <;> omega, rfl, hid (by rw [← hT.out]; simp), by simp at hTl ⊢; omega, hid (by simpa using V8.out), hid (by simpa using V9.out), R6, O4, B6⟩
              · have c1 : ¬ a.2 < q.2 := by omega
                have c2 : q.2 = a.2 := hl1
                have c3 : ¬ a.1 ≤ q.1 := by omega
                clear hl1
                go_wp2_with first
                  | (at_builtin; refine wpList_append_own_at _ rfl (.tmp 110) (.tmp 112) 35 rfl w.heap.size 22 i0 (.int .u32 0) 1 4 rfl hi hz0 hz1 hz2 rfl (by decide) _ (T'.length + 1) (T'.map (fun e => Value.int .u32 e.1) ++ [Value.int .u32 q.1]) rfl (Z9.out.alloc _) ⟨w8.heap.size, 0, none⟩ 1 1 [.int .u32 a.1] rfl rfl (cell_one_new _ _ _) (by simp [Value.oneCell']) (by unfold maxLen; omega) (by omega) (by have := L5.out; simp; omega) ?_; intro v9' w9 hown9 hgrow9 _ _; have M9 := own_grown Z9.out hgrow9; have V9 := hid hown9; have V8 := hid (row_apart M9 (fun k hk => hk.2) Z8.out (by decide)); have R6 := hid (R5.out.apart M9 (fun k hk _ => by obtain ⟨_, cs, fz, hc⟩ := hk; exact ⟨cs, _, fz, hc, by decide, by decide⟩)); have B6 := hid (B5.out.trans (M9.below L5.out (fun k hk hS => by omega))); clear hown9 hgrow9 M9)
                  | (at_builtin; refine wpList_append_own_at _ rfl (.tmp 106) (.tmp 108) 34 rfl w.heap.size 23 j0 (.int .u64 0) 1 8 rfl hj hy0 hy1 hy2 rfl (by decide) _ (T'.length + 1) (T'.map (fun e => Value.int .u64 e.2) ++ [Value.int .u64 q.2]) rfl (X8.out.alloc _) ⟨w7.heap.size, 0, none⟩ 1 1 [.int .u64 a.2] rfl rfl (cell_one_new _ _ _) (by simp [Value.oneCell']) (by unfold maxLen; omega) (by omega) (by have := L4.out; simp; omega) ?_; intro v8' w8 hown8 hgrow8 _ _; have M8 := own_grown X8.out hgrow8; have Z8 := hid hown8; have Z9 := hid (row_apart M8 (fun k hk => hk.2) X9.out (by decide)); have R5 := hid (R4.out.apart M8 (fun k hk _ => by obtain ⟨_, cs, fz, hc⟩ := hk; exact ⟨cs, _, fz, hc, by decide, by decide⟩)); have B5 := hid (B4.out.trans (M8.below L4.out (fun k hk hS => by omega))); have L5 := hid (Nat.le_trans L4.out M8.size); clear hown8 hgrow8 M8)
                  | (go_at_call 12; refine (due_ok R3.out now 1 hdue.out rfl).mono ?_; rintro e w7 ⟨v, rfl, sv7, L7, V7, R7, M7⟩; have M7' := hid M7; have R4 := hid R7; have O4 := hid (O2.out.same L7); have B4 := hid (O2.out.below B3.out M7 (Nat.le_refl _)); obtain ⟨g7, c7, rfl, hg7, x7'⟩ := row_last (xs := []) (n := 0) V7; have x7 : w7.cell? ⟨g7, 0, none⟩ = some (.int .u32 a.1) := x7'; have X8 := hid (R3.out.keeps_row M7'.out Y8.out (by decide) (by decide)); have X9 := hid (R3.out.keeps_row M7'.out Y9.out (by decide) (by decide)); have L4 := hid (Nat.le_trans L3.out M7'.out.size); clear x7' V7 R7 M7 L7; obtain ⟨hg8, y8⟩ := row_last' X8.out; obtain ⟨hg9, y9⟩ := row_last' X9.out)
                  | (go_at_call 11; refine (next_r R2.out).mono ?_; rintro e w6 ⟨rfl, hb⟩; dsimp only [List.head?, Option.map, Option.getD, Option.isSome]; have hb' := hid hb; clear hb; have R3 := hid (R2.out.below hb'.out); have B3 := hid (B2.out.trans (hb'.out.mono B2.out.size)); have Y8 := hid ((Mod.of_below hb'.out (fun _ => False)).row W8.out (fun _ _ => id)); have Y9 := hid ((Mod.of_below hb'.out (fun _ => False)).row W9.out (fun _ _ => id)); have L3 := hid (Nat.le_trans L0.out hb'.out.size))
                go_wp2
                go_roundg rest.length
                case measure => simp [hg2]
                case rel =>
                  exact ⟨(T' ++ [q]) ++ [a], rest, sv7, by simp <;> omega, rfl, hid (by rw [← hT.out]; simp), by simp at hTl ⊢; omega, hid (by simpa using V8.out), hid (by simpa using V9.out), R6, O4, B6⟩
          · have hna : now < a.2 := by omega
            have hcur := hid (show ∀ e ∈ a :: rest, now < e.2 by
              intro e he
              rcases List.mem_cons.1 he with rfl | he
              · exact hna
              · have := (List.pairwise_cons.1 R2.out.ord).1 e he
                rw [lt_iff] at this; omega)
            go_wp2_with (go_at_call 11; refine (next_r R2.out).mono ?_; rintro e w6 ⟨rfl, hb⟩; dsimp only [List.head?, Option.map, Option.getD, Option.isSome]; have hb' := hid hb; clear hb)
            go_meet
            case rel => exact ⟨_, a :: rest, sv2, p9, c9, rfl, hTl, hcur, hid (R2.out.below hb'.out), O2, hid (B2.out.trans (hb'.out.mono B2.out.size))⟩
    case rest =>
      obtain ⟨n, cur, sv2, p9, c9, rfl, hn, hcur, R2, O2, B2⟩ := hcut
      go_upto_block 4 with fail
      go_cut [15, 16, 17] from 114 to 139 (fun _ _ _ wr => Hid (Rep wr t mb sv2 cur) ∧ Hid (Below w.heap.size w wr))
      case first =>
        go_wp2_with fail
        go_loopg [15, 16, 17] 200 (fun g v _ _ wr => ∃ k : Nat, v = .int .i64 k ∧ g = 200 - k ∧ k ≤ 200 ∧ Hid (Rep wr t mb sv2 cur) ∧ Hid (Below w.heap.size w wr))
        case atStart => exact ⟨0, rfl, rfl, by omega, R2, B2⟩
        case round =>
          obtain ⟨k, hv, hg, hk, R, B⟩ := hrel
          subst hv
          by_cases hk0 : k < len ∧ k < 200
          · obtain ⟨hk1, hk2⟩ := hk0
            obtain ⟨b, off, x, y, rfl, hb, c1, c2⟩ := HC.out.below B.out k hk1
            cases hx : hasL cur x
            · go_wp2_with (go_at_call 13; refine (at_r R.out x).mono ?_; rintro e w2 ⟨rfl, rfl⟩; rw [hx])
              go_roundg (200 - (k + 1))
              case measure => omega
              case rel => exact ⟨k + 1, by go_num, rfl, by omega, R, B⟩
            · obtain ⟨q, hq, hqx⟩ := (hasL_iff cur x).1 hx
              obtain ⟨q', hq'⟩ : ∃ q', cur.find? (fun p => decide (p.1 = x)) = some q' := by
                cases hf : cur.find? (fun p => decide (p.1 = x)) with
                | none => exact absurd hqx (by simpa using List.find?_eq_none.1 hf q hq)
                | some q' => exact ⟨q', rfl⟩
              have hgt : now < q'.2 := hcur.out q' (List.mem_of_find?_eq_some hq')
              have hq'' := hid hq'
              clear hq'
              go_wp2_with (go_at_call 13; refine (at_r R.out x).mono ?_; rintro e w2 ⟨rfl, rfl⟩; rw [hx, hq''.out]; dsimp only [Option.map, Option.getD])
              go_roundg (200 - (k + 1))
              case measure => omega
              case rel => exact ⟨k + 1, by go_num, rfl, by omega, R, B⟩
          · go_wp2_with fail
            all_goals
              go_meet
              case rel => exact ⟨R, B⟩
      case rest =>
        obtain ⟨R, B⟩ := hcut
        have e9 := hid (show (n : Int) + cur.length = m.length by omega)
        go_wp2_with first
          | (go_at_call 12; refine (due_ok R3.out now 9 (out := []) (cur := cur) (n := 0) (due_none hcur.out) rfl).mono ?_; rintro e w7 ⟨v, rfl, sv7, L7, V7, R7, M7⟩; have B7 := hid (O2.out.below B3.out M7 (Nat.le_refl _)); obtain ⟨p7, c7, rfl⟩ := row_shape V7; clear V7 R7 M7 L7)
          | (go_at_call 10; refine (len_r R3.out).mono ?_; rintro e w6 ⟨rfl, rfl⟩)
          | (go_at_call 9; refine (alive_c _).mono ?_; rintro e w6 ⟨rfl, hb⟩; have R3 := hid (R.out.below hb); have B3 := hid (B.out.trans (hb.mono B.out.size)); clear hb)
        go_ret
        exact ⟨rfl, B7.out⟩
end Go.Proofs.Ytfolgjgkeheaoaa
