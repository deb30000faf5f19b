/- The walk of TimerPlays. -/
import Derived.Test.YtfolgjgkeheaoaaRefSet
import Derived.Test.YtfolgjgkeheaoaaOrder
namespace Go.Proofs.Ytfolgjgkeheaoaa
open Go.RowKit Go.ChangeMaps

/-- The acts' cells. -/
def Acts4 (w : World) (p : Option Addr) (len : Nat) : Prop :=
  ∀ i, i < len → ∃ b off c x y n, p = some ⟨b, off, none⟩ ∧ b < w.heap.size ∧ w.cell? ⟨b, off + i * 4, none⟩ = some (.int .i64 c) ∧ w.cell? ⟨b, off + i * 4 + 1, none⟩ = some (.int .u32 x) ∧ w.cell? ⟨b, off + i * 4 + 2, none⟩ = some (.int .u64 y) ∧ w.cell? ⟨b, off + i * 4 + 3, none⟩ = some (.int .i64 n)
theorem Acts4.below {w w' : World} {p : Option Addr} {len : Nat} (h : Acts4 w p len) (hb : Below w.heap.size w w') : Acts4 w' p len := by
  intro i hi
  obtain ⟨b, off, c, x, y, n, h1, h2, h3, h4, h5, h6⟩ := h i hi
  exact ⟨b, off, c, x, y, n, h1, Nat.lt_of_lt_of_le h2 hb.size, (hb.cell h2).trans h3, (hb.cell h2).trans h4, (hb.cell h2).trans h5, (hb.cell h2).trans h6⟩
theorem nums_nil (w : World) (p : Option Addr) (c : Nat) (hc : c ≤ maxLen) : Nums w (.slice p 0 c) [] := ⟨p, c, rfl, Nat.zero_le _, hc, fun h => absurd h (by simp), fun _ _ _ i hi => absurd hi (by simp)⟩
theorem lst_nil (w : World) (p : Option Addr) (c : Nat) (hc : c ≤ maxLen) : Lst w (.slice p 0 c) [] := ⟨p, c, rfl, Nat.zero_le _, hc, fun h => absurd h (by simp), fun _ _ _ i hi => absurd hi (by simp)⟩
theorem set_g {w : World} {t mb : Nat} {sv : Value} {m : List Ent} (h : Rep w t mb sv m) (id at_ : Int) {x : Int} {m' : List Ent} (hx : (if hasL m id = false ∧ 1000 ≤ m.length then 7 else 0) = x) (hm : (if hasL m id = false ∧ 1000 ≤ m.length then m else setL m id at_) = m') :
    Calls Try.prog 8 #[.pointer (some ⟨t, 0, none⟩), .int .u32 id, .int .u64 at_] w fun e w' => Mod (fun k => k = t ∨ Own sv mb k) w w' ∧ ∃ sv', (∀ k, Own sv' mb k → Own sv mb k ∨ w.heap.size ≤ k) ∧
      e = .returned (.int .i64 x) ∧ Rep w' t mb sv' m' := by subst hx hm; exact set_r h id at_
theorem refSet_g {w : World} {v : Value} {m : List Ent} (h : Lst w v m) (hl : m.length ≤ 1000) (id at_ : Int) {x : Int} {m' : List Ent} (hx : (if hasL m id = false ∧ 1000 ≤ m.length then 7 else 0) = x) (hm : (if hasL m id = false ∧ 1000 ≤ m.length then m else setL m id at_) = m') :
    Calls Try.prog 14 #[v, .int .u32 id, .int .u64 at_] w fun e w' => ∃ v', e = .returned (.tuple #[v', .int .i64 x]) ∧ Lst w' v' m' ∧ Below w.heap.size w w' := by subst hx hm; exact refSet_c h hl id at_
theorem cancel_g {w : World} {t mb : Nat} {sv : Value} {m : List Ent} (h : Rep w t mb sv m) (id : Int) {b : Bool} {m' : List Ent} (hb : hasL m id = b) (hm : without m id = m') :
    Calls Try.prog 15 #[.pointer (some ⟨t, 0, none⟩), .int .u32 id] w fun e w' => e = .returned (.bool b) ∧ Mod (fun k => k = t ∨ Own sv mb k) w w' ∧ ∃ sv', sv'.ownBlock = sv.ownBlock ∧ Rep w' t mb sv' m' := by subst hb hm; exact cancel_r h id
theorem refCancel_g {w : World} {v : Value} {m : List Ent} (h : Lst w v m) (hl : m.length ≤ 1000) (id : Int) {b : Bool} {m' : List Ent} (hb : hasL m id = b) (hm : without m id = m') :
    Calls Try.prog 16 #[v, .int .u32 id] w fun e w' => ∃ v', e = .returned (.tuple #[v', .bool b]) ∧ Lst w' v' m' ∧ Below w.heap.size w w' := by subst hb hm; exact refCancel_c h (by omega) id
theorem due_g {w : World} {t mb : Nat} {sv : Value} {m : List Ent} (h : Rep w t mb sv m) (now many : Int) {l : List Int} {m' : List Ent} (hl : (dueL now many.toNat m).1.map (·.1) = l) (hm : (dueL now many.toNat m).2 = m') :
    Calls Try.prog 12 #[.pointer (some ⟨t, 0, none⟩), .int .u64 now, .int .i64 many] w fun e w' => ∃ v, e = .returned v ∧ ∃ sv', sv'.ownBlock = sv.ownBlock ∧ Nums w' v l ∧ Rep w' t mb sv' m' ∧ Mod (fun k => k = t ∨ Own sv mb k) w w' := by
  subst hl hm
  refine (due_r h now many).mono ?_
  rintro e w' ⟨v, h1, sv', h2, h3, h4, h5⟩
  exact ⟨v, h1, sv', h2, own_nums (base := w.heap.size) (n := (dueL now many.toNat m).1.length) (by simp) (by rw [List.map_map]; exact h3), h4, h5⟩
theorem refDue_g {w : World} {v : Value} {m : List Ent} (h : Lst w v m) (hl : m.length ≤ 1000) (now many : Int) {l : List Int} {m' : List Ent} (hl : (dueL now many.toNat m).1.map (·.1) = l) (hm : (dueL now many.toNat m).2 = m') :
    Calls Try.prog 17 #[v, .int .u64 now, .int .i64 many] w fun e w' => ∃ v' o', e = .returned (.tuple #[v', o']) ∧ Lst w' v' m' ∧ Nums w' o' l ∧ Below w.heap.size w w' := by subst hl hm; exact refDue_c h (by omega) now many
theorem at_g {w : World} {t mb : Nat} {sv : Value} {m : List Ent} (h : Rep w t mb sv m) (id : Int) {y : Int} {b : Bool} (hy : ((m.find? (fun p => decide (p.1 = id))).map (·.2)).getD 0 = y) (hb : hasL m id = b) :
    Calls Try.prog 13 #[.pointer (some ⟨t, 0, none⟩), .int .u32 id] w fun e w' => e = .returned (.tuple #[.int .u64 y, .bool b]) ∧ w' = w := by subst hy hb; exact at_r h id
theorem refAt_g {w : World} {v : Value} {m : List Ent} (h : Lst w v m) (id : Int) {y : Int} {b : Bool} (hy : ((m.find? (fun p => decide (p.1 = id))).map (·.2)).getD 0 = y) (hb : hasL m id = b) :
    Calls Try.prog 18 #[v, .int .u32 id] w fun e w' => e = .returned (.tuple #[.int .u64 y, .bool b]) ∧ w' = w := by subst hy hb; exact refAt_c h id

set_option maxRecDepth 100000 in
set_option maxHeartbeats 4000000 in
theorem plays_walk (p : Option Addr) (len cap : Nat) (w : World) (hl : len ≤ maxLen) (hc : Acts4 w p len) :
    Calls Try.prog 5 #[.slice p len cap] w fun e w' => e = .returned (.bool true) ∧ Below w.heap.size w w' := by
  have HC := hid hc; clear hc
  have hl' : len ≤ 9223372036854775807 := by simpa [maxLen] using hl
  go_enter Try.func5, Try.ntmps5
  go_upto_block 0 with (go_at_call 7; refine (new_r _).mono ?_; rintro e w1 ⟨t, mb, sv, rfl, L1, L1', B1, R1⟩; have O1 := hid (show Out w.heap.size t mb sv from ⟨L1, L1'⟩); have LW := hid B1.size; have R1' := hid (R1.below ((Below.refl w1.heap.size w1).alloc (Nat.le_refl _) (.cells #[] 53))); have B1' := hid (B1.alloc B1.size (.cells #[] 53)); clear R1 B1 L1 L1')
  go_cut [4, 5] from 24 to 166 (fun _ _ wr => Hid (Below w.heap.size w wr))
  case first =>
    go_wp2_with fail
    go_loopg [4, 5] 200 (fun g v4 v5 wr => ∃ (k : Nat) (sv' : Value) (m : List Ent), v5 = .int .i64 k ∧ g = 200 - k ∧ k ≤ 200 ∧ Hid (Lst wr v4 m) ∧ Hid (Rep wr t mb sv' m) ∧ Hid (Out w.heap.size t mb sv') ∧ Hid (Below w.heap.size w wr))
    case atStart => exact ⟨0, sv, [], rfl, rfl, by omega, hid (lst_nil _ _ _ (Nat.zero_le _)), R1', O1, B1'⟩
    case round =>
      obtain ⟨k, sv', m, hv, hg, hk, V, R, O, B⟩ := hrel
      subst hv
      by_cases hk0 : k < len ∧ k < 200
      · obtain ⟨hk1, hk2⟩ := hk0
        obtain ⟨b, off, c, x, y, n, rfl, hb, c0, c1, c2, c3⟩ := HC.out.below B.out k hk1
        go_upto_block 2 with fail
        obtain ⟨wa, hwa⟩ : ∃ wa, wa = ((wr.alloc (.cells #[.int .i64 c, .int .u32 x, .int .u64 y, .int .i64 n] 33)).alloc (.cells #[] 22)).alloc (.cells #[] 22) := ⟨_, rfl⟩
        have LA := hid (show Below wr.heap.size wr wa by rw [hwa]; exact (((Below.refl _ _).alloc (Nat.le_refl _) _).alloc (by simp) _).alloc (by simp; omega) _)
        have XA := hid (show Blk wa wr.heap.size #[.int .i64 c, .int .u32 x, .int .u64 y, .int .i64 n] 33 by rw [hwa]; exact ((Blk.new wr _ 33).alloc _).alloc _)
        rw [← hwa]
        rw [show decide ((k : Int) < 200) = true from decide_eq_true (by omega)]
        clear hwa
        have hlt := XA.out.lt
        have RA := hid (R.out.below LA.out)
        have VA := hid (V.out.below LA.out)
        have BA := hid (B.out.trans (LA.out.mono B.out.size))
        have y1 : wa.cell? ⟨wr.heap.size, 1, none⟩ = some (.int .u32 x) := XA.out.cellv rfl
        have y2 : wa.cell? ⟨wr.heap.size, 2, none⟩ = some (.int .u64 y) := XA.out.cellv rfl
        have y3 : wa.cell? ⟨wr.heap.size, 3, none⟩ = some (.int .i64 n) := XA.out.cellv rfl
        go_cut [4, 7, 8, 9, 10, 11, 12] from 42 to 89 (fun v4 v7 v8 v9 v10 v11 v12 wz => ∃ (sv2 : Value) (m2 : List Ent) (e : Int) (bb : Bool) (l : List Int), v7 = .int .i64 e ∧ v8 = .int .i64 e ∧ v11 = .bool bb ∧ v12 = .bool bb ∧ Hid (Nums wz v9 l) ∧ Hid (Nums wz v10 l) ∧ Hid (Lst wz v4 m2) ∧ Hid (Rep wz t mb sv2 m2) ∧ Hid (Out w.heap.size t mb sv2) ∧ Hid (Below w.heap.size w wz) ∧ wr.heap.size < wz.heap.size ∧ wz.cell? ⟨wr.heap.size, 1, none⟩ = some (.int .u32 x))
        case first =>
          by_cases h1 : c = 1
          · subst h1
            obtain ⟨e, he⟩ : ∃ e : Int, (if hasL m x = false ∧ 1000 ≤ m.length then 7 else 0) = e := ⟨_, rfl⟩
            obtain ⟨m2, hm2⟩ : ∃ m2, (if hasL m x = false ∧ 1000 ≤ m.length then m else setL m x y) = m2 := ⟨_, rfl⟩
            have HE := hid he; have HM := hid hm2
            clear he hm2
            go_wp2_with first
              | (go_at_call 14; refine (refSet_g V2.out R.out.few x y HE.out HM.out).mono ?_; rintro e' w3 ⟨v3, rfl, V3, hb3⟩; have V3' := hid V3; have R3 := hid (R2'.out.below hb3); have B3 := hid (B2.out.trans (hb3.mono B2.out.size)); have hlt3 : wr.heap.size < w3.heap.size := Nat.lt_of_lt_of_le hlt2 hb3.size; have q1 : w3.cell? ⟨wr.heap.size, 1, none⟩ = some (.int .u32 x) := (hb3.cell hlt2).trans z1; clear V3 hb3)
              | (go_at_call 8; refine (set_g RA.out x y HE.out HM.out).mono ?_; rintro e' w2 ⟨M2, sv2, L2, rfl, R2⟩; have O2 := hid (O.out.next L2 BA.out.size); have B2 := hid (O.out.below BA.out M2 (Nat.le_refl _)); have V2 := hid (VA.out.keeps RA.out M2); have X2 := hid (show Blk w2 wr.heap.size #[.int .i64 1, .int .u32 x, .int .u64 y, .int .i64 n] 33 from RA.out.keeps M2 XA.out (by decide) (by decide)); have R2' := hid R2; have z1 : w2.cell? ⟨wr.heap.size, 1, none⟩ = some (.int .u32 x) := X2.out.cellv rfl; have z2 : w2.cell? ⟨wr.heap.size, 2, none⟩ = some (.int .u64 y) := X2.out.cellv rfl; have hlt2 := X2.out.lt; clear R2 L2 M2)
            go_meet
            case rel => exact ⟨sv2, m2, e, false, [], rfl, rfl, rfl, rfl, hid (nums_nil _ _ _ (Nat.zero_le _)), hid (nums_nil _ _ _ (Nat.zero_le _)), V3', R3, O2, B3, hlt3, q1⟩
          · by_cases h2 : c = 2
            · subst h2
              obtain ⟨e, he⟩ : ∃ e : Bool, hasL m x = e := ⟨_, rfl⟩
              obtain ⟨m2, hm2⟩ : ∃ m2, without m x = m2 := ⟨_, rfl⟩
              have HE := hid he; have HM := hid hm2
              clear he hm2
              go_wp2_with first
                | (go_at_call 16; refine (refCancel_g V2.out R.out.few x HE.out HM.out).mono ?_; rintro e' w3 ⟨v3, rfl, V3, hb3⟩; have V3' := hid V3; have R3 := hid (R2'.out.below hb3); have B3 := hid (B2.out.trans (hb3.mono B2.out.size)); have hlt3 : wr.heap.size < w3.heap.size := Nat.lt_of_lt_of_le hlt2 hb3.size; have q1 : w3.cell? ⟨wr.heap.size, 1, none⟩ = some (.int .u32 x) := (hb3.cell hlt2).trans z1; clear V3 hb3)
                | (go_at_call 15; refine (cancel_g RA.out x HE.out HM.out).mono ?_; rintro e' w2 ⟨rfl, M2, sv2, L2, R2⟩; have O2 := hid (O.out.same L2); have B2 := hid (O.out.below BA.out M2 (Nat.le_refl _)); have V2 := hid (VA.out.keeps RA.out M2); have X2 := hid (show Blk w2 wr.heap.size #[.int .i64 2, .int .u32 x, .int .u64 y, .int .i64 n] 33 from RA.out.keeps M2 XA.out (by decide) (by decide)); have R2' := hid R2; have z1 : w2.cell? ⟨wr.heap.size, 1, none⟩ = some (.int .u32 x) := X2.out.cellv rfl; have z2 : w2.cell? ⟨wr.heap.size, 2, none⟩ = some (.int .u64 y) := X2.out.cellv rfl; have hlt2 := X2.out.lt; clear R2 L2 M2)
              go_meet
              case rel => exact ⟨sv2, m2, 0, e, [], rfl, rfl, rfl, rfl, hid (nums_nil _ _ _ (Nat.zero_le _)), hid (nums_nil _ _ _ (Nat.zero_le _)), V3', R3, O2, B3, hlt3, q1⟩
            · by_cases h3 : c = 3
              · subst h3
                obtain ⟨l, he⟩ : ∃ l, (dueL y n.toNat m).1.map (·.1) = l := ⟨_, rfl⟩
                obtain ⟨m2, hm2⟩ : ∃ m2, (dueL y n.toNat m).2 = m2 := ⟨_, rfl⟩
                have HE := hid he; have HM := hid hm2
                clear he hm2
                go_wp2_with first
                  | (go_at_call 17; refine (refDue_g V2.out R.out.few y n HE.out HM.out).mono ?_; rintro e' w3 ⟨v3, o3, rfl, V3, N3, hb3⟩; have V3' := hid V3; have N3' := hid N3; have N2' := hid (N2.out.below hb3); have R3 := hid (R2'.out.below hb3); have B3 := hid (B2.out.trans (hb3.mono B2.out.size)); have hlt3 : wr.heap.size < w3.heap.size := Nat.lt_of_lt_of_le hlt2 hb3.size; have q1 : w3.cell? ⟨wr.heap.size, 1, none⟩ = some (.int .u32 x) := (hb3.cell hlt2).trans z1; clear V3 N3 hb3)
                  | (go_at_call 12; refine (due_g RA.out y n HE.out HM.out).mono ?_; rintro e' w2 ⟨v2, rfl, sv2, L2, N2, R2, M2⟩; have N2 := hid N2; have O2 := hid (O.out.same L2); have B2 := hid (O.out.below BA.out M2 (Nat.le_refl _)); have V2 := hid (VA.out.keeps RA.out M2); have X2 := hid (show Blk w2 wr.heap.size #[.int .i64 3, .int .u32 x, .int .u64 y, .int .i64 n] 33 from RA.out.keeps M2 XA.out (by decide) (by decide)); have R2' := hid R2; have z1 : w2.cell? ⟨wr.heap.size, 1, none⟩ = some (.int .u32 x) := X2.out.cellv rfl; have z2 : w2.cell? ⟨wr.heap.size, 2, none⟩ = some (.int .u64 y) := X2.out.cellv rfl; have z3 : w2.cell? ⟨wr.heap.size, 3, none⟩ = some (.int .i64 n) := X2.out.cellv rfl; have hlt2 := X2.out.lt; clear R2 L2 M2)
                go_meet
                case rel => exact ⟨sv2, m2, 0, false, l, rfl, rfl, rfl, rfl, N2', N3', V3', R3, O2, B3, hlt3, q1⟩
              · go_wp2_with fail
                go_meet
                case rel => exact ⟨sv', m, 0, false, [], rfl, rfl, rfl, rfl, hid (nums_nil _ _ _ (Nat.zero_le _)), hid (nums_nil _ _ _ (Nat.zero_le _)), VA, RA, O, BA, hlt, y1⟩
        case rest =>
          obtain ⟨sv2, m2, e, bb, l, rfl, rfl, rfl, rfl, N1, N2, V2, R2, O2, B2, hx, z1⟩ := hcut
          obtain ⟨yy, hy⟩ : ∃ y' : Int, ((m2.find? (fun p => decide (p.1 = x))).map (·.2)).getD 0 = y' := ⟨_, rfl⟩
          obtain ⟨b', hb'⟩ : ∃ b', hasL m2 x = b' := ⟨_, rfl⟩
          have HY := hid hy; have HB := hid hb'
          clear hy hb' y1 y2 y3 RA VA BA XA LA
          obtain ⟨p4, c4, e4, h41, h42, h43, h44⟩ := V2.out
          subst e4
          have H43 := hid h43; have H44 := hid h44
          clear h43 h44
          cases m2 with
          | nil =>
            go_wp2_with first
              | (go_at_call 10; refine (len_r R7.out).mono ?_; rintro e' w8 ⟨rfl, rfl⟩)
              | (go_at_call 19; refine (same_c N16.out N26.out).mono ?_; rintro e' w7 ⟨rfl, hb7⟩; have R7 := hid (R6.out.below hb7); have V7 := hid (V6.out.below hb7); have B7 := hid (B6.out.trans (hb7.mono B6.out.size)); clear hb7)
              | (go_at_call 11; refine (next_r R2.out).mono ?_; rintro e' w6 ⟨rfl, hb6⟩; dsimp only [List.head?, Option.map, Option.getD, Option.isSome]; have R6 := hid (R2.out.below hb6); have V6 := hid (V2.out.below hb6); have N16 := hid (N1.out.below hb6); have N26 := hid (N2.out.below hb6); have B6 := hid (B2.out.trans (hb6.mono B2.out.size)); clear hb6)
              | (go_at_call 18; refine (refAt_g V2.out x HY.out HB.out).mono ?_; rintro e' w5 ⟨rfl, rfl⟩)
              | (go_at_call 13; refine (at_g R2.out x HY.out HB.out).mono ?_; rintro e' w5 ⟨rfl, rfl⟩)
            go_roundg (200 - (k + 1))
            case measure => omega
            case rel => exact ⟨k + 1, sv2, [], by go_num, rfl, by omega, V7, R7, O2, B7⟩
          | cons a rest =>
            obtain ⟨b4, off4, rfl, hb4, _⟩ := H43.out (by simp)
            obtain ⟨d0', d1'⟩ := H44.out b4 off4 rfl 0 (by simp)
            have D0 := hid (show wc.cell? ⟨b4, off4, none⟩ = some (.int .u32 a.1) by simpa using d0')
            have D1 := hid (show wc.cell? ⟨b4, off4 + 1, none⟩ = some (.int .u64 a.2) by simpa using d1')
            clear d0' d1'
            go_wp2_with first
              | (go_at_call 10; refine (len_r R7.out).mono ?_; rintro e' w8 ⟨rfl, rfl⟩)
              | (go_at_call 19; refine (same_c N16.out N26.out).mono ?_; rintro e' w7 ⟨rfl, hb7⟩; have R7 := hid (R6.out.below hb7); have V7 := hid (V6.out.below hb7); have B7 := hid (B6.out.trans (hb7.mono B6.out.size)); have d0 : w7.cell? ⟨b4, off4, none⟩ = some (.int .u32 a.1) := (hb7.cell hb46).trans D06.out; have d1 : w7.cell? ⟨b4, off4 + 1, none⟩ = some (.int .u64 a.2) := (hb7.cell hb46).trans D16.out; clear hb7)
              | (go_at_call 11; refine (next_r R2.out).mono ?_; rintro e' w6 ⟨rfl, hb6⟩; dsimp only [List.head?, Option.map, Option.getD, Option.isSome]; have R6 := hid (R2.out.below hb6); have V6 := hid (V2.out.below hb6); have N16 := hid (N1.out.below hb6); have N26 := hid (N2.out.below hb6); have B6 := hid (B2.out.trans (hb6.mono B2.out.size)); have D06 := hid ((hb6.cell hb4).trans D0.out); have D16 := hid ((hb6.cell hb4).trans D1.out); have hb46 := Nat.lt_of_lt_of_le hb4 hb6.size; clear hb6)
              | (go_at_call 18; refine (refAt_g V2.out x HY.out HB.out).mono ?_; rintro e' w5 ⟨rfl, rfl⟩)
              | (go_at_call 13; refine (at_g R2.out x HY.out HB.out).mono ?_; rintro e' w5 ⟨rfl, rfl⟩)
            go_roundg (200 - (k + 1))
            case measure => omega
            case rel => exact ⟨k + 1, sv2, a :: rest, by go_num, rfl, by omega, V7, R7, O2, B7⟩
      · go_wp2_with fail
        all_goals
          go_meet
          case rel => exact B
  case rest =>
    have B := hcut
    go_wp2_with (go_at_call 9; refine (alive_c _).mono ?_; rintro e w6 ⟨rfl, hb⟩; have B3 := hid (B.out.trans (hb.mono B.out.size)); clear hb)
    go_ret
    exact ⟨rfl, B3.out⟩
end Go.Proofs.Ytfolgjgkeheaoaa
