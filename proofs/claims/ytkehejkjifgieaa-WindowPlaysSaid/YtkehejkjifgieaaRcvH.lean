/- The receiver: Hear. -/
import Derived.Test.YtkehejkjifgieaaRcv
namespace Go.Proofs.Ytkehejkjifgieaa
open Go.RowKit Go.ChangeMaps

/-- What is there when a message came ahead or next. -/
def takeA (n : Nat) (place : Nat) (l : List W8) (A : Int → Option (List W8)) : Int → Option (List W8) := if A (place : Int) = none ∧ n ≤ place ∧ place < n + 8 then updA A (place : Int) l else A
/-- What the receiver's Hear answers and leaves: the code, what is told, the answer, how many came, those ahead. -/
def rhearM (xs : List W8) (n : Nat) (A : Int → Option (List W8)) : Int × List (List W8) × List W8 × Nat × (Int → Option (List W8)) :=
  if (parseB xs).1 = 0 then (0, (nextA 8 n (takeA n (parseB xs).2.1 (parseB xs).2.2 A)).1, ackB (nextA 8 n (takeA n (parseB xs).2.1 (parseB xs).2.2 A)).2.1, (nextA 8 n (takeA n (parseB xs).2.1 (parseB xs).2.2 A)).2)
  else ((parseB xs).1, [], [], n, A)
theorem Rw.low {w : World} {b b' : Nat} {T : TypeId} {v : Value} {xs : List Value} (h : Rw w b T v xs) (hb : b' ≤ b) : Rw w b' T v xs := by
  refine ⟨h.1, ?_⟩
  rcases h.2 with h | ⟨g, cap, cur, h1, h2, h3⟩
  · exact Or.inl h
  · exact Or.inr ⟨g, cap, cur, h1, Nat.le_trans hb h2, h3⟩
theorem nextA_le : ∀ (f n : Nat) (A : Int → Option (List W8)), (nextA f n A).2.1 ≤ n + f
  | 0, n, A => Nat.le_refl _
  | f + 1, n, A => by
    cases h : A (n : Int) with
    | none => rw [nextA_none h]; show n ≤ _; omega
    | some l => rw [nextA_some h]; have := nextA_le f (n + 1) (delA A (n : Int)); show (nextA f (n + 1) _).2.1 ≤ _; omega
theorem parseX_lt (x : List W8) : (parseX x).2.1 < 4294967296 := by
  unfold parseX
  split
  · exact un32_lt _
  · show 0 < _; decide
theorem parseB_lt (xs : List W8) : (parseB xs).2.1 < 4294967296 := by
  unfold parseB
  split
  · exact parseX_lt _
  · show 0 < _; decide
theorem RR.put {w w' : World} {base r mb n : Nat} {A : Int → Option (List W8)} (h : RR w base r mb n A) {place : Nat} {v : Value} {l : List W8} (hO : Ow w base v l) (hp : n ≤ place ∧ place < n + 8) {o : Obj} (hw : w' = setBlock w mb o) (hup : ∃ D, IMap w mb .u32 D ∧ (∀ x, (D x = none ∧ A x = none) ∨ ∃ v l, D x = some v ∧ A x = some l ∧ Ow w base v l) ∧ ∀ w2 : World, w2.heap[mb]? = some o → IMap w2 mb .u32 (upd D (place : Int) v)) : RR w' base r mb n (updA A (place : Int) l) ∧ Mod (fun k => k = mb) w w' := by
  obtain ⟨D, hD, hA, hU⟩ := hup
  have M : Mod (fun k => k = mb) w w' := by rw [hw]; exact (Mod.refl (fun k => k = mb) w).setBlock (b := mb) (fun _ => rfl) _
  have key : ∀ {u : Value} {ys : List W8}, Ow w base u ys → Ow w' base u ys := fun hu => hu.mod M (fun j hj e => by obtain ⟨cs, hb⟩ := hu.kind hj; exact h.mbne hb e)
  refine ⟨⟨M.blk h.blk (h.mbne h.blk), ⟨_, hU w' (by rw [hw]; exact heap_setBlock hD.lt _), fun x => ?_⟩, h.own, fun x hx => ?_⟩, M⟩
  · by_cases e : x = (place : Int)
    · exact Or.inr ⟨v, l, if_pos e, if_pos e, key hO⟩
    · rcases hA x with ⟨e1, e2⟩ | ⟨v', l', e1, e2, e3⟩
      · exact Or.inl ⟨(if_neg e).trans e1, (if_neg e).trans e2⟩
      · exact Or.inr ⟨v', l', (if_neg e).trans e1, (if_neg e).trans e2, key e3⟩
  · by_cases e : x = (place : Int)
    · subst e; omega
    · exact h.keys x (fun e' => hx ((if_neg e).trans e'))
set_option maxRecDepth 100000 in
set_option maxHeartbeats 4000000 in
theorem rhear_c {w : World} {base r mb n : Nat} {A : Int → Option (List W8)} {vb : Value} {xs : List W8} (h : RR w base r mb n A) (hn : n ≤ 1000000) (hX : Bytes w vb xs) (hl : xs.length ≤ 100000) :
    Calls Try.prog 11 #[.pointer (some ⟨r, 0, none⟩), vb] w fun e w' => (∃ vl us va, e = .returned (.tuple #[vl, va, .int .i64 (rhearM xs n A).1]) ∧ Ut w' w.heap.size base vl us ∧ us.map (·.2) = (rhearM xs n A).2.1 ∧ Ow w' base va (rhearM xs n A).2.2.1 ∧ RR w' base r mb (rhearM xs n A).2.2.2.1 (rhearM xs n A).2.2.2.2) ∧ Mod (fun k => k = r ∨ k = mb) w w' := by
  have CP := hid (parse_c hX hl)
  obtain ⟨p, cap, rfl, _⟩ := hX
  have H := hid h
  have hlt := h.blk.lt
  obtain ⟨R, hR⟩ : ∃ R, R = rhearM xs n A := ⟨_, rfl⟩
  rw [← hR]
  unfold rhearM at hR
  have hpl := parseB_lt xs
  obtain ⟨P, hP⟩ : ∃ P, P = parseB xs := ⟨_, rfl⟩
  rw [← hP] at hR hpl CP
  have HR := hid hR
  clear hR hP h
  by_cases h0 : P.1 = 0
  · have e0 : (P.1 != 0) = false := by rw [h0]; rfl
    have HR' := hid (HR.out.trans (if_pos h0))
    obtain ⟨pl, hp⟩ : ∃ pl, pl = P.2.1 := ⟨_, rfl⟩
    obtain ⟨l, hll⟩ : ∃ l, l = P.2.2 := ⟨_, rfl⟩
    rw [← hp, ← hll] at CP HR'
    rw [← hp] at hpl
    clear hp hll
    go_enter Try.func11, Try.ntmps11
    go_upto_region 6 with (go_at_call 24; refine CP.out.mono ?_; rintro e w1 ⟨⟨v1, rfl, O1⟩, hb1⟩; have B1 := hid hb1; have P1 := hid (O1.lower H.out.size); clear O1 hb1)
    clear CP
    have R1 := hid (H.out.below B1.out)
    have c0 : w1.cell? ⟨r, 0, none⟩ = some (.int .u32 (n : Int)) := R1.out.blk.cellv rfl
    have c1 : w1.cell? ⟨r, 1, none⟩ = some (.map (some mb)) := R1.out.blk.cellv rfl
    have hl1 := R1.out.blk.lt
    obtain ⟨pm, cm, hpm⟩ := P1.out.slice
    subst hpm
    have NX := hid (fun (W : World) (A1 : Int → Option (List W8)) (h : RR W base r mb n A1) => rnext_c h hn)
    by_cases ht : A (pl : Int) = none ∧ n ≤ pl ∧ pl < n + 8
    · have HT := hid (show takeA n pl l A = updA A (pl : Int) l from if_pos ht)
      obtain ⟨t1, t2, t3⟩ := ht
      have i2 : (n : Int) ≤ (pl : Int) := by omega
      obtain ⟨df, hdf⟩ : ∃ df, df = pl - n := ⟨_, rfl⟩
      have i3 : (pl : Int) - (n : Int) = (df : Int) := by omega
      have i4 : (df : Int) < 8 := by omega
      have T23 := hid (And.intro t2 t3)
      rcases R1.out.look (pl : Int) with ⟨_, lk⟩ | ⟨p', c', l', e1, _, _⟩
      · have lk0 : (Instr.lookup 66 (.map (some mb)) (.int .u32 (pl : Int)) true).run Try.prog w1 = .ok (.tuple #[.slice none 0 0, .bool false]) w1 := lk 0
        obtain ⟨D, hD, hA⟩ := R1.out.map
        obtain ⟨es, cl, hup, hup2⟩ := hD.update (P := Try.prog) (t := 66) rfl rfl (pl : Int) (.slice pm l.length cm)
        have RP := hid (RR.put (w' := setBlock w1 mb (.map es cl)) R1.out P1.out T23.out rfl ⟨D, hD, hA, hup2⟩)
        clear lk t1 t2 t3 hdf hD hA hup2
        go_upto_region 9 with fail
        obtain ⟨wu, hwu⟩ : ∃ wu, wu = setBlock w1 mb (.map es cl) := ⟨_, rfl⟩
        rw [← hwu] at RP
        rw [← hwu]
        clear hwu hup lk0
        have CN := hid (NX.out wu _ RP.out.1)
        obtain ⟨q, hq⟩ : ∃ q, q = nextA 8 n (takeA n pl l A) := ⟨_, rfl⟩
        rw [← HT.out, ← hq] at CN
        have hql := hid (show q.2.1 ≤ n + 8 by rw [hq]; exact nextA_le _ _ _)
        have HQ := hid hq
        clear hq
        go_wp2_with (first
          | (go_at_call 25; refine CN.out.mono ?_; rintro e w3 ⟨⟨v3, us, rfl, hU, hus, hR3⟩, hM3⟩; have U3 := hid hU; have US := hid hus; have R3 := hid hR3; have M3 := hid hM3; have d0 : w3.cell? ⟨r, 0, none⟩ = some (.int .u32 (q.2.1 : Int)) := hR3.blk.cellv rfl; have hr3 := hR3.blk.lt; clear hU hus hR3 hM3)
          | (go_at_call 26; refine (ack_c w3 q.2.1 (by have := hql.out; omega)).mono ?_; rintro e w4 ⟨v4, rfl, O4, hb4⟩; have P4 := hid O4; have B4 := hid hb4; clear O4 hb4))
        go_ret3
        have e2 := HR'.out
        rw [← HQ.out] at e2
        rw [e2]
        exact ⟨⟨_, us, _, rfl, ⟨(U3.out.1.below B4.out).low (by have h1 := B1.out.size; have h2 := RP.out.2.size; omega), fun p hp => (U3.out.2 p hp).below B4.out⟩, US.out, P4.out.lower R3.out.size, R3.out.below B4.out⟩, (((Mod.of_below B1.out (fun k => k = r ∨ k = mb)).step RP.out.2 (fun j _ e => Or.inr e)).trans M3.out).trans (Mod.of_below B4.out _)⟩
      · rw [t1] at e1; cases e1
    · have HT := hid (show takeA n pl l A = A from if_neg ht)
      rcases R1.out.look (pl : Int) with ⟨e1, lk⟩ | ⟨p', c', l', e1, _, lk⟩
      · have lk0 : (Instr.lookup 66 (.map (some mb)) (.int .u32 (pl : Int)) true).run Try.prog w1 = .ok (.tuple #[.slice none 0 0, .bool false]) w1 := lk 0
        by_cases h2 : n ≤ pl
        · have i2 : (n : Int) ≤ (pl : Int) := by omega
          obtain ⟨df, hdf⟩ : ∃ df, df = pl - n := ⟨_, rfl⟩
          have i3 : (pl : Int) - (n : Int) = (df : Int) := by omega
          have i4 : ¬ (df : Int) < 8 := fun h => ht ⟨e1, h2, by omega⟩
          clear lk e1 ht h2 hdf
          go_upto_region 9 with fail
          have CN := hid (NX.out w1 _ R1.out)
          obtain ⟨q, hq⟩ : ∃ q, q = nextA 8 n (takeA n pl l A) := ⟨_, rfl⟩
          rw [← HT.out, ← hq] at CN
          have hql := hid (show q.2.1 ≤ n + 8 by rw [hq]; exact nextA_le _ _ _)
          have HQ := hid hq
          clear hq
          go_wp2_with (first
            | (go_at_call 25; refine CN.out.mono ?_; rintro e w3 ⟨⟨v3, us, rfl, hU, hus, hR3⟩, hM3⟩; have U3 := hid hU; have US := hid hus; have R3 := hid hR3; have M3 := hid hM3; have d0 : w3.cell? ⟨r, 0, none⟩ = some (.int .u32 (q.2.1 : Int)) := hR3.blk.cellv rfl; have hr3 := hR3.blk.lt; clear hU hus hR3 hM3)
            | (go_at_call 26; refine (ack_c w3 q.2.1 (by have := hql.out; omega)).mono ?_; rintro e w4 ⟨v4, rfl, O4, hb4⟩; have P4 := hid O4; have B4 := hid hb4; clear O4 hb4))
          go_ret3
          have e2 := HR'.out
          rw [← HQ.out] at e2
          rw [e2]
          exact ⟨⟨_, us, _, rfl, ⟨(U3.out.1.below B4.out).low (by have h1 := B1.out.size; have h2 := w1.heap.size.le_refl; omega), fun p hp => (U3.out.2 p hp).below B4.out⟩, US.out, P4.out.lower R3.out.size, R3.out.below B4.out⟩, ((Mod.of_below B1.out (fun k => k = r ∨ k = mb)).trans M3.out).trans (Mod.of_below B4.out _)⟩
        · have i2 : ¬ (n : Int) ≤ (pl : Int) := by omega
          clear lk e1 ht h2
          go_upto_region 9 with fail
          have CN := hid (NX.out w1 _ R1.out)
          obtain ⟨q, hq⟩ : ∃ q, q = nextA 8 n (takeA n pl l A) := ⟨_, rfl⟩
          rw [← HT.out, ← hq] at CN
          have hql := hid (show q.2.1 ≤ n + 8 by rw [hq]; exact nextA_le _ _ _)
          have HQ := hid hq
          clear hq
          go_wp2_with (first
            | (go_at_call 25; refine CN.out.mono ?_; rintro e w3 ⟨⟨v3, us, rfl, hU, hus, hR3⟩, hM3⟩; have U3 := hid hU; have US := hid hus; have R3 := hid hR3; have M3 := hid hM3; have d0 : w3.cell? ⟨r, 0, none⟩ = some (.int .u32 (q.2.1 : Int)) := hR3.blk.cellv rfl; have hr3 := hR3.blk.lt; clear hU hus hR3 hM3)
            | (go_at_call 26; refine (ack_c w3 q.2.1 (by have := hql.out; omega)).mono ?_; rintro e w4 ⟨v4, rfl, O4, hb4⟩; have P4 := hid O4; have B4 := hid hb4; clear O4 hb4))
          go_ret3
          have e2 := HR'.out
          rw [← HQ.out] at e2
          rw [e2]
          exact ⟨⟨_, us, _, rfl, ⟨(U3.out.1.below B4.out).low (by have h1 := B1.out.size; have h2 := w1.heap.size.le_refl; omega), fun p hp => (U3.out.2 p hp).below B4.out⟩, US.out, P4.out.lower R3.out.size, R3.out.below B4.out⟩, ((Mod.of_below B1.out (fun k => k = r ∨ k = mb)).trans M3.out).trans (Mod.of_below B4.out _)⟩
      · have lk0 : (Instr.lookup 66 (.map (some mb)) (.int .u32 (pl : Int)) true).run Try.prog w1 = .ok (.tuple #[.slice p' l'.length c', .bool true]) w1 := lk 0
        clear lk e1 ht
        go_upto_region 9 with fail
        have CN := hid (NX.out w1 _ R1.out)
        obtain ⟨q, hq⟩ : ∃ q, q = nextA 8 n (takeA n pl l A) := ⟨_, rfl⟩
        rw [← HT.out, ← hq] at CN
        have hql := hid (show q.2.1 ≤ n + 8 by rw [hq]; exact nextA_le _ _ _)
        have HQ := hid hq
        clear hq
        go_wp2_with (first
          | (go_at_call 25; refine CN.out.mono ?_; rintro e w3 ⟨⟨v3, us, rfl, hU, hus, hR3⟩, hM3⟩; have U3 := hid hU; have US := hid hus; have R3 := hid hR3; have M3 := hid hM3; have d0 : w3.cell? ⟨r, 0, none⟩ = some (.int .u32 (q.2.1 : Int)) := hR3.blk.cellv rfl; have hr3 := hR3.blk.lt; clear hU hus hR3 hM3)
          | (go_at_call 26; refine (ack_c w3 q.2.1 (by have := hql.out; omega)).mono ?_; rintro e w4 ⟨v4, rfl, O4, hb4⟩; have P4 := hid O4; have B4 := hid hb4; clear O4 hb4))
        go_ret3
        have e2 := HR'.out
        rw [← HQ.out] at e2
        rw [e2]
        exact ⟨⟨_, us, _, rfl, ⟨(U3.out.1.below B4.out).low (by have h1 := B1.out.size; have h2 := w1.heap.size.le_refl; omega), fun p hp => (U3.out.2 p hp).below B4.out⟩, US.out, P4.out.lower R3.out.size, R3.out.below B4.out⟩, ((Mod.of_below B1.out (fun k => k = r ∨ k = mb)).trans M3.out).trans (Mod.of_below B4.out _)⟩
  · have e0 : (P.1 != 0) = true := by simpa using h0
    have HR' := hid (HR.out.trans (if_neg h0))
    go_enter Try.func11, Try.ntmps11
    go_wp2_with (go_at_call 24; refine CP.out.mono ?_; rintro e w1 ⟨⟨v1, rfl, O1⟩, hb1⟩; have B1 := hid hb1; clear O1 hb1)
    go_ret3
    rw [HR'.out]
    exact ⟨⟨_, [], _, rfl, ⟨Rw.nil _ _ _, fun p hp => by cases hp⟩, rfl, Ow.nil _ _, H.out.below B1.out⟩, Mod.of_below B1.out _⟩
end Go.Proofs.Ytkehejkjifgieaa
