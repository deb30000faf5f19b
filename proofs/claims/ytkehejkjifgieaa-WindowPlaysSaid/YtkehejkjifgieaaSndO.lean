/- The sender: Out. -/
import Derived.Test.YtkehejkjifgieaaSnd
namespace Go.Proofs.Ytkehejkjifgieaa
open Go.RowKit Go.ChangeMaps

/-- As Last; and what is done has what it waits for done. -/
def LastD (D : List (List Nat)) (w0 : World) (m : Nat) (φ : Nat → Value → World → Prop) (E : World → Prop) (L : Nat → Bool) (V : Nat → Value) (w : World) : Prop :=
  Last w0 m φ E L V w ∧ ∀ j, j < m → L j = true → ∀ i ∈ D.getD j [], L i = true
section
variable {D : List (List Nat)} {w0 : World} {m : Nat} {φ : Nat → Value → World → Prop} {E : World → Prop} {L : Nat → Bool} {V : Nat → Value} {w w' : World}
theorem updL_of {k i : Nat} (h : L i = true) : updL L k i = true := by
  by_cases e : i = k
  · subst e; exact updL_same _ _
  · rw [updL_ne e]; exact h
theorem LastD.val (h : LastD D w0 m φ E L V w) (hmono : ∀ j v w w', φ j v w → Below w.heap.size w w' → φ j v w') {k : Nat} (hk : L k = false) (hkm : k < m) (hb : Below w.heap.size w w') {v : Value} (hv : φ k v w') (hd : ∀ i ∈ D.getD k [], L i = true) : LastD D w0 m φ E (updL L k) (updV V k v) w' := by
  refine ⟨h.1.val hmono hk hkm hb hv, fun j hj hl i hi => updL_of ?_⟩
  by_cases e : j = k
  · subst e; exact hd i hi
  · rw [updL_ne e] at hl; exact h.2 j hj hl i hi
theorem LastD.fin (h : LastD D w0 m φ E L V w) (hall : ∀ j, j < m → L j = true) (v : Value) (hE : E w') : LastD D w0 m φ E (updL L m) (updV V m v) w' :=
  ⟨Last.fin hall v hE, fun j hj _ i hi => updL_of (h.2 j hj (hall j hj) i hi)⟩
theorem LastD.start : LastD D w m φ E (fun _ => false) (fun _ => undef) w.drew := ⟨Last.start, fun _ _ h => Bool.noConfusion h⟩
theorem all0 : ∀ i ∈ ([] : List Nat), L i = true := fun i hi => by cases hi
theorem all1 {a : Nat} (h : L a = true) : ∀ i ∈ [a], L i = true := fun i hi => by rw [List.mem_singleton] at hi; rw [hi]; exact h
theorem all2 {a b : Nat} (h : L a = true) (k : L b = true) : ∀ i ∈ [a, b], L i = true := fun i hi => by
  simp only [List.mem_cons, List.not_mem_nil, or_false] at hi
  rcases hi with rfl | rfl
  · exact h
  · exact k
theorem all3 {a b c : Nat} (h : L a = true) (k : L b = true) (l : L c = true) : ∀ i ∈ [a, b, c], L i = true := fun i hi => by
  simp only [List.mem_cons, List.not_mem_nil, or_false] at hi
  rcases hi with rfl | rfl | rfl
  · exact h
  · exact k
  · exact l
end
/-- A row of byte strings just made. -/
def Us (w : World) (base : Nat) (v : Value) (us : List (Value × List W8)) : Prop := Rw w base 29 v (us.map (·.1)) ∧ ∀ p ∈ us, Ow w base p.1 p.2
section
variable {w w' : World} {base : Nat} {v : Value} {us : List (Value × List W8)}
theorem Us.nil (w : World) (base : Nat) : Us w base (.slice none 0 0) [] := ⟨Rw.nil _ _ _, fun p hp => by cases hp⟩
theorem Us.mod {S : Nat → Prop} (h : Us w base v us) (M : Mod S w w') (hs : ∀ k cs T, Blk w k cs T → T = 29 ∨ T = 5 → ¬ S k) : Us w' base v us :=
  ⟨h.1.mod M (fun k hk => by obtain ⟨cs, hb⟩ := h.1.kind hk; exact hs k cs _ hb (Or.inl rfl)), fun p hp => (h.2 p hp).mod M (fun k hk => by obtain ⟨cs, hb⟩ := (h.2 p hp).kind hk; exact hs k cs _ hb (Or.inr rfl))⟩
theorem Us.below (h : Us w base v us) (hb : Below w.heap.size w w') : Us w' base v us := ⟨h.1.below hb, fun p hp => (h.2 p hp).below hb⟩
theorem Us.push {v' x : Value} {xs : List W8} (h : Us w base v us) (hR : Rw w' base 29 v' (us.map (·.1) ++ [x])) (M : Mod (fun k => v.ownBlock = some k) w w') (hO : Ow w base x xs) : Us w' base v' (us ++ [(x, xs)]) := by
  have key : ∀ {u : Value} {ys : List W8}, Ow w base u ys → Ow w' base u ys := fun hu => hu.mod M (fun k hk e => by
    obtain ⟨cs, b1⟩ := hu.kind hk
    obtain ⟨cs', b2⟩ := h.1.kind e
    exact absurd (Blk.inj b1 b2).2 (by decide))
  refine ⟨by rw [List.map_append]; exact hR, fun p hp => ?_⟩
  rcases List.mem_append.1 hp with hp | hp
  · exact key (h.2 p hp)
  · rw [List.mem_singleton] at hp; subst hp; exact key hO
end
def dueAt (m : List Ent) (id : Int) : Int := ((m.find? (fun p => decide (p.1 = id))).map (·.2)).getD 0
/-- What is sent of messages from a place on, and the timers then. -/
def outL (now b0 : Nat) : List (List W8) → Nat → List Ent → List (List W8) × List Ent
  | [], _, m => ([], m)
  | x :: l, i, m =>
    if hasL m ((b0 + i : Nat) : Int) = true ∧ (now : Int) < dueAt m ((b0 + i : Nat) : Int) then outL now b0 l (i + 1) m
    else (dataB (b0 + i) x :: (outL now b0 l (i + 1) (setL m ((b0 + i : Nat) : Int) (laterN now))).1, (outL now b0 l (i + 1) (setL m ((b0 + i : Nat) : Int) (laterN now))).2)
theorem keys_set {b0 i : Nat} {m : List Ent} {at_ : Int} (h : ∀ e ∈ m, (b0 : Int) ≤ e.1 ∧ e.1 < (b0 : Int) + 8) (hi : i < 8) : ∀ e ∈ setL m ((b0 + i : Nat) : Int) at_, (b0 : Int) ≤ e.1 ∧ e.1 < (b0 : Int) + 8 := by
  intro e he
  unfold setL at he
  rcases (mem_ins _ _ _).1 he with rfl | he
  · exact ⟨by show (b0 : Int) ≤ ((b0 + i : Nat) : Int); omega, by show ((b0 + i : Nat) : Int) < _; omega⟩
  · exact h e ((mem_without _ _ _).1 he).2
set_option maxRecDepth 100000 in
set_option maxHeartbeats 4000000 in
theorem out_c {w : World} {base s t mb b0 : Nat} {sv lv : Value} {ts : List (Value × List W8)} {m : List Ent} (h : SR w base s t mb sv lv ts b0 m) (now : Nat) (hn : now < 18446744073709551616) :
    Calls Try.prog 10 #[.pointer (some ⟨s, 0, none⟩), .int .u64 (now : Int)] w fun e w' => (∃ v us sv', e = .returned v ∧ Us w' w.heap.size v us ∧ us.map (·.2) = (outL now b0 ((ts.map (·.2)).take 8) 0 m).1 ∧ SR w' base s t mb sv' lv ts b0 (outL now b0 ((ts.map (·.2)).take 8) 0 m).2 ∧ ∀ k, Own sv' mb k → Own sv mb k ∨ w.heap.size ≤ k) ∧ Mod (fun k => k = t ∨ Own sv mb k) w w' := by
  obtain ⟨pl, cl, e, hcl⟩ := h.row.slice
  rw [List.length_map] at e hcl
  subst e
  have H := hid h
  have hnow := hid hn
  obtain ⟨n, hnn⟩ : ∃ n, n = ts.length := ⟨_, rfl⟩
  obtain ⟨q, hq⟩ : ∃ q, q = min 8 n := ⟨_, rfl⟩
  have HN := hid hnn
  have HQ := hid hq
  have hmi : (if (n : Int) < 8 then (n : Int) else 8) = (q : Int) := by split <;> omega
  have hmx : max (q : Int) 0 = (q : Int) := by omega
  have hqn : q ≤ n := by omega
  have hq8 : q ≤ 8 := by omega
  rw [← hnn] at hcl
  have hqc : (q : Int) ≤ (cl : Int) := by omega
  have c0 : w.cell? ⟨s, 0, none⟩ = some (.slice pl n cl) := by rw [hnn]; exact h.blk.cellv rfl
  have hltn := hid h.blk.lt
  obtain ⟨A, hA⟩ : ∃ A, A = (ts.map (·.2)).take 8 := ⟨_, rfl⟩
  obtain ⟨r, hr⟩ : ∃ r, r = outL now b0 A 0 m := ⟨_, rfl⟩
  rw [← hA, ← hr]
  have HA := hid hA
  have HR := hid hr
  rw [← hnn] at H ⊢
  clear h hnn hq hA hr hn
  go_enter Try.func10, Try.ntmps10
  go_upto_region 4 with fail
  go_quiet (fail)
  obtain ⟨wq, hwq⟩ : ∃ wq, wq = w.drewN nq := ⟨_, rfl⟩
  have BQ := hid (show Below w.heap.size w wq by rw [hwq]; exact below_drewN (Below.refl _ _) _)
  rw [← hwq]
  clear hwq hmi hmx c0
  have SQ := hid (H.out.below BQ.out)
  have MQ := hid (show Mod (fun k => k = t ∨ Own sv mb k) w wq from Mod.of_below BQ.out _)
  go_wp2
  go_loopg [5, 25] q (fun g v5 v25 wr => ∃ (k : Nat) (us : List (Value × List W8)) (svk : Value) (mk : List Ent), v25 = .int .i64 k ∧ g = q - k ∧ k ≤ q ∧ Hid (Us wr w.heap.size v5 us) ∧ Hid (us.length ≤ k) ∧ Hid (SR wr base s t mb svk (.slice pl n cl) ts b0 mk) ∧
    Hid (r = (us.map (·.2) ++ (outL now b0 (A.drop k) k mk).1, (outL now b0 (A.drop k) k mk).2)) ∧ Hid (Mod (fun k => k = t ∨ Own sv mb k) w wr) ∧ Hid (∀ j, Own svk mb j → Own sv mb j ∨ w.heap.size ≤ j))
  case atStart => exact ⟨0, [], sv, m, rfl, rfl, Nat.zero_le _, hid (Us.nil _ _), hid (Nat.le_refl _), SQ, hid HR.out, MQ, hid (fun j hj => Or.inl hj)⟩
  case round =>
    obtain ⟨k, us, svk, mk, rfl, hg, hk, U, UL, SK, RK, MK, OK⟩ := hrel
    have hs0 := SK.out.blk.lt
    have d1 : wr.cell? ⟨s, 1, none⟩ = some (.int .u32 (b0 : Int)) := SK.out.blk.cellv rfl
    have d2 : wr.cell? ⟨s, 2, none⟩ = some (.pointer (some ⟨t, 0, none⟩)) := SK.out.blk.cellv rfl
    by_cases hkq : k < q
    · have hki : (k : Int) < (q : Int) := by omega
      have hkn : k < ts.length := by have := HN.out; omega
      obtain ⟨x, hx⟩ : ∃ x, x = ts[k] := ⟨_, rfl⟩
      have hxm := hid (show x ∈ ts by rw [hx]; exact List.getElem_mem _)
      obtain ⟨g0, off, cl', e, hcl', hcell⟩ := SK.out.row.cell (i := k) (by rw [List.length_map]; exact hkn)
      rw [List.length_map, ← HN.out] at e
      cases e
      rw [List.getElem_map, ← hx] at hcell
      have OX := hid (SK.out.bys x hxm.out)
      have LX := hid (SK.out.lens x hxm.out)
      obtain ⟨px, cx, hpx⟩ := OX.out.slice
      rw [hpx] at hcell
      have HPX := hid hpx
      have hAk := hid (show A.drop k = x.2 :: A.drop (k + 1) from by
        have hkA : k < A.length := by rw [HA.out, List.length_take, List.length_map]; have := HQ.out; have := HN.out; omega
        rw [List.drop_eq_getElem_cons hkA]
        congr 1
        have : A[k]? = some x.2 := by rw [HA.out, List.getElem?_take_of_lt (by omega), List.getElem?_map, List.getElem?_eq_getElem hkn, ← hx]; rfl
        exact (List.getElem?_eq_some_iff.1 this).2)
      have hfw := hid SK.out.few
      obtain ⟨pl2, hp2⟩ : ∃ p2, p2 = b0 + k := ⟨_, rfl⟩
      have HP2 := hid hp2
      have hp2i : (b0 : Int) + (k : Int) = (pl2 : Int) := by omega
      have hp2l : pl2 < 4294967296 := by have := hfw.out; omega
      have hbl : b0 ≤ 100000 := by have := hfw.out; omega
      obtain ⟨y, hy⟩ : ∃ y : Int, y = dueAt mk (pl2 : Int) := ⟨_, rfl⟩
      obtain ⟨bb, hbb⟩ : ∃ bb : Bool, bb = hasL mk (pl2 : Int) := ⟨_, rfl⟩
      have CA := hid (show Calls Try.prog 20 #[.pointer (some ⟨t, 0, none⟩), .int .u32 (pl2 : Int)] wr fun e w' => e = .returned (.tuple #[.int .u64 y, .bool bb]) ∧ w' = wr from by rw [hy, hbb]; exact at_r SK.out.due _)
      have RN := hid (show outL now b0 (A.drop k) k mk = if bb = true ∧ (now : Int) < y then outL now b0 (A.drop (k + 1)) (k + 1) mk else (dataB pl2 x.2 :: (outL now b0 (A.drop (k + 1)) (k + 1) (setL mk (pl2 : Int) (laterN now))).1, (outL now b0 (A.drop (k + 1)) (k + 1) (setL mk (pl2 : Int) (laterN now))).2) from by
        rw [hAk.out, hy, hbb, hp2]; rfl)
      have HK1 := hid (show k + 1 ≤ q by omega)
      clear hx hp2 hy hbb hpx
      by_cases hw : bb = true ∧ (now : Int) < y
      · obtain ⟨rfl, hyi⟩ := hw
        rw [if_pos ⟨rfl, hyi⟩] at RN
        go_wp2_with (go_at_call 20; refine CA.out.mono ?_; rintro e w1 ⟨rfl, rfl⟩)
        go_roundg (q - (k + 1))
        case measure => omega
        case rel => exact ⟨k + 1, us, svk, mk, by go_num, rfl, HK1.out, U, hid (by have := UL.out; omega), SK, hid (by rw [RK.out, RN.out]), MK, OK⟩
      · rw [if_neg hw] at RN
        have CD := hid (fun (W : World) (hb : Below wr.heap.size wr W) => show Calls Try.prog 21 #[.int .u32 (pl2 : Int), .slice px x.2.length cx] W fun e w' => ∃ v', e = .returned v' ∧ Ow w' W.heap.size v' (dataB pl2 x.2) ∧ Below W.heap.size W w' from
          data_c (by have := (OX.out.below hb).bytes; rwa [HPX.out] at this) (by have := LX.out; omega) pl2 hp2l)
        have hsend : (bb = false) ∨ (bb = true ∧ ¬ (now : Int) < y) := by
          cases bb with
          | false => exact Or.inl rfl
          | true => exact Or.inr ⟨rfl, fun h => hw ⟨rfl, h⟩⟩
        clear hw
        rcases hsend with rfl | ⟨rfl, hyi⟩
        all_goals
          go_upto_region 10 with (go_at_call 20; refine CA.out.mono ?_; rintro e w1 ⟨rfl, rfl⟩)
          clear CA
          obtain ⟨D, hD⟩ : ∃ D, D = dataB pl2 x.2 := ⟨_, rfl⟩
          rw [← hD] at CD RN
          clear hD
          have hlen := hid (show (us.map (·.1)).length ≤ 1000000 by rw [List.length_map]; have := UL.out; omega)
          have hwz := hid MK.out.size
          go_upto_region 11 with (first
            | (go_at_call 21; refine (CD.out _ (Below.refl _ _)).mono ?_; rintro e w2 ⟨v2, rfl, O2, hb2⟩; obtain ⟨pd, cd, rfl⟩ := O2.slice; have P2 := hid O2; have B2 := hid hb2; clear O2 hb2)
            | (at_builtin; refine wpList_push rfl (.tmp 52) (.tmp 56) 22 29 rfl Try.underlying22 info_slice rfl (by decide) rfl rfl ((U.out.below B2.out).1.alloc _) ((Blk.new _ _ _).cellv rfl) rfl hlen.out (by have := hwz.out; have := B2.out.size; simp; omega) ?_; intro v5 w5 R5 M5 o5; have P5 := hid R5; have N5 := hid M5; clear R5 M5 o5))
          clear CD
          have B3 := hid (show Below w1.heap.size w1 (w2.alloc (.cells #[.slice pd D.length cd] 29)) from B2.out.alloc B2.out.size _)
          have U3 := hid (U.out.below B3.out)
          have S3 := hid (SK.out.below B3.out)
          have U5 := hid (U3.out.push (xs := D) P5.out N5.out ((P2.out.lower hwz.out).alloc _))
          have S5 := hid (S3.out.mod N5.out (S3.out.apart_row U3.out.1 (fun j hj e => by
            have h1 := (H.out.row.lt j hj).2
            have h2 := (U3.out.1.lt j e).1
            omega)))
          have M5 := hid (show Mod (fun k => k = t ∨ Own sv mb k) w w5 from (MK.out.trans (Mod.of_below B3.out _)).step N5.out (fun j hj e => by
            have h2 := (U3.out.1.lt j e).1
            omega))
          have SET := hid (fun (W : World) (hb : Below w5.heap.size w5 W) => set_ok (S5.out.due.below hb) (pl2 : Int) (laterN now : Int) (by have := S5.out.few8; omega) rfl)
          have CT := hid (fun (W : World) (hb : Below w5.heap.size w5 W) => show W.cell? ⟨s, 2, none⟩ = some (.pointer (some ⟨t, 0, none⟩)) from (S5.out.below hb).blk.cellv rfl)
          clear P5 N5 P2 B2 B3 U3 S3 U SK MK
          refine region_inv (n := 68) (I := LastD [[], [0], [1], [2], [], [], [5]] w5 7 (fun k v _ => v = ([.pointer (some ⟨s, 0, none⟩), .pointer (some ⟨s, 0, none⟩), .pointer (some ⟨s, 2, none⟩), .pointer (some ⟨t, 0, none⟩), .int .u32 (pl2 : Int), .int .u64 (now : Int), .int .u64 (laterN now : Int), undef] : List Value).getD k undef) (fun W => ∃ sv2, Mod (fun k => k = t ∨ Own svk mb k) w5 W ∧ (∀ j, Own sv2 mb j → Own svk mb j ∨ w5.heap.size ≤ j) ∧ Rep W t mb sv2 (setL mk (pl2 : Int) (laterN now : Int)))) (by kernel_rfl) (by kernel_rfl) (by kernel_rfl) (by kernel_rfl) LastD.start ?hop ?hend
          case hop =>
            refine And.intro ?_ ?_
            · intro L V ρ w' hI hk hc hf hd hs
              have s0 : ρ (.tmp 0) = .pointer (some ⟨s, 0, none⟩) := hs 0 (by kernel_rfl)
              have hdp : ∀ i ∈ ([[], [0], [1], [2], [], [], [5]] : List (List Nat)).getD 0 [], L i = true := (all0)
              clear hd hs
              rw [BigFrame.run_move (.tmp 0) rfl]
              exact hI.val (fun _ _ _ _ h _ => h) hk (by decide) (Below.refl _ _) s0 hdp
            refine And.intro ?_ ?_
            · intro L V ρ w' hI hk hc hf hd hs
              have h58 := (hd 0 (by kernel_rfl)).1
              have s58 : ρ (.tmp 58) = .pointer (some ⟨s, 0, none⟩) := ((hd 0 (by kernel_rfl)).2 58 (by kernel_rfl)).trans (hI.1.at (j := 0) hk (by decide) (by decide) (hd 0 (by kernel_rfl)).1)
              have hdp : ∀ i ∈ ([[], [0], [1], [2], [], [], [5]] : List (List Nat)).getD 1 [], L i = true := (all1 (hd 0 (by kernel_rfl)).1)
              clear hd hs
              exact outcome_value (v := .pointer (some ⟨s, 0, none⟩)) (by simp [go_sem, s58]) (hI.val (fun _ _ _ _ h _ => h) hk (by decide) (Below.refl _ _) rfl hdp)
            refine And.intro ?_ ?_
            · intro L V ρ w' hI hk hc hf hd hs
              have h59 := (hd 1 (by kernel_rfl)).1
              have s59 : ρ (.tmp 59) = .pointer (some ⟨s, 0, none⟩) := ((hd 1 (by kernel_rfl)).2 59 (by kernel_rfl)).trans (hI.1.at (j := 1) hk (by decide) (by decide) (hd 1 (by kernel_rfl)).1)
              have hdp : ∀ i ∈ ([[], [0], [1], [2], [], [], [5]] : List (List Nat)).getD 2 [], L i = true := (all1 (hd 1 (by kernel_rfl)).1)
              clear hd hs
              exact outcome_value (v := .pointer (some ⟨s, 2, none⟩)) (by simp [go_sem, s59]) (hI.val (fun _ _ _ _ h _ => h) hk (by decide) (Below.refl _ _) rfl hdp)
            refine And.intro ?_ ?_
            · intro L V ρ w' hI hk hc hf hd hs
              have h60 := (hd 2 (by kernel_rfl)).1
              have s60 : ρ (.tmp 60) = .pointer (some ⟨s, 2, none⟩) := ((hd 2 (by kernel_rfl)).2 60 (by kernel_rfl)).trans (hI.1.at (j := 2) hk (by decide) (by decide) (hd 2 (by kernel_rfl)).1)
              have hdp : ∀ i ∈ ([[], [0], [1], [2], [], [], [5]] : List (List Nat)).getD 3 [], L i = true := (all1 (hd 2 (by kernel_rfl)).1)
              clear hd hs
              have cell0 := CT.out w' (hI.1.below hk (by decide))
              exact outcome_value (v := .pointer (some ⟨t, 0, none⟩)) (by simp [go_sem, s60, cell0]) (hI.val (fun _ _ _ _ h _ => h) hk (by decide) (Below.refl _ _) rfl hdp)
            refine And.intro ?_ ?_
            · intro L V ρ w' hI hk hc hf hd hs
              have s8 : ρ (.tmp 8) = .int .u32 (pl2 : Int) := hs 8 (by kernel_rfl)
              have hdp : ∀ i ∈ ([[], [0], [1], [2], [], [], [5]] : List (List Nat)).getD 4 [], L i = true := (all0)
              clear hd hs
              rw [BigFrame.run_move (.tmp 8) rfl]
              exact hI.val (fun _ _ _ _ h _ => h) hk (by decide) (Below.refl _ _) s8 hdp
            refine And.intro ?_ ?_
            · intro L V ρ w' hI hk hc hf hd hs
              have s1 : ρ (.tmp 1) = .int .u64 (now : Int) := hs 1 (by kernel_rfl)
              have hdp : ∀ i ∈ ([[], [0], [1], [2], [], [], [5]] : List (List Nat)).getD 5 [], L i = true := (all0)
              clear hd hs
              rw [BigFrame.run_move (.tmp 1) rfl]
              exact hI.val (fun _ _ _ _ h _ => h) hk (by decide) (Below.refl _ _) s1 hdp
            refine And.intro ?_ ?_
            · intro L V ρ w' hI hk hc hf hd hs
              have h63 := (hd 5 (by kernel_rfl)).1
              have s63 : ρ (.tmp 63) = .int .u64 (now : Int) := ((hd 5 (by kernel_rfl)).2 63 (by kernel_rfl)).trans (hI.1.at (j := 5) hk (by decide) (by decide) (hd 5 (by kernel_rfl)).1)
              have hdp : ∀ i ∈ ([[], [0], [1], [2], [], [], [5]] : List (List Nat)).getD 6 [], L i = true := (all1 (hd 5 (by kernel_rfl)).1)
              clear hd hs
              refine outcome_enter (w := w') (f := 23) (args := #[.int .u64 (now : Int)]) (by simp [go_sem, hf, s63]) ?_
              refine (later_c w' now hnow.out).mono ?_
              rintro e w2 ⟨rfl, rfl⟩
              exact ⟨_, rfl, hI.val (fun _ _ _ _ h _ => h) hk (by decide) (Below.refl _ _) rfl hdp⟩
            refine And.intro ?_ ?_
            · intro L V ρ w' hI hk hc hf hd hs
              have h61 := (hd 3 (by kernel_rfl)).1
              have s61 : ρ (.tmp 61) = .pointer (some ⟨t, 0, none⟩) := ((hd 3 (by kernel_rfl)).2 61 (by kernel_rfl)).trans (hI.1.at (j := 3) hk (by decide) (by decide) (hd 3 (by kernel_rfl)).1)
              have h62 := (hd 4 (by kernel_rfl)).1
              have s62 : ρ (.tmp 62) = .int .u32 (pl2 : Int) := ((hd 4 (by kernel_rfl)).2 62 (by kernel_rfl)).trans (hI.1.at (j := 4) hk (by decide) (by decide) (hd 4 (by kernel_rfl)).1)
              have h64 := (hd 6 (by kernel_rfl)).1
              have s64 : ρ (.tmp 64) = .int .u64 (laterN now : Int) := ((hd 6 (by kernel_rfl)).2 64 (by kernel_rfl)).trans (hI.1.at (j := 6) hk (by decide) (by decide) (hd 6 (by kernel_rfl)).1)
              have g6 := (hd 6 (by kernel_rfl)).1
              have g5 := hI.2 6 (by decide) g6 5 (by decide)
              have g4 := (hd 4 (by kernel_rfl)).1
              have g3 := (hd 3 (by kernel_rfl)).1
              have g2 := hI.2 3 (by decide) g3 2 (by decide)
              have g1 := hI.2 2 (by decide) g2 1 (by decide)
              have g0 := hI.2 1 (by decide) g1 0 (by decide)
              have hall : ∀ j, j < 7 → L j = true := fun j hj => by
                have : j = 0 ∨ j = 1 ∨ j = 2 ∨ j = 3 ∨ j = 4 ∨ j = 5 ∨ j = 6 := by omega
                rcases this with rfl | rfl | rfl | rfl | rfl | rfl | rfl
                all_goals assumption
              have hbw := hI.1.below hk (by decide)
              clear hd hs
              refine outcome_enter (w := w') (f := 22) (args := #[.pointer (some ⟨t, 0, none⟩), .int .u32 (pl2 : Int), .int .u64 (laterN now : Int)]) (by simp [go_sem, hf, s61, s62, s64]) ?_
              refine (SET.out w' hbw).mono ?_
              rintro e w2 ⟨M2, sv2, L2, rfl, R2⟩
              exact ⟨_, rfl, hI.fin hall _ ⟨sv2, (Mod.of_below hbw _).trans M2, fun j hj => (L2 j hj).imp id (fun h => Nat.le_trans hbw.size h), R2⟩⟩
            exact trivial
          case hend =>
            intro L V w13 hL hI
            obtain ⟨sv2, hM, hO, hR⟩ := (hI.1.2 (hL 7 (by decide))).2
            have E1 := hid hM; have E2 := hid hO; have E3 := hid hR
            simp only [lexF, Act.put, List.setIfInBounds_toArray, List.set_cons_zero, List.set_cons_succ]
            clear hI hL hM hO hR SET CT
            have S13 := hid (S5.out.timed E1.out E3.out (fun j hj => (E2.out j hj).elim (fun h => S5.out.own.2.2 j h) (fun h => Nat.le_trans S5.out.size h)) (by rw [HP2.out]; exact keys_set S5.out.keys (by omega)))
            have U13 := hid (U5.out.mod E1.out (fun j cs T hb hT hS => by
              rcases S5.out.due.kind hS hb with e | e <;> rcases hT with e' | e' <;> rw [e'] at e <;> exact absurd e (by decide)))
            have M13 := hid (show Mod (fun k => k = t ∨ Own sv mb k) w w13 from M5.out.step E1.out (fun j hj e => e.imp id (fun h => (OK.out j h).elim id (fun h => by omega))))
            have O13 := hid (show ∀ j, Own sv2 mb j → Own sv mb j ∨ w.heap.size ≤ j from fun j hj => (E2.out j hj).elim (OK.out j) (fun h => Or.inr (Nat.le_trans M5.out.size h)))
            clear E1 E2 E3 S5 U5 M5 OK
            go_wp2
            go_roundg (q - (k + 1))
            case measure => omega
            case rel => exact ⟨k + 1, _, sv2, _, by go_num, rfl, HK1.out, U13, hid (by rw [List.length_append]; have := UL.out; simp; omega), S13, hid (by rw [RK.out, RN.out]; simp), M13, O13⟩
    · have hki : ¬ (k : Int) < (q : Int) := by omega
      have hkq' : k = q := by omega
      have hAq := hid (show A.drop k = [] from by
        rw [List.drop_eq_nil_iff, HA.out, List.length_take, List.length_map]; have := HQ.out; have := HN.out; omega)
      go_wp2
      go_ret
      have hr := RK.out
      rw [hAq.out] at hr
      have hr1 : r = (us.map (·.2), mk) := by rw [hr]; simp [outL]
      rw [hr1]
      exact ⟨⟨_, rfl, us, U.out, rfl, svk, SK.out, OK.out⟩, MK.out⟩
end Go.Proofs.Ytkehejkjifgieaa
