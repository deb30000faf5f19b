/- What the program keeps and what the document keeps: the same. -/
import Derived.Test.YtkehejkjifgieaaRRo
import Derived.Test.YtkehejkjifgieaaPair
namespace Go.Proofs.Ytkehejkjifgieaa
open Go.RowKit Go.ChangeMaps

theorem dueAt_cons (x : Ent) (m : List Ent) (y : Int) : dueAt (x :: m) y = if x.1 = y then x.2 else dueAt m y := by
  unfold dueAt
  rw [List.find?_cons]
  by_cases h : x.1 = y
  · rw [if_pos h, decide_eq_true h]; rfl
  · rw [if_neg h, decide_eq_false h]
theorem dueAt_ins {e : Ent} {y : Int} (h : e.1 ≠ y) : ∀ m : List Ent, dueAt (ins e m) y = dueAt m y
  | [] => by show dueAt [e] y = _; rw [dueAt_cons, if_neg h]
  | x :: xs => by
    unfold ins
    split
    · rw [dueAt_cons, if_neg h]
    · rw [dueAt_cons, dueAt_cons, dueAt_ins h xs]
theorem dueAt_ins_same {id a : Int} : ∀ m : List Ent, (∀ p ∈ m, p.1 ≠ id) → dueAt (ins (id, a) m) id = a
  | [], _ => by show dueAt [(id, a)] id = _; rw [dueAt_cons, if_pos rfl]
  | x :: xs, h => by
    unfold ins
    split
    · rw [dueAt_cons, if_pos rfl]
    · rw [dueAt_cons, if_neg (h x (List.mem_cons_self ..)), dueAt_ins_same xs (fun p hp => h p (List.mem_cons_of_mem _ hp))]
theorem dueAt_without {id y : Int} (h : y ≠ id) : ∀ m : List Ent, dueAt (without m id) y = dueAt m y
  | [] => rfl
  | x :: xs => by
    unfold without
    rw [List.filter_cons]
    by_cases hx : x.1 = id
    · rw [if_neg (show ¬ (decide (x.1 ≠ id)) = true by simp [hx]), dueAt_cons x xs, if_neg (by rw [hx]; exact Ne.symm h)]
      exact dueAt_without h xs
    · rw [if_pos (show (decide (x.1 ≠ id)) = true by simp [hx]), dueAt_cons, dueAt_cons]
      exact congrArg (fun z => if x.1 = y then x.2 else z) (dueAt_without h xs)
theorem hasL_without {id y : Int} (h : y ≠ id) (m : List Ent) : hasL (without m id) y = hasL m y := by
  rw [Bool.eq_iff_iff, hasL_iff, hasL_iff]
  constructor
  · rintro ⟨a, ha, e⟩; exact ⟨a, ((mem_without _ _ _).1 ha).2, e⟩
  · rintro ⟨a, ha, e⟩; exact ⟨a, (mem_without _ _ _).2 ⟨by rw [e]; exact h, ha⟩, e⟩
theorem hasL_set {id y a : Int} (h : y ≠ id) (m : List Ent) : hasL (setL m id a) y = hasL m y := by
  rw [← hasL_without h m, Bool.eq_iff_iff, hasL_iff, hasL_iff]
  unfold setL
  constructor
  · rintro ⟨p, hp, e⟩
    rcases (mem_ins _ _ _).1 hp with rfl | hp
    · exact absurd e.symm h
    · exact ⟨p, hp, e⟩
  · rintro ⟨p, hp, e⟩; exact ⟨p, (mem_ins _ _ _).2 (Or.inr hp), e⟩
theorem hasL_set_same {id a : Int} (m : List Ent) : hasL (setL m id a) id = true := (hasL_iff _ _).2 ⟨(id, a), (mem_ins _ _ _).2 (Or.inl rfl), rfl⟩
theorem dueAt_set {id y a : Int} (h : y ≠ id) (m : List Ent) : dueAt (setL m id a) y = dueAt m y := by
  unfold setL
  rw [dueAt_ins (Ne.symm h), dueAt_without h]
theorem dueAt_set_same {id a : Int} (m : List Ent) : dueAt (setL m id a) id = a := dueAt_ins_same _ (fun _ hp => ((mem_without _ _ _).1 hp).1)
theorem dropK_at {b : Nat} {m : List Ent} {y : Int} : ∀ k : Nat, ((b + k : Nat) : Int) ≤ y → hasL (dropK k b m) y = hasL m y ∧ dueAt (dropK k b m) y = dueAt m y
  | 0, _ => ⟨rfl, rfl⟩
  | k + 1, h => by
    obtain ⟨h1, h2⟩ := dropK_at (b := b) (m := m) (y := y) k (by omega)
    have hne : y ≠ ((b + k : Nat) : Int) := by omega
    exact ⟨(hasL_without hne _).trans h1, (dueAt_without hne _).trans h2⟩
theorem dropK_in : ∀ (k b : Nat) (m : List Ent), ∀ e ∈ dropK k b m, e ∈ m
  | 0, _, _, _, h => h
  | k + 1, b, m, e, h => dropK_in k b m e ((mem_without _ _ _).1 h).2
/-- The sender's timers as the document keeps them. -/
structure Ref (m : List Ent) (b : Nat) (L : List (List W8)) (H : List Bool) (T : List Nat) : Prop where
  lh : H.length = L.length
  lt : T.length = L.length
  has : ∀ i, b ≤ i → i < L.length → H.getD i false = hasL m (i : Int)
  due : ∀ i, b ≤ i → i < L.length → hasL m (i : Int) = true → ((T.getD i 0 : Nat) : Int) = dueAt m (i : Int)
  no : ∀ i, L.length ≤ i → hasL m (i : Int) = false
section
variable {m : List Ent} {b : Nat} {L : List (List W8)} {H : List Bool} {T : List Nat}
theorem Ref.start : Ref [] 0 [] [] [] := ⟨rfl, rfl, fun i _ h => by simp at h, fun i _ h => by simp at h, fun _ _ => rfl⟩
theorem getD_append_lt {α : Type} {l l' : List α} {i : Nat} {d : α} (h : i < l.length) : (l ++ l').getD i d = l.getD i d := by
  rw [List.getD_eq_getElem?_getD, List.getD_eq_getElem?_getD, List.getElem?_append_left h]
theorem getD_append_at {α : Type} {l : List α} {x d : α} : (l ++ [x]).getD l.length d = x := by
  rw [List.getD_eq_getElem?_getD, List.getElem?_append_right (Nat.le_refl _), Nat.sub_self]; rfl
theorem Ref.put (h : Ref m b L H T) (xs : List W8) : Ref m b (L ++ [xs]) (H ++ [false]) (T ++ [0]) := by
  refine ⟨by simp [h.lh], by simp [h.lt], fun i hb hi => ?_, fun i hb hi hm => ?_, fun i hi => h.no i (by rw [List.length_append] at hi; omega)⟩
  · rw [List.length_append] at hi
    by_cases e : i < L.length
    · rw [getD_append_lt (by rw [h.lh]; exact e), h.has i hb e]
    · have e : i = H.length := by have := h.lh; simp at hi; omega
      subst e
      rw [getD_append_at, h.no _ (by rw [h.lh]; exact Nat.le_refl _)]
  · rw [List.length_append] at hi
    by_cases e : i < L.length
    · rw [getD_append_lt (by rw [h.lt]; exact e), h.due i hb e hm]
    · rw [h.no i (by omega)] at hm; cases hm
theorem Ref.gone (h : Ref m b L H T) {k : Nat} (hk : b ≤ k) : Ref (dropK (k - b) b m) k L H T := by
  have key : ∀ i, k ≤ i → hasL (dropK (k - b) b m) (i : Int) = hasL m (i : Int) ∧ dueAt (dropK (k - b) b m) (i : Int) = dueAt m (i : Int) := fun i hi => dropK_at _ (by omega)
  refine ⟨h.lh, h.lt, fun i hb hi => by rw [(key i hb).1]; exact h.has i (by omega) hi, fun i hb hi hm => ?_, fun i hi => ?_⟩
  · rw [(key i hb).1] at hm
    rw [(key i hb).2]
    exact h.due i (by omega) hi hm
  · by_cases e : k ≤ i
    · rw [(key i e).1]; exact h.no i hi
    · cases hh : hasL (dropK (k - b) b m) (i : Int) with
      | false => rfl
      | true =>
        obtain ⟨a, ha, e⟩ := (hasL_iff _ _).1 hh
        have := (hasL_iff m (i : Int)).2 ⟨a, dropK_in _ _ _ _ ha, e⟩
        rw [h.no i hi] at this; cases this
theorem Ref.sent (h : Ref m b L H T) {i a : Nat} (hi : i < L.length) : Ref (setL m (i : Int) (a : Int)) b L (H.set i true) (T.set i a) := by
  have g1 : ∀ {α : Type} {l : List α} {x d : α} {j : Nat}, i < l.length → (l.set i x).getD j d = if j = i then x else l.getD j d := fun hl => by
    rename_i α l x d j
    rw [List.getD_eq_getElem?_getD, List.getD_eq_getElem?_getD, List.getElem?_set]
    by_cases e : j = i
    · subst e; simp [hl]
    · rw [if_neg (Ne.symm e), if_neg e]
  refine ⟨by rw [List.length_set]; exact h.lh, by rw [List.length_set]; exact h.lt, fun j hb hj => ?_, fun j hb hj hm => ?_, fun j hj => ?_⟩
  · rw [g1 (by rw [h.lh]; exact hi)]
    by_cases e : j = i
    · rw [if_pos e, e, hasL_set_same]
    · rw [if_neg e, hasL_set (by omega)]; exact h.has j hb hj
  · rw [g1 (by rw [h.lt]; exact hi)]
    by_cases e : j = i
    · rw [if_pos e, e, dueAt_set_same]
    · rw [if_neg e, dueAt_set (by omega)]
      rw [hasL_set (by omega)] at hm
      exact h.due j hb hj hm
  · rw [hasL_set (by omega)]; exact h.no j hj
theorem Ref.out {now : Nat} : ∀ (f i : Nat) {m : List Ent} {H : List Bool} {T : List Nat}, Ref m b L H T → (outL now b ((L.drop (b + i)).take f) i m).1 = (outR now L f (b + i) H T).1 ∧ Ref (outL now b ((L.drop (b + i)).take f) i m).2 b L (outR now L f (b + i) H T).2.1 (outR now L f (b + i) H T).2.2
  | 0, i, m, H, T, h => by rw [List.take_zero]; exact ⟨rfl, h⟩
  | f + 1, i, m, H, T, h => by
    by_cases hi : b + i < L.length
    · have e : (L.drop (b + i)).take (f + 1) = L.getD (b + i) [] :: (L.drop (b + (i + 1))).take f := by
        rw [List.drop_eq_getElem_cons hi, List.take_succ_cons, List.getD_eq_getElem?_getD, List.getElem?_eq_getElem hi]; rfl
      rw [e]
      by_cases hs : H.getD (b + i) false = true ∧ now < T.getD (b + i) 0
      · have hm : hasL m ((b + i : Nat) : Int) = true := by rw [← h.has _ (by omega) hi]; exact hs.1
        have hd := h.due _ (by omega) hi hm
        rw [outR_skip hi hs.1 hs.2, show outL now b (L.getD (b + i) [] :: (L.drop (b + (i + 1))).take f) i m = outL now b ((L.drop (b + (i + 1))).take f) (i + 1) m from if_pos ⟨hm, by omega⟩]
        exact Ref.out f (i + 1) h
      · have hs' : ¬ (hasL m ((b + i : Nat) : Int) = true ∧ (now : Int) < dueAt m ((b + i : Nat) : Int)) := fun ⟨h1, h2⟩ => hs ⟨by rw [h.has _ (by omega) hi]; exact h1, by have := h.due _ (by omega) hi h1; omega⟩
        rw [outR_send hi hs, show outL now b (L.getD (b + i) [] :: (L.drop (b + (i + 1))).take f) i m = (dataB (b + i) (L.getD (b + i) []) :: (outL now b ((L.drop (b + (i + 1))).take f) (i + 1) (setL m ((b + i : Nat) : Int) (laterN now))).1, (outL now b ((L.drop (b + (i + 1))).take f) (i + 1) (setL m ((b + i : Nat) : Int) (laterN now))).2) from if_neg hs']
        obtain ⟨h1, h2⟩ := Ref.out (now := now) f (i + 1) (h.sent (a := laterN now) hi)
        exact ⟨by rw [h1]; rfl, h2⟩
    · have e : (L.drop (b + i)).take (f + 1) = [] := by rw [List.drop_eq_nil_of_le (by omega), List.take_nil]
      rw [e, outR_end (by omega)]
      exact ⟨rfl, h⟩
end
/-- The receiver's messages that came ahead as the document keeps them. -/
structure RefR (N : Nat) (Ar : Int → Option (List W8)) (H : Nat → Bool) (A : Nat → List W8) : Prop where
  in_ : ∀ j, j < 8 → Ar ((N + j : Nat) : Int) = if H j = true then some (A j) else none
  out : ∀ x : Int, (x < (N : Int) ∨ (N : Int) + 8 ≤ x) → Ar x = none
  h8 : ∀ j, 8 ≤ j → H j = false
  a8 : ∀ j, 8 ≤ j → A j = []
section
variable {N : Nat} {Ar : Int → Option (List W8)} {H : Nat → Bool} {A : Nat → List W8}
theorem RefR.start : RefR 0 (fun _ => none) (fun _ => false) (fun _ => []) := ⟨fun _ _ => rfl, fun _ _ => rfl, fun _ _ => rfl, fun _ _ => rfl⟩
theorem RefR.take (h : RefR N Ar H A) (p : Nat) (m : List W8) : RefR N (takeA N p m Ar) (takeRH N p H) (takeRA N p m H A) := by
  have hiff : (Ar (p : Int) = none ∧ N ≤ p ∧ p < N + 8) ↔ takes N p H = true := by
    unfold takes
    rw [decide_eq_true_iff]
    constructor
    · rintro ⟨h1, h2, h3⟩
      refine ⟨h2, h3, ?_⟩
      have := h.in_ (p - N) (by omega)
      rw [show N + (p - N) = p by omega, h1] at this
      cases hh : H (p - N) with
      | false => rfl
      | true => rw [hh] at this; cases this
    · rintro ⟨h2, h3, h1⟩
      refine ⟨?_, h2, h3⟩
      have := h.in_ (p - N) (by omega)
      rw [show N + (p - N) = p by omega, h1] at this
      exact this
  unfold takeA takeRH takeRA
  by_cases hc : takes N p H = true
  · have hc' := hiff.2 hc
    rw [if_pos hc', if_pos hc, if_pos hc]
    refine ⟨fun j hj => ?_, fun x hx => ?_, fun j hj => ?_, fun j hj => ?_⟩
    · by_cases e : j = p - N
      · subst e
        rw [show N + (p - N) = p by omega, updF_same, updF_same]
        exact if_pos rfl
      · rw [updF_ne e, updF_ne e, ← h.in_ j hj]
        exact if_neg (by omega)
    · rw [← h.out x hx]
      exact if_neg (by omega)
    · rw [updF_ne (by omega)]; exact h.h8 j hj
    · rw [updF_ne (by omega)]; exact h.a8 j hj
  · rw [if_neg (fun e => hc (hiff.1 e)), if_neg hc, if_neg hc]
    exact h
theorem RefR.next : ∀ (f : Nat) {N : Nat} {Ar : Int → Option (List W8)} {H : Nat → Bool} {A : Nat → List W8}, RefR N Ar H A → (nextA f N Ar).1 = (drain f N H A).1 ∧ (nextA f N Ar).2.1 = (drain f N H A).2.1 ∧ RefR (drain f N H A).2.1 (nextA f N Ar).2.2 (drain f N H A).2.2.1 (drain f N H A).2.2.2
  | 0, N, Ar, H, A, h => ⟨rfl, rfl, h⟩
  | f + 1, N, Ar, H, A, h => by
    have h0 := h.in_ 0 (by decide)
    rw [Nat.add_zero] at h0
    cases hh : H 0 with
    | false =>
      rw [hh] at h0
      have h0 : Ar (N : Int) = none := h0
      rw [nextA_none h0, drain_none hh]
      exact ⟨rfl, rfl, h⟩
    | true =>
      rw [hh] at h0
      have h0 : Ar (N : Int) = some (A 0) := h0
      rw [nextA_some h0, drain_some hh]
      have h' : RefR (N + 1) (delA Ar (N : Int)) (fun j => H (j + 1)) (fun j => A (j + 1)) := by
        refine ⟨fun j hj => ?_, fun x hx => ?_, fun j hj => h.h8 (j + 1) (by omega), fun j hj => h.a8 (j + 1) (by omega)⟩
        · have e : delA Ar (N : Int) ((N + 1 + j : Nat) : Int) = Ar ((N + 1 + j : Nat) : Int) := if_neg (by omega)
          rw [e]
          by_cases e8 : j + 1 < 8
          · have := h.in_ (j + 1) e8
            rw [show N + (j + 1) = N + 1 + j by omega] at this
            exact this
          · rw [h.out _ (Or.inr (by omega)), h.h8 (j + 1) (by omega)]; rfl
        · by_cases e : x = (N : Int)
          · exact if_pos e
          · rw [show delA Ar (N : Int) x = Ar x from if_neg e]
            exact h.out x (by omega)
      obtain ⟨h1, h2, h3⟩ := RefR.next f h'
      exact ⟨by rw [h1], h2, h3⟩
theorem nextA_bound (f N : Nat) (Ar : Int → Option (List W8)) : (nextA f N Ar).2.1 ≤ N + f := nextA_le f N Ar
end
end Go.Proofs.Ytkehejkjifgieaa

/- The law's texts, frames: equal rows are told equal. -/
namespace Go.Proofs.Ytkehejkjifgieaa
open Go.RowKit Go.ChangeMaps

theorem Ut.cell {w : World} {b1 b2 : Nat} {v : Value} {us : List (Value × List W8)} (h : Ut w b1 b2 v us) {i : Nat} (hi : i < us.length) : ∃ g cap p c, v = .slice (some ⟨g, 0, none⟩) us.length cap ∧ us.length ≤ cap ∧ g < w.heap.size ∧ w.cell? ⟨g, i, none⟩ = some (.slice p ((us.map (·.2)).getD i []).length c) ∧ Bytes w (.slice p ((us.map (·.2)).getD i []).length c) ((us.map (·.2)).getD i []) := by
  obtain ⟨g, cap, e, hc, h1⟩ := h.1.cell (i := i) (by rw [List.length_map]; exact hi)
  rw [List.length_map] at e hc
  have hO := h.2 us[i] (List.getElem_mem hi)
  have e2 : (us.map (·.2)).getD i [] = us[i].2 := by rw [List.getD_eq_getElem?_getD, List.getElem?_map, List.getElem?_eq_getElem hi]; rfl
  obtain ⟨p, c, e3⟩ := hO.slice
  have hl := (h.1.lt g (by rw [e]; rfl)).2
  refine ⟨g, cap, p, c, e, hc, hl, ?_, ?_⟩
  · rw [h1, List.getElem_map, e3, e2]
  · rw [e2, ← e3]; exact hO.bytes
set_option maxRecDepth 100000 in
set_option maxHeartbeats 2000000 in
theorem texts_c {w : World} {b1 b2 base : Nat} {v v' : Value} {us : List (Value × List W8)} {ms : List (List W8)} (hU : Ut w b1 b2 v us) (hS : Sr w base v' ms) (he : us.map (·.2) = ms) (hlen : us.length ≤ 100000) :
    Calls Try.prog 47 #[v, v'] w fun e w' => e = .returned (.bool true) ∧ Below w.heap.size w w' := by
  have HU := hid hU
  have HS := hid hS
  have HE := hid he
  obtain ⟨n, hn⟩ : ∃ n, n = us.length := ⟨_, rfl⟩
  have hm : ms.length = n := by rw [← he, List.length_map, hn]
  obtain ⟨p, c, e⟩ := hU.1.slice
  rw [List.length_map, ← hn] at e
  subst e
  obtain ⟨p', c', e⟩ := hS.slice
  rw [hm] at e
  subst e
  have HN := hid hn
  rw [← hn] at hlen
  have HM := hid hm
  clear hU hS he hn hm
  go_enter Try.func47, Try.ntmps47
  go_upto_region 4 with fail
  go_loopg [5] n (fun g v5 wr => ∃ k : Nat, v5 = .int .i64 k ∧ g = n - k ∧ k ≤ n ∧ Hid (Below w.heap.size w wr))
  case atStart => exact ⟨0, rfl, rfl, Nat.zero_le _, hid (Below.refl _ _)⟩
  case round =>
    obtain ⟨k, rfl, hg, hk, BB⟩ := hrel
    by_cases hkn : k < n
    · have hki : (k : Int) < (n : Int) := by omega
      obtain ⟨g, cap, pk, ck, e1, hc1, hgl, cU, bU⟩ := (HU.out.below BB.out).cell (i := k) (by rw [← HN.out]; exact hkn)
      rw [← HN.out] at e1 hc1
      cases e1
      obtain ⟨g', cap', e2, hc2, cS⟩ := (HS.out.below BB.out).cell (i := k) (by rw [HM.out]; exact hkn)
      rw [HM.out] at e2 hc2
      cases e2
      have hgl' := (Rw.lt (HS.out.below BB.out) g' rfl).2
      rw [HE.out] at cU bU
      obtain ⟨y, hy⟩ : ∃ y, y = ms.getD k [] := ⟨_, rfl⟩
      rw [← hy] at cU bU cS
      obtain ⟨ny, hny⟩ : ∃ ny, ny = y.length := ⟨_, rfl⟩
      have hcv := conv_str' (bU.below ((Below.refl wr.heap.size wr).drew))
      rw [← hny] at cU hcv
      clear bU hy hny
      go_upto_region 6 with fail
      go_region
      go_wp2
      go_roundg (n - (k + 1))
      case measure => omega
      case rel => exact ⟨k + 1, by go_num, rfl, by omega, hid BB.out.drew⟩
    · have hki : ¬ (k : Int) < (n : Int) := by omega
      go_wp2
      go_ret
      exact ⟨rfl, BB.out⟩
set_option maxRecDepth 100000 in
set_option maxHeartbeats 2000000 in
theorem frames_c {w : World} {b1 b2 b3 b4 : Nat} {v v' : Value} {us zs : List (Value × List W8)} (hU : Ut w b1 b2 v us) (hS : Ut w b3 b4 v' zs) (he : us.map (·.2) = zs.map (·.2)) (hlen : us.length ≤ 100000) :
    Calls Try.prog 32 #[v, v'] w fun e w' => e = .returned (.bool true) ∧ Below w.heap.size w w' := by
  have HU := hid hU
  have HS := hid hS
  have HE := hid he
  obtain ⟨n, hn⟩ : ∃ n, n = us.length := ⟨_, rfl⟩
  have hm : zs.length = n := by rw [← List.length_map (f := (·.2)), ← he, List.length_map, hn]
  obtain ⟨p, c, e⟩ := hU.1.slice
  rw [List.length_map, ← hn] at e
  subst e
  obtain ⟨p', c', e⟩ := hS.1.slice
  rw [List.length_map, hm] at e
  subst e
  have HN := hid hn
  rw [← hn] at hlen
  have HM := hid hm
  clear hU hS he hn hm
  go_enter Try.func32, Try.ntmps32
  go_upto_region 4 with fail
  go_loopg [5] n (fun g v5 wr => ∃ k : Nat, v5 = .int .i64 k ∧ g = n - k ∧ k ≤ n ∧ Hid (Below w.heap.size w wr))
  case atStart => exact ⟨0, rfl, rfl, Nat.zero_le _, hid (Below.refl _ _)⟩
  case round =>
    obtain ⟨k, rfl, hg, hk, BB⟩ := hrel
    by_cases hkn : k < n
    · have hki : (k : Int) < (n : Int) := by omega
      obtain ⟨g, cap, pk, ck, e1, hc1, hgl, cU, bU⟩ := (HU.out.below BB.out).cell (i := k) (by rw [← HN.out]; exact hkn)
      rw [← HN.out] at e1 hc1
      cases e1
      obtain ⟨g', cap', pz, cz, e2, hc2, hgl', cS, bS⟩ := (HS.out.below BB.out).cell (i := k) (by rw [HM.out]; exact hkn)
      rw [HM.out] at e2 hc2
      cases e2
      rw [HE.out] at cU bU
      obtain ⟨y, hy⟩ : ∃ y, y = (zs.map (·.2)).getD k [] := ⟨_, rfl⟩
      rw [← hy] at cU bU cS bS
      obtain ⟨ny, hny⟩ : ∃ ny, ny = y.length := ⟨_, rfl⟩
      have hcv := conv_str' (bU.below ((Below.refl wr.heap.size wr).drew))
      have hcv2 := conv_str' (bS.below ((Below.refl wr.heap.size wr).drew))
      rw [← hny] at cU hcv cS hcv2
      clear bU bS hy hny
      go_upto_region 6 with fail
      go_region
      go_wp2
      go_roundg (n - (k + 1))
      case measure => omega
      case rel => exact ⟨k + 1, by go_num, rfl, by omega, hid BB.out.drew⟩
    · have hki : ¬ (k : Int) < (n : Int) := by omega
      go_wp2
      go_ret
      exact ⟨rfl, BB.out⟩
end Go.Proofs.Ytkehejkjifgieaa

/- The sender's Put: its copies are new. -/
namespace Go.Proofs.Ytkehejkjifgieaa
open Go.RowKit Go.ChangeMaps

/-- What is in ts' is in ts, or newer. -/
def NewIn (n : Nat) (ts ts' : List (Value × List W8)) : Prop := ∀ q ∈ ts', q ∈ ts ∨ ∀ k, q.1.ownBlock = some k → n ≤ k
def PutD2 (w0 : World) (base s t mb : Nat) (sv lv : Value) (ts : List (Value × List W8)) (b0 : Nat) (m : List Ent) (xs : List W8) (v : Value) (W : World) : Prop :=
  ∃ wq x, Below w0.heap.size w0 wq ∧ SR wq base s t mb sv lv ts b0 m ∧ Seg W base 29 v (ts.map (·.1) ++ [x]) ∧ Ow W w0.heap.size x xs ∧ Mod (fun k => lv.ownBlock = some k) wq W ∧ (v.ownBlock = lv.ownBlock ∨ v.ownBlock = some wq.heap.size)
def PutE2 (w0 : World) (base s t mb : Nat) (sv lv : Value) (ts : List (Value × List W8)) (b0 : Nat) (m : List Ent) (xs : List W8) (W : World) : Prop :=
  ∃ wq lv' x, Below w0.heap.size w0 wq ∧ SR W base s t mb sv lv' (ts ++ [(x, xs)]) b0 m ∧ Mod (fun k => k = s ∨ lv.ownBlock = some k) wq W ∧ (lv'.ownBlock = lv.ownBlock ∨ lv'.ownBlock = some wq.heap.size) ∧ ∀ k, x.ownBlock = some k → w0.heap.size ≤ k
set_option maxRecDepth 100000 in
set_option maxHeartbeats 2000000 in
theorem sput2_c {w : World} {base s t mb b0 : Nat} {sv lv vb : Value} {ts : List (Value × List W8)} {m : List Ent} {xs : List W8} (h : SR w base s t mb sv lv ts b0 m) (hX : Bytes w vb xs) (hfew : b0 + ts.length < 100000) :
    Calls Try.prog 9 #[.pointer (some ⟨s, 0, none⟩), vb] w fun e w' => e = .returned (.int .i64 (putM (ts.map (·.2)) xs).1) ∧ (∃ lv' ts', SR w' base s t mb sv lv' ts' b0 m ∧ ts'.map (·.2) = (putM (ts.map (·.2)) xs).2 ∧ (∀ k, lv'.ownBlock = some k → lv.ownBlock = some k ∨ w.heap.size ≤ k) ∧ NewIn w.heap.size ts ts') ∧ Mod (fun k => k = s ∨ lv.ownBlock = some k) w w' := by
  obtain ⟨pl, cl, e, _⟩ := h.row.slice
  rw [List.length_map] at e
  subst e
  obtain ⟨pb, cb, eb, hq⟩ := hX
  subst eb
  have HB := hid (show Bytes w (.slice pb xs.length cb) xs from ⟨pb, cb, rfl, hq⟩)
  have H := hid h
  have HF := hid hfew
  have HBS := hid h.size
  have c0 : w.cell? ⟨s, 0, none⟩ = some (.slice pl ts.length cl) := h.blk.cellv rfl
  unfold putM
  obtain ⟨n, hn⟩ : ∃ n, n = ts.length := ⟨_, rfl⟩
  obtain ⟨nb, hnb⟩ : ∃ nb, nb = xs.length := ⟨_, rfl⟩
  have HN := hid hn; have HNB := hid hnb
  rw [List.length_map]
  rw [← hn] at c0 H ⊢
  rw [← hnb] at HB ⊢
  clear hq h hfew hn hnb
  by_cases h5 : 500 < nb
  · have h5i : (500 : Int) < (nb : Int) := by omega
    simp only [if_pos h5]
    go_enter Try.func9, Try.ntmps9
    go_wp2
    go_ret
    exact ⟨rfl, ⟨_, ts, H.out, rfl, fun k hk => Or.inl hk, fun q hq => Or.inl hq⟩, Mod.refl _ _⟩
  · have h5i : ¬ (500 : Int) < (nb : Int) := by omega
    simp only [if_neg h5]
    by_cases h2 : 200 ≤ n
    · have h2i : (200 : Int) ≤ (n : Int) := by omega
      simp only [if_pos h2]
      go_enter Try.func9, Try.ntmps9
      go_wp2
      go_ret
      exact ⟨rfl, ⟨_, ts, H.out, rfl, fun k hk => Or.inl hk, fun q hq => Or.inl hq⟩, Mod.refl _ _⟩
    · have h2i : ¬ (200 : Int) ≤ (n : Int) := by omega
      simp only [if_neg h2]
      have hbl := hid (show xs.length ≤ 100000 by have := HNB.out; omega)
      have hxl := hid (show xs.length ≤ 500 by have := HNB.out; omega)
      go_enter Try.func9, Try.ntmps9
      go_upto_region 7 with fail
      refine region_inv (n := 30) (I := Apd [.pointer (some ⟨s, 0, none⟩), .pointer (some ⟨s, 0, none⟩), .pointer (some ⟨s, 0, none⟩), .pointer (some ⟨s, 0, none⟩), .slice pl n cl, .slice pb nb cb, undef, undef, undef, .pointer (some ⟨s, 0, none⟩), .pointer (some ⟨s, 0, none⟩), undef] 4 6 7 8 11
        (fun W => Below w.heap.size w W ∧ SR W base s t mb sv (.slice pl n cl) ts b0 m)
        (fun v W => Ow W w.heap.size v xs ∧ Below w.heap.size w W ∧ SR W base s t mb sv (.slice pl n cl) ts b0 m)
        (fun v W => ∃ g x, v = .slice (some ⟨g, 0, none⟩) 1 1 ∧ W.cell? ⟨g, 0, none⟩ = some x ∧ Ow W w.heap.size x xs ∧ Below w.heap.size w W ∧ SR W base s t mb sv (.slice pl n cl) ts b0 m)
        (PutD2 w base s t mb sv (.slice pl n cl) ts b0 m xs)
        (PutE2 w base s t mb sv (.slice pl n cl) ts b0 m xs)) (by kernel_rfl) (by kernel_rfl) (by kernel_rfl) (by kernel_rfl) (Apd.start ⟨(Below.refl _ _).drew, H.out.below (Below.refl _ _).drew⟩) ?hop ?hend
      case hop =>
        refine And.intro ?_ ?_
        · intro L V ρ w' hI hk hc hf hd hs
          have s0 : ρ (.tmp 0) = .pointer (some ⟨s, 0, none⟩) := hs 0 (by kernel_rfl)
          clear hd hs
          rw [BigFrame.run_move (.tmp 0) rfl]
          exact hI.val (by decide) (by decide) (by decide) (by decide) s0
        refine And.intro ?_ ?_
        · intro L V ρ w' hI hk hc hf hd hs
          have s0 : ρ (.tmp 0) = .pointer (some ⟨s, 0, none⟩) := hs 0 (by kernel_rfl)
          clear hd hs
          rw [BigFrame.run_move (.tmp 0) rfl]
          exact hI.val (by decide) (by decide) (by decide) (by decide) s0
        refine And.intro ?_ ?_
        · intro L V ρ w' hI hk hc hf hd hs
          have h20 := (hd 1 (by kernel_rfl)).1
          have s20 : ρ (.tmp 20) = .pointer (some ⟨s, 0, none⟩) := ((hd 1 (by kernel_rfl)).2 20 (by kernel_rfl)).trans (hI.at (by decide) (by decide) (by decide) (by decide) (hd 1 (by kernel_rfl)).1)
          clear hd hs
          exact outcome_value (v := .pointer (some ⟨s, 0, none⟩)) (by simp [go_sem, s20]) (hI.val (by decide) (by decide) (by decide) (by decide) rfl)
        refine And.intro ?_ ?_
        · intro L V ρ w' hI hk hc hf hd hs
          have h21 := (hd 2 (by kernel_rfl)).1
          have s21 : ρ (.tmp 21) = .pointer (some ⟨s, 0, none⟩) := ((hd 2 (by kernel_rfl)).2 21 (by kernel_rfl)).trans (hI.at (by decide) (by decide) (by decide) (by decide) (hd 2 (by kernel_rfl)).1)
          clear hd hs
          exact outcome_value (v := .pointer (some ⟨s, 0, none⟩)) (by simp [go_sem, s21]) (hI.val (by decide) (by decide) (by decide) (by decide) rfl)
        refine And.intro ?_ ?_
        · intro L V ρ w' hI hk hc hf hd hs
          have h22 := (hd 3 (by kernel_rfl)).1
          have s22 : ρ (.tmp 22) = .pointer (some ⟨s, 0, none⟩) := ((hd 3 (by kernel_rfl)).2 22 (by kernel_rfl)).trans (hI.at (by decide) (by decide) (by decide) (by decide) (hd 3 (by kernel_rfl)).1)
          have hcell : w'.cell? ⟨s, 0, none⟩ = some (.slice pl n cl) := hI.cell (C := fun W => W.cell? ⟨s, 0, none⟩ = some (.slice pl n cl)) (fun W h => h.2.blk.cellv rfl) (fun v W h => h.2.2.blk.cellv rfl) (fun v W h => by obtain ⟨_, _, _, _, _, _, h⟩ := h; exact h.blk.cellv rfl) hk
          clear hd hs
          exact outcome_value (v := .slice pl n cl) (by simp [go_sem, s22, hcell]) (hI.val (by decide) (by decide) (by decide) (by decide) rfl)
        refine And.intro ?_ ?_
        · intro L V ρ w' hI hk hc hf hd hs
          have s1 : ρ (.tmp 1) = .slice pb nb cb := hs 1 (by kernel_rfl)
          clear hd hs
          rw [BigFrame.run_move (.tmp 1) rfl]
          exact hI.val (by decide) (by decide) (by decide) (by decide) s1
        refine And.intro ?_ ?_
        · intro L V ρ w' hI hk hc hf hd hs
          have h24 := (hd 5 (by kernel_rfl)).1
          have s24 : ρ (.tmp 24) = .slice pb nb cb := ((hd 5 (by kernel_rfl)).2 24 (by kernel_rfl)).trans (hI.at (by decide) (by decide) (by decide) (by decide) (hd 5 (by kernel_rfl)).1)
          clear hd hs
          have hP := hI.before hk
          refine outcome_enter (w := w') (f := 19) (args := #[.slice pb nb cb]) (by simp [go_sem, hf, s24]) ?_
          refine (clone_c (HB.out.below hP.1) hbl.out).mono ?_
          rintro e w2 ⟨v2, rfl, O2, hb2⟩
          exact ⟨_, rfl, hI.call hk (by decide) (by decide) (by decide) ⟨O2.lower hP.1.size, hP.1.trans (hb2.mono hP.1.size), hP.2.below hb2⟩⟩
        refine And.intro ?_ ?_
        · intro L V ρ w' hI hk hc hf hd hs
          have h25 := (hd 6 (by kernel_rfl)).1
          have s25 : ρ (.tmp 25) = V 6 := (hd 6 (by kernel_rfl)).2 25 (by kernel_rfl)
          clear hd hs
          obtain ⟨⟨hv3, hP⟩, hnext⟩ := hI.build h25 hk (by decide) (by decide) (by decide)
          obtain ⟨p2, c2, e2⟩ := hv3.slice
          rw [e2] at s25
          exact outcome_value (v := .slice (some ⟨w'.heap.size, 0, none⟩) 1 1) (w := w'.alloc (.cells #[.slice p2 xs.length c2] 29)) (by simp [go_sem, s25]) (hnext _ _ ⟨w'.heap.size, .slice p2 xs.length c2, rfl, (Blk.new w' _ _).cellv rfl, by rw [← e2]; exact hv3.alloc _, hP.1.alloc hP.1.size _, hP.2.below ((Below.refl _ _).alloc (Nat.le_refl _) _)⟩)
        refine And.intro ?_ ?_
        · intro L V ρ w' hI hk hc hf hd hs
          have h23 := (hd 4 (by kernel_rfl)).1
          have s23 : ρ (.tmp 23) = .slice pl n cl := ((hd 4 (by kernel_rfl)).2 23 (by kernel_rfl)).trans (hI.at (by decide) (by decide) (by decide) (by decide) (hd 4 (by kernel_rfl)).1)
          have h26 := (hd 7 (by kernel_rfl)).1
          have s26 : ρ (.tmp 26) = V 7 := (hd 7 (by kernel_rfl)).2 26 (by kernel_rfl)
          have h1 := (hd 4 (by kernel_rfl)).1
          clear hd hs
          obtain ⟨⟨g, x, hv4, hx, hO, hL, hP⟩, hnext⟩ := hI.app h26 h1 hk (by decide) (by decide) (by decide) (by decide)
          rw [hv4] at s26
          obtain ⟨p2, c2, e2⟩ := hO.slice
          refine outcome_seg (t := 22) (e := 29) (by rfl) Try.underlying22 info_slice rfl (by decide) s23 s26 hP.row hx (by rw [e2]; rfl) (by have := hP.few; rw [List.length_map]; omega) hP.size ?_
          intro v5 w5 S5 M5 o5
          refine hnext _ _ ⟨w', x, hL, hP, S5, ?_, M5, o5⟩
          exact hO.mod M5 (fun k hk e => by
            obtain ⟨cs, b1⟩ := hO.kind hk
            obtain ⟨cs', b2⟩ := hP.row.kind e
            exact absurd (Blk.inj b1 b2).2 (by decide))
        refine And.intro ?_ ?_
        · intro L V ρ w' hI hk hc hf hd hs
          have h19 := (hd 0 (by kernel_rfl)).1
          have s19 : ρ (.tmp 19) = .pointer (some ⟨s, 0, none⟩) := ((hd 0 (by kernel_rfl)).2 19 (by kernel_rfl)).trans (hI.at (by decide) (by decide) (by decide) (by decide) (hd 0 (by kernel_rfl)).1)
          clear hd hs
          exact outcome_value (v := .pointer (some ⟨s, 0, none⟩)) (by simp [go_sem, s19]) (hI.val (by decide) (by decide) (by decide) (by decide) rfl)
        refine And.intro ?_ ?_
        · intro L V ρ w' hI hk hc hf hd hs
          have h28 := (hd 9 (by kernel_rfl)).1
          have s28 : ρ (.tmp 28) = .pointer (some ⟨s, 0, none⟩) := ((hd 9 (by kernel_rfl)).2 28 (by kernel_rfl)).trans (hI.at (by decide) (by decide) (by decide) (by decide) (hd 9 (by kernel_rfl)).1)
          clear hd hs
          exact outcome_value (v := .pointer (some ⟨s, 0, none⟩)) (by simp [go_sem, s28]) (hI.val (by decide) (by decide) (by decide) (by decide) rfl)
        refine And.intro ?_ ?_
        · intro L V ρ w' hI hk hc hf hd hs
          have h29 := (hd 10 (by kernel_rfl)).1
          have s29 : ρ (.tmp 29) = .pointer (some ⟨s, 0, none⟩) := ((hd 10 (by kernel_rfl)).2 29 (by kernel_rfl)).trans (hI.at (by decide) (by decide) (by decide) (by decide) (hd 10 (by kernel_rfl)).1)
          have h27 := (hd 8 (by kernel_rfl)).1
          have s27 : ρ (.tmp 27) = V 8 := (hd 8 (by kernel_rfl)).2 27 (by kernel_rfl)
          clear hd hs
          obtain ⟨hP, hnext⟩ := hI.store h27 hk (by decide) (by decide) (by decide) (by decide)
          obtain ⟨wq, x, hL, hP, S5, O5, M5, o5⟩ := hP
          obtain ⟨pq, cq, e5, _⟩ := S5.slice
          obtain ⟨D1, D2, d1, d2⟩ := SR.pushed hP S5 (O5.lower HBS.out) hxl.out M5 (by have := HN.out; have := HF.out; omega)
          refine outcome_skip (w := w'.setCell ⟨s, 0, none⟩ (V 8)) ?_ (hnext _ _ ⟨wq, _, x, hL, D1, D2, o5, fun k hk => (O5.lt k hk).1⟩)
          rw [e5] at s27 ⊢
          simp [go_sem, s27, s29, d1, d2]
        exact trivial
      case hend =>
        intro L V w13 hL hI
        obtain ⟨wq, lv', x, hb, hS, hM, ho, hx⟩ := hI.end (hL 11 (by decide))
        have D := hid (And.intro hb (And.intro hS (And.intro hM (And.intro ho hx))))
        simp only [lexF, Act.put, List.setIfInBounds_toArray, List.set_cons_zero, List.set_cons_succ]
        clear hI hL hb hS hM ho hx
        go_wp2
        go_ret
        obtain ⟨hb, hS, hM, ho, hx⟩ := D.out
        refine ⟨rfl, ⟨lv', _, hS, by simp, fun k hk => ?_, (fun q hq => ?_ : NewIn _ _ _)⟩, (Mod.of_below hb _).trans hM⟩
        rcases ho with e | e
        · rw [e] at hk; exact Or.inl hk
        · rw [e] at hk
          have := Option.some.inj hk
          have := hb.size
          exact Or.inr (by omega)
        · rcases List.mem_append.1 hq with hq | hq
          · exact Or.inl hq
          · rw [List.mem_singleton] at hq
            exact Or.inr (by rw [hq]; exact hx)
/-- Put beside a row of bytes of one's own that is newer than the pair: what changes that row afterwards leaves the pair. -/
theorem put_p2 {w0 w : World} {base s t mb r mc b0 n k5 : Nat} {vb : Value} {xs : List W8} {l : List (List W8)} {m : List Ent} {A : Int → Option (List W8)} (h : PR w0 base s t mb r mc l b0 m n A) (hb : Below w0.heap.size w0 w) (h5 : w0.heap.size ≤ k5) (h5' : k5 < w.heap.size) {cs : Array Value} (hB5 : Blk w k5 cs 5) (hX : Bytes w vb xs) (hfew : b0 + l.length < 100000) :
    Calls Try.prog 9 #[.pointer (some ⟨s, 0, none⟩), vb] w fun e w' => e = .returned (.int .i64 (putM l xs).1) ∧ Kp kinds5 base w w' ∧ ∀ W, Mod (fun k => k = k5) w' W → PR W base s t mb r mc (putM l xs).2 b0 m n A := by
  obtain ⟨sv, lv, ts, hS, rfl⟩ := h.snd
  rw [List.length_map] at hfew
  have hSw := hS.below hb
  refine (sput2_c hSw hX hfew).mono ?_
  rintro e w' ⟨rfl, ⟨lv', ts', h1, h2, h3, h4⟩, M⟩
  have K := (hSw.kp M (fun k hk => hk.elim (fun e => Or.inl (Or.inl e)) Or.inr)).1
  refine ⟨rfl, K, fun W MW => ?_⟩
  have hB5' : Blk w' k5 cs 5 := K.blk hB5 (by decide)
  refine ⟨⟨sv, lv', ts', h1.mod MW (fun k hk e => ?_), h2⟩, RR.aside hS h.rcv h.ne (S := fun k => k = s ∨ lv.ownBlock = some k) (((Mod.of_below hb _).trans M).step MW (fun i hi e => by omega)) (fun k hk => not_msg hS (hk.elim (fun e => Or.inl (Or.inl e)) Or.inr)), h.ne⟩
  have hk2 := hk
  rcases hk with hk | hk | hk | hk | ⟨p, hp, hk⟩
  · rw [hk] at e
    rw [← e] at hB5'
    exact absurd (Blk.inj hB5' h1.blk).2 (by decide)
  · obtain ⟨cs', b1⟩ := h1.row.kind hk
    rw [e] at b1
    exact absurd (Blk.inj hB5' b1).2 (by decide)
  · rw [← e] at hB5'
    exact (h1.due.kind (Or.inl hk) hB5').elim (by decide) (by decide)
  · rw [← e] at hB5'
    exact (h1.due.kind (Or.inr hk) hB5').elim (by decide) (by decide)
  · rcases h4 p hp with h | h
    · have := ((hS.bys p h).lt k hk).2
      omega
    · have := h k hk
      omega
end Go.Proofs.Ytkehejkjifgieaa

/- Both ends, the program's and the document's, side by side in memory. -/
namespace Go.Proofs.Ytkehejkjifgieaa
open Go.RowKit Go.ChangeMaps

/-- What both ends hold. -/
structure ES where
  s : Nat
  t : Nat
  mb : Nat
  r : Nat
  mc : Nat
  b : Nat
  N : Nat
  L : List (List W8)
  D : List (List W8)
  K : List (List W8)
  H : List Bool
  T : List Nat
  m : List Ent
  Ar : Int → Option (List W8)
  Hr : Nat → Bool
  Aa : Nat → List W8
  vL : Value
  vH : Value
  vT : Value
  vD : Value
  vK : Value
def ecell (e : ES) (j : Nat) : Value :=
  if j < 2 then (if j = 0 then .pointer (some ⟨e.s, 0, none⟩) else .pointer (some ⟨e.r, 0, none⟩))
  else if j < 6 then (if j = 2 then e.vL else if j = 3 then .int .i64 (e.b : Int) else if j = 4 then e.vH else e.vT)
  else if j < 23 then rcell e.N e.Hr e.Aa (j - 6)
  else if j = 23 then e.vD else e.vK
/-- The memory of both ends but for the program's. -/
structure EX (w : World) (base x : Nat) (e : ES) : Prop where
  fn : Fn w x 50 25 (ecell e)
  hx : base ≤ x
  ds : DS w base e.vL e.vH e.vT e.L e.H e.T
  d : Sr w base e.vD e.D
  k : Sr w base e.vK e.K
  dLD : Dis e.vL e.vD
  dLK : Dis e.vL e.vK
  dDK : Dis e.vD e.vK
section
variable {w w' : World} {base x : Nat} {e : ES}
theorem EX.below (h : EX w base x e) (hb : Below w.heap.size w w') : EX w' base x e := ⟨h.fn.below hb h.fn.lt, h.hx, h.ds.below hb, h.d.below hb, h.k.below hb, h.dLD, h.dLK, h.dDK⟩
theorem Fn.kp {Ts : List TypeId} {b n : Nat} {T : TypeId} {f : Nat → Value} (h : Fn w b T n f) (K : Kp Ts base w w') (hT : T ∉ Ts) : Fn w' b T n f := by
  obtain ⟨cs, h1, h2⟩ := h
  exact ⟨cs, K.blk h1 hT, h2⟩
theorem EX.kp (h : EX w base x e) (K : Kp kinds5 base w w') : EX w' base x e := ⟨h.fn.kp K (by decide), h.hx, h.ds.kp K (by decide) (by decide) (by decide), h.d.kp K (by decide), h.k.kp K (by decide), h.dLD, h.dLK, h.dDK⟩
theorem EX.s0 (h : EX w base x e) : w.cell? ⟨x, 0, none⟩ = some (.pointer (some ⟨e.s, 0, none⟩)) := h.fn.cell (j := 0) (by decide)
theorem EX.r1 (h : EX w base x e) : w.cell? ⟨x, 1, none⟩ = some (.pointer (some ⟨e.r, 0, none⟩)) := h.fn.cell (j := 1) (by decide)
theorem EX.l2 (h : EX w base x e) : w.cell? ⟨x, 2, none⟩ = some e.vL := h.fn.cell (j := 2) (by decide)
theorem EX.b3 (h : EX w base x e) : w.cell? ⟨x, 3, none⟩ = some (.int .i64 (e.b : Int)) := h.fn.cell (j := 3) (by decide)
theorem EX.n6 (h : EX w base x e) : w.cell? ⟨x, 6, none⟩ = some (.int .i64 (e.N : Int)) := h.fn.cell (j := 6) (by decide)
theorem EX.d23 (h : EX w base x e) : w.cell? ⟨x, 23, none⟩ = some e.vD := h.fn.cell (j := 23) (by decide)
theorem EX.k24 (h : EX w base x e) : w.cell? ⟨x, 24, none⟩ = some e.vK := h.fn.cell (j := 24) (by decide)
theorem EX.rangeM (h : EX w base x e) : w.rangeAt x 2 (dsV e.vL e.vH e.vT e.b).toList := by
  intro j v hv
  have hj : j < 4 := by
    obtain ⟨h1, _⟩ := List.getElem?_eq_some_iff.1 hv
    exact h1
  rw [h.fn.cell (j := 2 + j) (by omega)]
  rw [← hv]
  have : j = 0 ∨ j = 1 ∨ j = 2 ∨ j = 3 := by omega
  rcases this with rfl | rfl | rfl | rfl <;> rfl
theorem EX.rangeN (h : EX w base x e) : w.rangeAt x 6 (rrV e.N e.Hr e.Aa).toList := by
  intro j v hv
  rw [Array.getElem?_toList] at hv
  have hj : j < 17 := by
    have := (Array.getElem?_eq_some_iff.1 hv).1
    rwa [rrV_size] at this
  rw [h.fn.cell (j := 6 + j) (by omega)]
  rw [← hv, show (rrV e.N e.Hr e.Aa)[j]? = some (rcell e.N e.Hr e.Aa j) from arr_get 17 _ hj]
  unfold ecell
  rw [if_neg (by omega), if_neg (by omega), if_pos (by omega), show 6 + j - 6 = j by omega]
theorem EX.there (h : EX w base x e) {o n : Nat} (ho : o + n ≤ 25) : w.there x o n := fun j hj => ⟨by rw [h.fn.cell (by omega)]; rfl, h.fn.frozen _⟩
theorem EX.frozen (h : EX w base x e) (j : Nat) : w.frozen? ⟨x, j, none⟩ = false := h.fn.frozen j
theorem EX.modX (h : EX w base x e) {f : Nat → Value} (M : Mod (fun k => k = x) w w') (hf : Fn w' x 50 25 f) (hfe : ∀ j, j < 25 → ecell e j = f j) : EX w' base x e := by
  obtain ⟨cs, hb, _⟩ := h.fn
  have key : ∀ {T : TypeId} {v : Value} {xs : List Value}, T ≠ 50 → Rw w base T v xs → Rw w' base T v xs := fun hT hr => hr.mod M (fun k hk e => by
    obtain ⟨cs', hb'⟩ := hr.kind hk
    rw [e] at hb'
    exact hT (Blk.inj hb' hb).2)
  exact ⟨hf.congr hfe, h.hx, ⟨key (by decide) h.ds.l, key (by decide) h.ds.h, key (by decide) h.ds.t⟩, key (by decide) h.d, key (by decide) h.k, h.dLD, h.dLK, h.dDK⟩
theorem rows_modX {T : TypeId} {v : Value} {xs : List Value} {b : Nat} (h : EX w base x e) (M : Mod (fun k => k = x) w w') (hT : T ≠ 50) (hr : Rw w b T v xs) : Rw w' b T v xs := by
  obtain ⟨cs, hb, _⟩ := h.fn
  exact hr.mod M (fun k hk e => by
    obtain ⟨cs', hb'⟩ := hr.kind hk
    rw [e] at hb'
    exact hT (Blk.inj hb' hb).2)
/-- The document's sender is put in place. -/
theorem EX.setM (h : EX w base x e) {vL vH vT : Value} {b : Nat} {L : List (List W8)} {H : List Bool} {T : List Nat} (hd : DS w base vL vH vT L H T) (h1 : Dis vL e.vD) (h2 : Dis vL e.vK) :
    EX (w.setCells x 2 (dsV vL vH vT b).toList) base x { e with vL := vL, vH := vH, vT := vT, b := b, L := L, H := H, T := T } := by
  have M := Mod.cells w x 2 (dsV vL vH vT b).toList
  refine ⟨Fn.setCells _ 2 w _ h.fn _ (fun j hj => ?_) (fun j hj hap => ?_), h.hx, ⟨rows_modX h M (by decide) hd.l, rows_modX h M (by decide) hd.h, rows_modX h M (by decide) hd.t⟩, rows_modX h M (by decide) h.d, rows_modX h M (by decide) h.k, h1, h2, h.dDK⟩
  · have hj : j < 4 := hj
    have : j = 0 ∨ j = 1 ∨ j = 2 ∨ j = 3 := by omega
    rcases this with rfl | rfl | rfl | rfl <;> rfl
  · have hap : j < 2 ∨ 2 + 4 ≤ j := hap
    rcases hap with h' | h'
    · simp only [ecell, if_pos h']
    · have a1 : ¬ j < 2 := by omega
      have a2 : ¬ j < 6 := by omega
      simp only [ecell, if_neg a1, if_neg a2]
/-- The document's receiver is put in place. -/
theorem EX.setN (h : EX w base x e) (N : Nat) (Hr : Nat → Bool) (Aa : Nat → List W8) : EX (w.setCells x 6 (rrV N Hr Aa).toList) base x { e with N := N, Hr := Hr, Aa := Aa } := by
  have M := Mod.cells w x 6 (rrV N Hr Aa).toList
  refine ⟨Fn.setCells _ 6 w _ h.fn _ (fun j hj => ?_) (fun j hj hap => ?_), h.hx, ⟨rows_modX h M (by decide) h.ds.l, rows_modX h M (by decide) h.ds.h, rows_modX h M (by decide) h.ds.t⟩, rows_modX h M (by decide) h.d, rows_modX h M (by decide) h.k, h.dLD, h.dLK, h.dDK⟩
  · rw [Array.length_toList, rrV_size] at hj
    rw [Array.getElem?_toList, show (rrV N Hr Aa)[j]? = some (rcell N Hr Aa j) from arr_get 17 _ hj]
    unfold ecell
    rw [if_neg (by omega), if_neg (by omega), if_pos (by omega), show 6 + j - 6 = j by omega]
  · rw [Array.length_toList, rrV_size] at hap
    rcases hap with h' | h'
    · simp only [ecell, if_pos h']
    · have a1 : ¬ j < 2 := by omega
      have a2 : ¬ j < 6 := by omega
      have a3 : ¬ j < 23 := by omega
      simp only [ecell, if_neg a1, if_neg a2, if_neg a3]
theorem Fn.blk {b n : Nat} {T : TypeId} {f : Nat → Value} (h : Fn w b T n f) : ∃ cs, Blk w b cs T := by
  obtain ⟨cs, h1, _⟩ := h
  exact ⟨cs, h1⟩
/-- A string is put to the answers. -/
theorem EX.pushK (h : EX w base x e) {v : Value} {y : List W8} (hR : Rw w' base 9 v (e.K.map (fun l => .string (str l)) ++ [.string (str y)])) (M : Mod (fun k => e.vK.ownBlock = some k) w w') (o : v.ownBlock = e.vK.ownBlock ∨ v.ownBlock = some w.heap.size) :
    EX (w'.setCell ⟨x, 24, none⟩ v) base x { e with vK := v, K := e.K ++ [y] } := by
  obtain ⟨cs, hb⟩ := h.fn.blk
  have hne : ¬ e.vK.ownBlock = some x := fun hk => by
    obtain ⟨cs', hb'⟩ := Rw.kind h.k hk
    exact absurd (Blk.inj hb' hb).2 (by decide)
  have F' : Fn w' x 50 25 (ecell e) := h.fn.mod M hne
  obtain ⟨cs1, hb1⟩ := F'.blk
  refine ⟨(F'.set 24 v).congr (fun j hj => ?_), h.hx, ⟨Rw.set_other (Sr.other h.ds.l h.k h.dLK M) hb1 (by decide), (h.ds.h.apart h.k (by decide) M).set_other hb1 (by decide), (h.ds.t.apart h.k (by decide) M).set_other hb1 (by decide)⟩, Rw.set_other (Sr.other h.d h.k h.dDK M) hb1 (by decide), Rw.set_other (Sr.pushed hR) hb1 (by decide), h.dLD, dis_push h.ds.l h.dLK o, dis_push h.d h.dDK o⟩
  unfold set1
  by_cases e24 : j = 24
  · subst e24; rfl
  · rw [if_neg e24]
    by_cases a1 : j < 2
    · simp only [ecell, if_pos a1]
    · by_cases a2 : j < 6
      · simp only [ecell, if_neg a1, if_pos a2]
      · by_cases a3 : j < 23
        · simp only [ecell, if_neg a1, if_neg a2, if_pos a3]
        · have a4 : j = 23 := by omega
          subst a4; rfl
/-- A string is put to what was sent. -/
theorem EX.pushD (h : EX w base x e) {v : Value} {y : List W8} (hR : Rw w' base 9 v (e.D.map (fun l => .string (str l)) ++ [.string (str y)])) (M : Mod (fun k => e.vD.ownBlock = some k) w w') (o : v.ownBlock = e.vD.ownBlock ∨ v.ownBlock = some w.heap.size) :
    EX (w'.setCell ⟨x, 23, none⟩ v) base x { e with vD := v, D := e.D ++ [y] } := by
  obtain ⟨cs, hb⟩ := h.fn.blk
  have hne : ¬ e.vD.ownBlock = some x := fun hk => by
    obtain ⟨cs', hb'⟩ := Rw.kind h.d hk
    exact absurd (Blk.inj hb' hb).2 (by decide)
  have F' : Fn w' x 50 25 (ecell e) := h.fn.mod M hne
  obtain ⟨cs1, hb1⟩ := F'.blk
  refine ⟨(F'.set 23 v).congr (fun j hj => ?_), h.hx, ⟨Rw.set_other (Sr.other h.ds.l h.d h.dLD M) hb1 (by decide), (h.ds.h.apart h.d (by decide) M).set_other hb1 (by decide), (h.ds.t.apart h.d (by decide) M).set_other hb1 (by decide)⟩, Rw.set_other (Sr.pushed hR) hb1 (by decide), Rw.set_other (Sr.other h.k h.d h.dDK.symm M) hb1 (by decide), dis_push h.ds.l h.dLD o, h.dLK, (dis_push h.k h.dDK.symm o).symm⟩
  unfold set1
  by_cases e24 : j = 23
  · subst e24; rfl
  · rw [if_neg e24]
    by_cases a1 : j < 2
    · simp only [ecell, if_pos a1]
    · by_cases a2 : j < 6
      · simp only [ecell, if_neg a1, if_pos a2]
      · by_cases a3 : j < 23
        · simp only [ecell, if_neg a1, if_neg a2, if_pos a3]
        · have a4 : j = 24 := by omega
          subst a4; rfl
theorem EX.pr {s t mb r mc b0 n : Nat} {l : List (List W8)} {m : List Ent} {A : Int → Option (List W8)} (h : EX w base x e) (p : PR w base s t mb r mc l b0 m n A) (M : Mod (fun k => k = x) w w') : PR w' base s t mb r mc l b0 m n A := p.mod M (fun k hk _ => by
  obtain ⟨cs, hb⟩ := h.fn.blk
  rw [hk]
  exact ⟨cs, _, hb, by decide, by decide, by decide, by decide, by decide, by decide⟩)
end
/-- What holds of both ends after i acts. -/
structure EI (i : Nat) (e : ES) : Prop where
  ref : Ref e.m e.b e.L e.H e.T
  rr : RefR e.N e.Ar e.Hr e.Aa
  bb : e.b ≤ e.L.length
  l5 : ∀ m ∈ e.L, m.length ≤ 500
  dl : ∀ m ∈ e.D, m.length ≤ 5000
  kl : ∀ m ∈ e.K, m.length ≤ 5000
  nL : e.L.length ≤ i
  nN : e.N ≤ 8 * i
  nD : e.D.length ≤ 8 * i
  nK : e.K.length ≤ i
structure EC (w : World) (base x i : Nat) (e : ES) : Prop where
  x : EX w base x e
  p : PR w base e.s e.t e.mb e.r e.mc (e.L.drop e.b) e.b e.m e.N e.Ar
  i : EI i e
section
variable {w w' : World} {base x i : Nat} {e : ES}
theorem EC.below (h : EC w base x i e) (hb : Below w.heap.size w w') : EC w' base x i e := ⟨h.x.below hb, h.p.below hb, h.i⟩
theorem EI.up {i' : Nat} (h : EI i e) (hi : i ≤ i') : EI i' e := ⟨h.ref, h.rr, h.bb, h.l5, h.dl, h.kl, by have := h.nL; omega, by have := h.nN; omega, by have := h.nD; omega, by have := h.nK; omega⟩
/-- An answer moves both bases alike. -/
theorem hearM_ref {xs : List W8} {m : List Ent} {b : Nat} {L : List (List W8)} {H : List Bool} {T : List Nat} (h : Ref m b L H T) (hb : b ≤ L.length) :
    (hearM xs (L.drop b) b m).1 = L.drop (rbase xs L.length b) ∧ (hearM xs (L.drop b) b m).2.1 = rbase xs L.length b ∧ Ref (hearM xs (L.drop b) b m).2.2 (rbase xs L.length b) L H T ∧ rbase xs L.length b ≤ L.length := by
  unfold hearM rbase
  by_cases h0 : (ackN xs).1 = 0
  · rw [if_pos h0]
    obtain ⟨k, hk⟩ : ∃ k, k = (ackN xs).2 := ⟨_, rfl⟩
    rw [← hk]
    unfold cameM
    rw [List.length_drop]
    by_cases hc : b < k ∧ k ≤ L.length
    · rw [if_pos (show b < k ∧ k - b ≤ L.length - b by omega), if_pos ⟨h0, hc⟩]
      refine ⟨?_, rfl, h.gone (by omega), hc.2⟩
      show (L.drop b).drop (k - b) = L.drop k
      rw [List.drop_drop]; congr 1; omega
    · rw [if_neg (show ¬ (b < k ∧ k - b ≤ L.length - b) by omega), if_neg (fun e => hc e.2)]
      exact ⟨rfl, rfl, h, hb⟩
  · rw [if_neg h0, if_neg (fun e => h0 e.1)]
    exact ⟨rfl, rfl, h, hb⟩
theorem rtake_e {vb : Value} {xs : List W8} {N : Nat} {Ar : Int → Option (List W8)} {H : Nat → Bool} {A : Nat → List W8} (h : RefR N Ar H A) (hN : N ≤ 1000000) (hX : Bytes w vb xs) (hl : xs.length ≤ 90000) :
    Calls Try.prog 46 #[.agg (rrV N H A), vb] w fun e w' => (∃ vl va H' A', e = .returned (.tuple #[.agg (rrV (rhearM xs N Ar).2.2.2.1 H' A'), vl, va, .int .i64 (rhearM xs N Ar).1]) ∧ Sr w' w.heap.size vl (rhearM xs N Ar).2.1 ∧ Ow w' w.heap.size va (rhearM xs N Ar).2.2.1 ∧ RefR (rhearM xs N Ar).2.2.2.1 (rhearM xs N Ar).2.2.2.2 H' A') ∧ Below w.heap.size w w' := by
  refine (rtakem_c h.h8 h.a8 hN hX hl).mono ?_
  rintro e w' ⟨hr, hb⟩
  refine ⟨?_, hb⟩
  unfold rhearM
  by_cases h0 : (parseB xs).1 = 0
  · rw [if_pos h0] at hr ⊢
    obtain ⟨vl, va, he, hs, ho⟩ := hr
    have ht := h.take (parseB xs).2.1 (parseB xs).2.2
    obtain ⟨h1, h2, h3⟩ := RefR.next 8 ht
    refine ⟨vl, va, (drain 8 N (takeRH N (parseB xs).2.1 H) (takeRA N (parseB xs).2.1 (parseB xs).2.2 H A)).2.2.1, (drain 8 N (takeRH N (parseB xs).2.1 H) (takeRA N (parseB xs).2.1 (parseB xs).2.2 H A)).2.2.2, ?_, ?_, ?_, ?_⟩
    · rw [he]; dsimp only; rw [h2]
    · dsimp only; rw [h1]; exact hs
    · dsimp only; rw [h2]; exact ho
    · dsimp only; rw [h2]; exact h3
  · rw [if_neg h0] at hr ⊢
    exact ⟨_, _, H, A, hr, Rw.nil _ _ _, Ow.nil _ _, h⟩
end
end Go.Proofs.Ytkehejkjifgieaa

/- The law's hear: an answer to both senders. -/
namespace Go.Proofs.Ytkehejkjifgieaa
open Go.RowKit Go.ChangeMaps

/-- Bytes that lie below 'base' or in memory newer than w0. -/
def Byf (w0 w : World) (base : Nat) (v : Value) (xs : List W8) : Prop := Bytes w v xs ∧ ∀ k, v.ownBlock = some k → 0 < xs.length → k < base ∨ w0.heap.size ≤ k
section
variable {w0 w w' : World} {base x i : Nat} {v : Value} {xs : List W8} {e : ES}
theorem Byf.mod {S : Nat → Prop} (h : Byf w0 w base v xs) (M : Mod S w w') (hs : ∀ k, S k → base ≤ k ∧ k < w0.heap.size) : Byf w0 w' base v xs := by
  refine ⟨?_, h.2⟩
  by_cases h0 : 0 < xs.length
  · exact h.1.mod M (fun k hk e => by
      have h1 := hs k e
      rcases h.2 k hk h0 with h2 | h2 <;> omega)
  · obtain ⟨p, c, e, _⟩ := h.1
    exact ⟨p, c, e, fun h => absurd h h0⟩
theorem Byf.below (h : Byf w0 w base v xs) (hb : Below w.heap.size w w') : Byf w0 w' base v xs := ⟨h.1.below hb, h.2⟩
theorem Byf.slice (h : Byf w0 w base v xs) : ∃ p c, v = .slice p xs.length c := by
  obtain ⟨p, c, e, _⟩ := h.1
  exact ⟨p, c, e⟩
/-- Bytes below 'base' stay. -/
theorem Byf.low {w1 : World} (h : Bytes w v xs) (hf : ∀ k, v.ownBlock = some k → 0 < xs.length → k < base) (hb : Below base w w1) : Bytes w1 v xs := by
  by_cases h0 : 0 < xs.length
  · have M : Mod (fun k => base ≤ k) w w1 ∨ base > w.heap.size := by
      by_cases hs : base ≤ w.heap.size
      · exact Or.inl ⟨hb.os, hb.tape, hb.output, hb.size, fun k hk hn => hb.block k (by omega)⟩
      · exact Or.inr (by omega)
    rcases M with M | M
    · exact h.mod M (fun k hk e => by have := hf k hk h0; omega)
    · exact h.below ⟨hb.os, hb.tape, hb.output, hb.size, fun k hk => hb.block k (by omega)⟩
  · obtain ⟨p, c, e, _⟩ := h
    exact ⟨p, c, e, fun h => absurd h h0⟩
theorem wpList_load_in {ops : Array Oper} {rest : List Oper} {op : Oper} {a : Act} {w : World} {Q : Exit → Act → World → Prop} (hgd : op.guard = none) (ty : TypeId) (x : Operand) (ho : op.op = .load ty x)
    (g o : Nat) (hx : a.eval x = .pointer (some ⟨g, o, none⟩)) {cs : Array Value} {d : TypeDesc} (hR : w.rangeAt g o cs.toList) (hu : Try.prog.underlying ty = some d) (hd : d.isRow = true) (hi : (Try.prog.info? ty).map (·.size) = some cs.size)
    (h : wpList Try.prog ops Q rest (a.put op.dst (.agg cs)) w) : wpList Try.prog ops Q (op :: rest) a w :=
  wpList_load_mid hgd ty x ho g o hx cs.toList d hR hu hd (by rw [hi, Array.length_toList]) (by rw [Array.toArray_toList]; exact h)
theorem shear_q {s t mb r mc b0 n : Nat} {l : List (List W8)} {m : List Ent} {A : Int → Option (List W8)} (h : PR w0 base s t mb r mc l b0 m n A) (hb : Below w0.heap.size w0 w) (hX : Byf w0 w base v xs) (hl : xs.length ≤ 100000) :
    Calls Try.prog 12 #[.pointer (some ⟨s, 0, none⟩), v] w fun e w' => e = .returned (.int .i64 (ackN xs).1) ∧ PR w' base s t mb r mc (hearM xs l b0 m).1 (hearM xs l b0 m).2.1 (hearM xs l b0 m).2.2 n A ∧ Kp kinds4 base w w' ∧ Byf w0 w' base v xs := by
  obtain ⟨sv, lv, ts, hS, rfl⟩ := h.snd
  have hSw := hS.below hb
  refine (shear_c hSw hX.1 hl).mono ?_
  rintro e w' ⟨rfl, ⟨lv', ts', sv', b1, m', h1, h2, _⟩, M⟩
  rw [h1]
  refine ⟨rfl, ⟨⟨sv', lv', ts', h2, rfl⟩, RR.aside hSw (h.rcv.below hb) h.ne M (fun k hk => not_msg hSw (Or.inl hk)), h.ne⟩, (hSw.kp M (fun k hk => Or.inl hk)).2 (fun k hk => hk), hX.mod M (fun k hk => hS.lt k ?_)⟩
  rcases hk with hk | hk | hk
  · exact Or.inl hk
  · exact Or.inr (Or.inr (Or.inl hk))
  · exact Or.inr (Or.inr (Or.inr (Or.inl hk)))
theorem rhear_q {s t mb r mc b0 n : Nat} {l : List (List W8)} {m : List Ent} {A : Int → Option (List W8)} (h : PR w0 base s t mb r mc l b0 m n A) (hb : Below w0.heap.size w0 w) (hn : n ≤ 1000000) (hX : Byf w0 w base v xs) (hl : xs.length ≤ 100000) :
    Calls Try.prog 11 #[.pointer (some ⟨r, 0, none⟩), v] w fun e w' => ∃ vl us va, e = .returned (.tuple #[vl, va, .int .i64 (rhearM xs n A).1]) ∧ Ut w' w.heap.size base vl us ∧ us.map (·.2) = (rhearM xs n A).2.1 ∧ Ow w' base va (rhearM xs n A).2.2.1 ∧ PR w' base s t mb r mc l b0 m (rhearM xs n A).2.2.2.1 (rhearM xs n A).2.2.2.2 ∧ Kp kinds4 base w w' ∧ Byf w0 w' base v xs := by
  obtain ⟨sv, lv, ts, hS, rfl⟩ := h.snd
  have hSw := hS.below hb
  have hRw := h.rcv.below hb
  refine (rhear_c hRw hn hX.1 hl).mono ?_
  rintro e w' ⟨⟨vl, us, va, rfl, h1, h2, h3, h4⟩, M⟩
  refine ⟨vl, us, va, rfl, h1, h2, h3, ⟨⟨sv, lv, ts, hSw.aside hRw h.ne M, rfl⟩, h4, h.ne⟩, ⟨_, M, fun k hk _ => ?_⟩, hX.mod M (fun k hk => ?_)⟩
  · rcases hk with rfl | rfl
    · exact ⟨hRw.own.1, fun cs T hb => by rw [(Blk.inj hb hRw.blk).2]; decide⟩
    · exact ⟨hRw.own.2, fun cs T hb => absurd rfl (hRw.mbne hb)⟩
  · rcases hk with rfl | rfl
    · exact ⟨h.rcv.own.1, h.rcv.blk.lt⟩
    · exact ⟨h.rcv.own.2, h.rcv.mlt⟩
/-- The kinds that an act changes. -/
def kinds7 : List TypeId := 9 :: 50 :: kinds5
theorem EX.kpX (h : EX w base x e) (M : Mod (fun k => k = x) w w') : Kp kinds7 base w w' := ⟨_, M, fun k hk _ => by
  obtain ⟨cs, hb⟩ := h.fn.blk
  rw [hk]
  exact ⟨h.hx, fun cs' T hb' => by rw [(Blk.inj hb' hb).2]; decide⟩⟩
theorem kinds47 {w w' : World} (h : Kp kinds4 base w w') : Kp kinds7 base w w' := h.weaken (fun _ hT => List.mem_cons_of_mem _ (List.mem_cons_of_mem _ (List.mem_cons_of_mem _ hT)))
theorem kinds57 {w w' : World} (h : Kp kinds5 base w w') : Kp kinds7 base w w' := h.weaken (fun _ hT => List.mem_cons_of_mem _ (List.mem_cons_of_mem _ hT))
theorem kinds45 {w w' : World} (h : Kp kinds4 base w w') : Kp kinds5 base w w' := h.weaken (fun _ hT => List.mem_cons_of_mem _ hT)
theorem Kp.below_new {Ts : List TypeId} (h : Below w.heap.size w w') : Kp Ts base w w' := Kp.of_below h
theorem EX.rest (h : EX w base x e) (m : List Ent) (Ar : Int → Option (List W8)) : EX w base x { e with m := m, Ar := Ar } := ⟨h.fn, h.hx, h.ds, h.d, h.k, h.dLD, h.dLK, h.dDK⟩
end
set_option maxRecDepth 100000 in
set_option maxHeartbeats 4000000 in
theorem hear_w {w0 w : World} {base x i : Nat} {e : ES} {vb : Value} {xs : List W8} (h : EC w0 base x i e) (hb : Below w0.heap.size w0 w) (hX : Byf w0 w base vb xs) (hi : i ≤ 80) (hl : xs.length ≤ 5000) :
    Calls Try.prog 33 #[.pointer (some ⟨x, 0, none⟩), vb] w fun r w' => r = .returned (.bool true) ∧ (∃ e', EC w' base x i e') ∧ Kp kinds7 base w w' := by
  have H := hid (h.below hb)
  have CS := hid (shear_q h.p hb hX (by omega))
  have HI := hid h.i
  have hbw := hid h.p.size
  obtain ⟨pb, cb, rfl⟩ := hX.slice
  have hz : ∀ W : World, (zeroValue 44).run Try.prog W = .ok (.agg #[.slice none 0 0, .int .i64 0, .slice none 0 0, .slice none 0 0]) W := fun _ => rfl
  have s0 := H.out.x.s0
  have hxl : x < w.heap.size := H.out.x.fn.lt
  obtain ⟨nb, hnb⟩ : ∃ nb, nb = xs.length := ⟨_, rfl⟩
  have HNB := hid hnb
  obtain ⟨c, hc⟩ : ∃ c, c = (ackN xs).1 := ⟨_, rfl⟩
  rw [← hnb] at CS ⊢
  rw [← hc] at CS
  have HC := hid hc
  have HL := hid hl
  clear h hb hX hnb hc hl
  go_enter Try.func33, Try.ntmps33
  go_upto_region 2 with (go_at_call 12; refine CS.out.mono ?_; rintro r1 w1 ⟨rfl, hP1, hK1, hX1⟩; have P1 := hid hP1; have K1 := hid hK1; have X1 := hid hX1; clear hP1 hK1 hX1)
  clear CS s0
  have E1 := hid (H.out.x.kp (kinds45 K1.out))
  have hxl : x < w1.heap.size := E1.out.fn.lt
  have CR := hid (show Calls Try.prog 45 #[.agg (dsV e.vL e.vH e.vT e.b), .slice pb nb cb] w1 fun r w2 => r = .returned (.tuple #[.agg (dsV e.vL e.vH e.vT (rbase xs e.L.length e.b)), .int .i64 c]) ∧ Below w1.heap.size w1 w2 from by
    obtain ⟨pL, cL, eL⟩ := E1.out.ds.l.slice
    obtain ⟨pH, cH, eH⟩ := E1.out.ds.h.slice
    obtain ⟨pT, cT, eT⟩ := E1.out.ds.t.slice
    rw [List.length_map, HI.out.ref.lh] at eH
    rw [List.length_map, HI.out.ref.lt] at eT
    rw [eL, eH, eT]
    have h1 := HI.out.nL
    have h2 := HI.out.bb
    have h3 := HL.out
    have h4 := X1.out.1
    have h5 := HC.out
    have h6 := rhearm_c (pL := pL) (cL := cL) (pH := pH) (cH := cH) (pT := pT) (cT := cT) (nH := e.L.length) (nT := e.L.length) (n := e.L.length) (b := e.b) (by omega) (by omega) h4 (by omega)
    rw [← h5] at h6
    exact h6)
  have RM := hid E1.out.rangeM
  obtain ⟨b', hb'⟩ : ∃ b', b' = rbase xs e.L.length e.b := ⟨_, rfl⟩
  rw [← hb'] at CR
  have HB' := hid hb'
  obtain ⟨dv, hdv⟩ : ∃ dv, dv = dsV e.vL e.vH e.vT e.b := ⟨_, rfl⟩
  obtain ⟨dw, hdw⟩ : ∃ dw, dw = dsV e.vL e.vH e.vT b' := ⟨_, rfl⟩
  rw [← hdv, ← hdw] at CR
  rw [← hdv] at RM
  have DV := hid (show (Try.prog.info? 44).map (·.size) = some dv.size by rw [hdv]; exact info44 _ _ _ _)
  have DW := hid (show (Try.prog.info? 44).map (·.size) = some dw.size by rw [hdw]; exact info44 _ _ _ _)
  have DW4 := hid (show dw.size = 4 by rw [hdw]; rfl)
  have DW1 := hid (show dw.all (·.oneCell') = true by
    rw [hdw]
    obtain ⟨pL, cL, eL⟩ := E1.out.ds.l.slice
    obtain ⟨pH, cH, eH⟩ := E1.out.ds.h.slice
    obtain ⟨pT, cT, eT⟩ := E1.out.ds.t.slice
    rw [eL, eH, eT]
    exact one4 rfl rfl rfl rfl)
  have HDW := hid hdw
  clear hb' hdv hdw
  go_upto_region 3 with (first
    | ((with_reducible refine at_op (.load 44 (.tmp 17)) rfl ?_); refine wpList_load_in rfl 44 (.tmp 17) rfl x 2 rfl (cs := dv) RM.out Try.underlying44 rfl DV.out ?_)
    | ((with_reducible refine at_op (.store 44 (.tmp 6) (.tmp 21)) rfl ?_); refine wpList_store_blk rfl 44 (.tmp 6) (.tmp 21) rfl w2.heap.size rfl rfl (Blk.new w2 _ _) DW.out DW4.out.symm DW1.out ?_)
    | (go_at_call 45; refine CR.out.mono ?_; rintro r2 w2 ⟨rfl, hb2⟩; have B2 := hid hb2; clear hb2))
  obtain ⟨w3, hw3⟩ : ∃ w3, w3 = ((w2.alloc (.cells #[.slice none 0 0, .int .i64 0, .slice none 0 0, .slice none 0 0] 44)).setRow w2.heap.size dw) := ⟨_, rfl⟩
  have B3 := hid (show Below w2.heap.size w2 w3 by rw [hw3]; exact ((Below.refl _ _).alloc (Nat.le_refl _) _).trans ((Mod.setRow _ _ _).below (by simp) (fun k hk e => by omega)))
  have K3 := hid (show Blk w3 w2.heap.size dw 44 by rw [hw3]; exact (Blk.new w2 _ _).setRow _)
  rw [← hw3]
  clear hw3 RM CR hz hxl
  have B13 := hid (B2.out.trans (B3.out.mono B2.out.size))
  have E3 := hid (E1.out.below B13.out)
  have P3 := hid (P1.out.below B13.out)
  have TH := hid (show w3.there x 2 dw.size from E3.out.there (by rw [DW4.out]; decide))
  have MX := hid (Mod.cells w3 x 2 dw.toList)
  have RF := hid (hearM_ref (xs := xs) HI.out.ref HI.out.bb)
  rw [← HB'.out] at RF
  go_wp2_with (first
    | ((with_reducible refine at_op (.load 44 (.tmp 6)) rfl ?_); refine wpList_load_blk rfl 44 (.tmp 6) rfl w2.heap.size rfl (cs := dw) K3.out Try.underlying44 rfl DW.out ?_)
    | ((with_reducible refine at_op (.store 44 (.tmp 26) (.tmp 24)) rfl ?_); refine wpList_store_mid rfl 44 (.tmp 26) (.tmp 24) rfl x 2 dw rfl rfl TH.out DW.out DW1.out ?_))
  go_ret
  obtain ⟨r1, r2, r3, r4⟩ := RF.out
  have hdw := HDW.out
  subst hdw
  have P4 := E3.out.pr P3.out MX.out
  rw [r1, r2] at P4
  have hI := HI.out
  refine ⟨rfl, ⟨{ e with m := (hearM xs (e.L.drop e.b) e.b e.m).2.2, b := b' }, ?_, P4, ⟨r3, hI.rr, r4, hI.l5, hI.dl, hI.kl, hI.nL, hI.nN, hI.nD, hI.nK⟩⟩, ((kinds47 K1.out).trans (Kp.of_below B13.out)).trans (E3.out.kpX MX.out)⟩
  exact (E3.out.setM E3.out.ds E3.out.dLD E3.out.dLK (b := b')).rest _ _
end Go.Proofs.Ytkehejkjifgieaa

/- Both ends: a string is put to the answers, or to what was sent: the parts of a region that draws its order. -/
namespace Go.Proofs.Ytkehejkjifgieaa
open Go.RowKit Go.ChangeMaps

theorem outcome_push {w : World} {K : Value → World → Prop} {o : Oper} {ρ : Operand → Value} {s x : Operand} {t e : TypeId} {z : Value} {by_ : Nat}
    (ho : o.op = .call { callee := .builtin .append, args := #[s, x], argTypes := #[t, t] }) (ht : Try.prog.underlying t = some (.slice e)) (hinf : (Try.prog.info? e).map (fun i => (i.zero, i.size, i.bytes)) = some (some z, 1, by_)) (hz : z.cells.size = 1) (hby : by_ ≤ 24)
    {base : Nat} {v : Value} {xs : List Value} {g c : Nat} {u : Value} (hs : ρ s = v) (hx : ρ x = .slice (some ⟨g, 0, none⟩) 1 c) (O : Rw w base e v xs) (hu : w.cell? ⟨g, 0, none⟩ = some u) (h1 : u.oneCell' = true)
    (hl : xs.length ≤ 1000000) (hbase : base ≤ w.heap.size)
    (h : ∀ v' w', Rw w' base e v' (xs ++ [u]) → Mod (fun k => v.ownBlock = some k) w w' → (v'.ownBlock = v.ownBlock ∨ v'.ownBlock = some w.heap.size) → K v' w') : outcome Try.prog K ((execOp ρ o).run Try.prog w) := by
  obtain ⟨v', w', hr, h2, h3, h4⟩ := run_push ht hinf hz hby O hu h1 hl hbase (c := c) o.type
  refine outcome_value ?_ (h v' w' h2 h3 h4)
  unfold execOp
  simp only [ho, resolve, invoke, builtin, Sem.run_bind, Sem.run_pure, Result.andThen_ok, List.map_toArray, List.map_cons, List.map_nil, hs, hx, hr]
def PhA (w4 : World) (y : List W8) (v : Value) (W : World) : Prop := v = .string (str y) ∧ Below w4.heap.size w4 W
def PhB (w4 : World) (y : List W8) (v : Value) (W : World) : Prop := (∃ g, v = .slice (some ⟨g, 0, none⟩) 1 1 ∧ W.cell? ⟨g, 0, none⟩ = some (.string (str y))) ∧ Below w4.heap.size w4 W
def PhC (w4 : World) (base : Nat) (u : Value) (K : List (List W8)) (y : List W8) (v : Value) (W : World) : Prop := ∃ wq, Below w4.heap.size w4 wq ∧ Rw W base 9 v (K.map (fun l => .string (str l)) ++ [.string (str y)]) ∧ Mod (fun k => u.ownBlock = some k) wq W ∧ (v.ownBlock = u.ownBlock ∨ v.ownBlock = some wq.heap.size)
def PhD (w4 : World) (base : Nat) (u : Value) (K : List (List W8)) (y : List W8) (x j : Nat) (W : World) : Prop := ∃ v W', PhC w4 base u K y v W' ∧ W = W'.setCell ⟨x, j, none⟩ v
section
variable {w w' w4 W : World} {base x i : Nat} {e : ES}
theorem PhC.at {j : Nat} {u v : Value} {K : List (List W8)} {y : List W8} (h : PhC w4 base u K y v W) (hX : EX w4 base x e) (hu : Sr w4 base u K) (hj : j < 25) : ∃ u', W.cell? ⟨x, j, none⟩ = some u' ∧ W.frozen? ⟨x, j, none⟩ = false ∧ ∃ p c, v = .slice p (K.length + 1) c := by
  obtain ⟨wq, hb, hR, M, _⟩ := h
  have F := (hX.below hb).fn
  have F' := F.mod M (fun hk => by
    obtain ⟨cs, h1⟩ := F.blk
    obtain ⟨cs', h2⟩ := Rw.kind (hu.below hb) hk
    exact absurd (Blk.inj h2 h1).2 (by decide))
  obtain ⟨p, c, e⟩ := Rw.slice hR
  rw [List.length_append, List.length_map] at e
  exact ⟨_, F'.cell hj, F'.frozen j, p, c, e⟩
theorem EX.modPush {u : Value} {K : List (List W8)} (h : EX w base x e) (hu : Sr w base u K) (M : Mod (fun k => u.ownBlock = some k) w w') (j : Nat) (v : Value) : Mod (fun k => k = x ∨ u.ownBlock = some k) w (w'.setCell ⟨x, j, none⟩ v) ∧ Kp kinds7 base w (w'.setCell ⟨x, j, none⟩ v) := by
  have M2 : Mod (fun k => k = x ∨ u.ownBlock = some k) w (w'.setCell ⟨x, j, none⟩ v) := (M.weaken (fun k _ hk => Or.inr hk)).step (Mod.cell w' x j v) (fun k _ hk => Or.inl hk)
  refine ⟨M2, _, M2, fun k hk _ => ?_⟩
  rcases hk with hk | hk
  · obtain ⟨cs, hb⟩ := h.fn.blk
    rw [hk]
    exact ⟨h.hx, fun cs' T hb' => by rw [(Blk.inj hb' hb).2]; decide⟩
  · obtain ⟨cs, hb⟩ := Rw.kind hu hk
    exact ⟨(Rw.lt hu k hk).1, fun cs' T hb' => by rw [(Blk.inj hb' hb).2]; decide⟩
theorem EX.prPush {s t mb r mc b0 n : Nat} {l : List (List W8)} {m : List Ent} {A : Int → Option (List W8)} {u : Value} {K : List (List W8)} (h : EX w base x e) (hu : Sr w base u K) (p : PR w base s t mb r mc l b0 m n A) {S : Nat → Prop} (M : Mod S w w') (hS : ∀ k, S k → k = x ∨ u.ownBlock = some k) : PR w' base s t mb r mc l b0 m n A :=
  p.mod M (fun k hk _ => by
    rcases hS k hk with hk | hk
    · obtain ⟨cs, hb⟩ := h.fn.blk
      rw [hk]
      exact ⟨cs, _, hb, by decide, by decide, by decide, by decide, by decide, by decide⟩
    · obtain ⟨cs, hb⟩ := Rw.kind hu hk
      exact ⟨cs, _, hb, by decide, by decide, by decide, by decide, by decide, by decide⟩)
theorem EC.pushK {v : Value} {y : List W8} (h : EC w base x i e) (hR : Rw w' base 9 v (e.K.map (fun l => .string (str l)) ++ [.string (str y)])) (M : Mod (fun k => e.vK.ownBlock = some k) w w') (o : v.ownBlock = e.vK.ownBlock ∨ v.ownBlock = some w.heap.size) (hy : y.length ≤ 5000) (hK : e.K.length + 1 ≤ i) :
    EC (w'.setCell ⟨x, 24, none⟩ v) base x i { e with vK := v, K := e.K ++ [y] } ∧ Mod (fun k => k = x ∨ e.vK.ownBlock = some k) w (w'.setCell ⟨x, 24, none⟩ v) ∧ Kp kinds7 base w (w'.setCell ⟨x, 24, none⟩ v) := by
  obtain ⟨M2, K2⟩ := h.x.modPush h.x.k M 24 v
  refine ⟨⟨h.x.pushK hR M o, h.x.prPush h.x.k h.p M2 (fun k hk => hk), ⟨h.i.ref, h.i.rr, h.i.bb, h.i.l5, h.i.dl, fun m hm => ?_, h.i.nL, h.i.nN, h.i.nD, by show (e.K ++ [y]).length ≤ i; rw [List.length_append]; exact hK⟩⟩, M2, K2⟩
  rcases List.mem_append.1 hm with hm | hm
  · exact h.i.kl m hm
  · rw [List.mem_singleton] at hm; rw [hm]; exact hy
theorem EC.pushD {v : Value} {y : List W8} (h : EC w base x i e) (hR : Rw w' base 9 v (e.D.map (fun l => .string (str l)) ++ [.string (str y)])) (M : Mod (fun k => e.vD.ownBlock = some k) w w') (o : v.ownBlock = e.vD.ownBlock ∨ v.ownBlock = some w.heap.size) (hy : y.length ≤ 5000) (hD : e.D.length + 1 ≤ 8 * i) :
    EC (w'.setCell ⟨x, 23, none⟩ v) base x i { e with vD := v, D := e.D ++ [y] } ∧ Mod (fun k => k = x ∨ e.vD.ownBlock = some k) w (w'.setCell ⟨x, 23, none⟩ v) ∧ Kp kinds7 base w (w'.setCell ⟨x, 23, none⟩ v) := by
  obtain ⟨M2, K2⟩ := h.x.modPush h.x.d M 23 v
  refine ⟨⟨h.x.pushD hR M o, h.x.prPush h.x.d h.p M2 (fun k hk => hk), ⟨h.i.ref, h.i.rr, h.i.bb, h.i.l5, fun m hm => ?_, h.i.kl, h.i.nL, h.i.nN, by show (e.D ++ [y]).length ≤ 8 * i; rw [List.length_append]; exact hD, h.i.nK⟩⟩, M2, K2⟩
  rcases List.mem_append.1 hm with hm | hm
  · exact h.i.dl m hm
  · rw [List.mem_singleton] at hm; rw [hm]; exact hy
theorem EX.owPush {u : Value} {K : List (List W8)} (h : EX w base x e) (hu : Sr w base u K) {S : Nat → Prop} (M : Mod S w w') (hS : ∀ k, S k → k = x ∨ u.ownBlock = some k) {b : Nat} {v : Value} {xs : List W8} (hr : Ow w b v xs) : Ow w' b v xs :=
  hr.mod M (fun k hk e => by
    obtain ⟨cs', hb'⟩ := hr.kind hk
    rcases hS k e with e | e
    · obtain ⟨cs, hb⟩ := h.fn.blk
      rw [e] at hb'
      exact absurd (Blk.inj hb' hb).2 (by decide)
    · obtain ⟨cs, hb⟩ := Rw.kind hu e
      exact absurd (Blk.inj hb' hb).2 (by decide))
theorem EX.utPush {u : Value} {K : List (List W8)} (h : EX w base x e) (hu : Sr w base u K) {S : Nat → Prop} (M : Mod S w w') (hS : ∀ k, S k → k = x ∨ u.ownBlock = some k) {b b' : Nat} {v : Value} {us : List (Value × List W8)} (hr : Ut w b b' v us) : Ut w' b b' v us :=
  hr.mod M (fun k cs' T hb' hT e => by
    rcases hS k e with e | e
    · obtain ⟨cs, hb⟩ := h.fn.blk
      rw [e] at hb'
      have := (Blk.inj hb' hb).2
      rcases hT with e | e <;> rw [e] at this <;> exact absurd this (by decide)
    · obtain ⟨cs, hb⟩ := Rw.kind hu e
      have := (Blk.inj hb' hb).2
      rcases hT with e | e <;> rw [e] at this <;> exact absurd this (by decide))
theorem EX.srPush {u : Value} {K : List (List W8)} (h : EX w base x e) (_ : Sr w base u K) {S : Nat → Prop} (M : Mod S w w') (hS : ∀ k, S k → k = x ∨ u.ownBlock = some k) {b : Nat} {v : Value} {ms : List (List W8)} (hr : Sr w b v ms) (hd : Dis v u) : Sr w' b v ms :=
  Rw.mod hr M (fun k hk e => by
    rcases hS k e with e | e
    · obtain ⟨cs', hb'⟩ := Rw.kind hr hk
      obtain ⟨cs, hb⟩ := h.fn.blk
      rw [e] at hb'
      exact absurd (Blk.inj hb' hb).2 (by decide)
    · exact hd k hk e)
end
end Go.Proofs.Ytkehejkjifgieaa
