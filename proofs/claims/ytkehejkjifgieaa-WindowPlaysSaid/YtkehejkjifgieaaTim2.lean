/- Timers: up, down, settle and Set. -/
import Derived.Test.YtkehejkjifgieaaTim1
import Derived.Deep.LoopGhost
import Derived.Maps.AppendAt
namespace Go.Proofs.Ytkehejkjifgieaa
open Go.RowKit Go.ChangeMaps

set_option maxRecDepth 100000 in
set_option maxHeartbeats 2000000 in
theorem up_c {w : World} {t mb n : Nat} {sv : Value} {f : Nat → Ent} (h : Tm w t mb sv n f) {i : Nat} {x : Int} (hx : x = i) (hi : i < n) (hu : Up n i f i) :
    Calls Try.prog 53 #[.pointer (some ⟨t, 0, none⟩), .int .i64 x] w fun e w' => e = .returned (.tuple #[]) ∧ ∃ f', Tm w' t mb sv n f' ∧ Dn n f' i ∧ (∀ p, In n f' p ↔ In n f p) ∧ Mod (Own sv mb) w w' := by
  subst hx
  have few := h.few
  have H := hid h; have HU := hid hu; clear h hu
  go_enter Try.func53, Try.ntmps53
  go_wp2
  go_loopg [1] i (fun g v wr => ∃ f' : Nat → Ent, v = .int .i64 g ∧ g < n ∧ Hid (Tm wr t mb sv n f') ∧ Hid (Up n i f' g) ∧ Hid (∀ p, In n f' p ↔ In n f p) ∧ Hid (Mod (Own sv mb) w wr))
  case atStart => exact ⟨f, rfl, hi, H, HU, hid (fun p => Iff.rfl), hid (Mod.refl _ _)⟩
  case round =>
    obtain ⟨f', hv, hg, T, U, I, M⟩ := hrel
    subst hv
    by_cases hk0 : gk = 0
    · go_wp2
      go_end0
      exact ⟨rfl, f', T.out, up_done U.out (Or.inl hk0), I.out, M.out⟩
    · have half := hid (show ((gk : Int) - 1) / 2 = (((gk - 1) / 2 : Nat) : Int) by omega)
      have half2 : (gk - 1) / 2 < n := by omega
      have hpos : 0 < gk := by omega
      by_cases hl : lt (f' gk) (f' ((gk - 1) / 2)) = true
      · go_wp2_with first
          | (go_at_call 64; refine (less_c (j := (gk - 1) / 2) T.out rfl half.out hg half2).mono ?_; rintro e w1 ⟨rfl, hb⟩; rw [hl])
          | (go_at_call 65; refine (swap_c (j := (gk - 1) / 2) (T.out.below hb) rfl half.out hg half2).mono ?_; rintro e w2 ⟨rfl, T2, M2⟩; have T2' := hid T2; have M2' := hid M2; clear T2 M2)
        go_roundg ((gk - 1) / 2)
        case measure => omega
        case rel => exact ⟨_, by rw [half.out], half2, T2', hid (up_step U.out hpos hg hl), hid (fun p => (in_sw hg half2 p).trans (I.out p)), hid ((M.out.trans (Mod.of_below hb _)).trans M2'.out)⟩
      · have hl' : lt (f' gk) (f' ((gk - 1) / 2)) = false := by simpa using hl
        go_wp2_with (go_at_call 64; refine (less_c (j := (gk - 1) / 2) T.out rfl half.out hg half2).mono ?_; rintro e w1 ⟨rfl, hb⟩; rw [hl'])
        go_end0
        exact ⟨rfl, f', T.out.below hb, up_done U.out (Or.inr hl'), I.out, M.out.trans (Mod.of_below hb _)⟩
end Go.Proofs.Ytkehejkjifgieaa

namespace Go.Proofs.Ytkehejkjifgieaa
open Go.RowKit Go.ChangeMaps

/-- c is i, and no child of i stands ahead of it; or c is the child that stands ahead of i and of its brother. -/
def First (n : Nat) (f : Nat → Ent) (i c : Nat) : Prop :=
  (c = i ∧ ∀ d, 0 < d → d < n → (d - 1) / 2 = i → lt (f d) (f i) = false) ∨
  (0 < c ∧ c < n ∧ (c - 1) / 2 = i ∧ lt (f c) (f i) = true ∧ ∀ d, 0 < d → d < n → (d - 1) / 2 = i → lt (f d) (f c) = false)

/-- What stands behind the children below m are looked at. -/
def Seen (n : Nat) (f : Nat → Ent) (i m c : Nat) : Prop :=
  c < n ∧ (c = i ∨ (2 * i + 1 ≤ c ∧ c < m)) ∧ lt (f i) (f c) = false ∧ (c = i ∨ lt (f c) (f i) = true) ∧ ∀ d, 2 * i + 1 ≤ d → d < m → lt (f d) (f c) = false

theorem seen_first {n i m c : Nat} {f : Nat → Ent} (h : Seen n f i m c) (hm : 2 * i + 2 < m ∨ n ≤ m) (hm' : m ≤ 2 * i + 3) : First n f i c := by
  obtain ⟨h1, h2, h3, h4, h5⟩ := h
  rcases h2 with e | ⟨e1, e2⟩
  · subst e
    exact Or.inl ⟨rfl, fun d d0 dn dp => h5 d (by omega) (by omega)⟩
  · refine Or.inr ⟨by omega, h1, by omega, ?_, fun d d0 dn dp => h5 d (by omega) (by omega)⟩
    rcases h4 with h4 | h4
    · omega
    · exact h4

set_option maxRecDepth 100000 in
set_option maxHeartbeats 2000000 in
theorem child_c {w : World} {t mb n : Nat} {sv : Value} {f : Nat → Ent} (h : Tm w t mb sv n f) {i : Nat} {x : Int} (hx : x = i) (hi : i < n) :
    Calls Try.prog 66 #[.pointer (some ⟨t, 0, none⟩), .int .i64 x] w fun e w' => ∃ c : Nat, e = .returned (.int .i64 c) ∧ First n f i c ∧ Below w.heap.size w w' := by
  subst hx
  have few := h.few
  obtain ⟨g0, cap, cur, hsv, hb0, q1, q2, q3, q4⟩ := h.pos (by omega)
  have hsv' : ∃ p, sv = .slice p n cap := ⟨_, hsv⟩
  clear hsv hb0 q1 q2 q3 q4
  obtain ⟨p, hsv⟩ := hsv'
  subst hsv
  have ht := h.blk.lt
  have h0 : w.cell? ⟨t, 0, none⟩ = some (.slice p n cap) := h.blk.cellv rfl
  have H := hid h; clear h
  go_enter Try.func66, Try.ntmps66
  go_wp2
  go_loopg [5, 6] 2 (fun g v m wr => ∃ (c : Nat), v = .int .i64 c ∧ m = .int .i64 ((2 * i + 3 - g : Nat) : Int) ∧ g ≤ 2 ∧ c ≤ 2 * i + 2 ∧ Hid (Seen n f i (2 * i + 3 - g) c) ∧ Hid (Below w.heap.size w wr))
  case atStart => exact ⟨i, rfl, by go_num, by omega, by omega, hid ⟨hi, Or.inl rfl, by rw [lt_no]; omega, Or.inl rfl, fun d d1 d2 => by omega⟩, hid (Below.refl _ _)⟩
  case round =>
    obtain ⟨c, hv, hm, hg, hc, S, B⟩ := hrel
    subst hv hm
    have h0' : wr.cell? ⟨t, 0, none⟩ = some (.slice p n cap) := (B.out.cell (by simpa using ht)).trans h0
    have ht' : t < wr.heap.size := Nat.lt_of_lt_of_le ht B.out.size
    generalize hmm : 2 * i + 3 - gk = m at *
    have hm1 : 2 * i + 1 ≤ m := by omega
    have hm2 : m ≤ 2 * i + 3 := by omega
    have hwm : Below w.heap.size w wr := B.out
    by_cases hk0 : m ≤ 2 * i + 2
    · by_cases hk1 : m < n
      · obtain ⟨s1, s2, s3, s4, s5⟩ := S.out
        have S' := hid (show 2 * i + 1 ≤ m ∧ m < 2 * i + 3 by omega)
        cases hl : lt (f m) (f c)
        · go_wp2_with (go_at_call 64; refine (less_c (H.out.below B.out) rfl rfl hk1 S.out.1).mono ?_; rintro e w1 ⟨rfl, hb⟩; rw [hl])
          go_roundg (gk - 1)
          case measure => omega
          case rel => exact ⟨c, rfl, by go_num, by omega, by omega, hid ⟨s1, by omega, s3, s4, fun d d1 d2 => by
            by_cases e : d = m
            · subst e; exact hl
            · exact s5 d d1 (by omega)⟩, hid (B.out.trans (hb.mono B.out.size))⟩
        · go_wp2_with (go_at_call 64; refine (less_c (H.out.below B.out) rfl rfl hk1 S.out.1).mono ?_; rintro e w1 ⟨rfl, hb⟩; rw [hl])
          go_roundg (gk - 1)
          case measure => omega
          case rel => exact ⟨m, rfl, by go_num, by omega, by omega, hid ⟨hk1, by omega, by rw [lt_no] at *; rw [lt_iff] at hl; omega, Or.inr (by rw [lt_no] at s3; rw [lt_iff] at *; omega), fun d d1 d2 => by
            by_cases e : d = m
            · subst e; rw [lt_no]; omega
            · have := s5 d d1 (by omega); rw [lt_no] at *; rw [lt_iff] at hl; omega⟩, hid (B.out.trans (hb.mono B.out.size))⟩
      · go_wp2
        go_ret
        exact ⟨c, rfl, seen_first S.out (by omega) hm2, B.out⟩
    · go_wp2
      go_ret
      exact ⟨c, rfl, seen_first S.out (by omega) hm2, B.out⟩
end Go.Proofs.Ytkehejkjifgieaa

namespace Go.Proofs.Ytkehejkjifgieaa
open Go.RowKit Go.ChangeMaps

theorem first_le {n i c : Nat} {f : Nat → Ent} (h : First n f i c) (hi : i < n) : i ≤ c ∧ c < n := by
  rcases h with ⟨h, _⟩ | ⟨h1, h2, h3, _⟩ <;> omega

set_option maxRecDepth 100000 in
set_option maxHeartbeats 2000000 in
theorem down_c {w : World} {t mb n : Nat} {sv : Value} {f : Nat → Ent} (h : Tm w t mb sv n f) {i : Nat} {x : Int} (hx : x = i) (hi : i < n) (hu : Dn n f i) :
    Calls Try.prog 54 #[.pointer (some ⟨t, 0, none⟩), .int .i64 x] w fun e w' => e = .returned (.tuple #[]) ∧ ∃ f', Tm w' t mb sv n f' ∧ Heap n f' ∧ (∀ p, In n f' p ↔ In n f p) ∧ Mod (Own sv mb) w w' := by
  subst hx
  have few := h.few
  have H := hid h; have HU := hid hu; clear h hu
  go_enter Try.func54, Try.ntmps54
  go_wp2_with (go_at_call 66; refine (child_c H.out rfl hi).mono ?_; rintro e w1 ⟨c1, rfl, F1, hb1⟩; have F1' := hid F1; clear F1)
  go_loopg [1, 4] (n - i) (fun g v u wr => ∃ (f' : Nat → Ent) (k c : Nat), v = .int .i64 k ∧ u = .int .i64 c ∧ g = n - k ∧ k < n ∧ Hid (First n f' k c) ∧ Hid (Tm wr t mb sv n f') ∧ Hid (Dn n f' k) ∧ Hid (∀ p, In n f' p ↔ In n f p) ∧ Hid (Mod (Own sv mb) w wr))
  case atStart => exact ⟨f, i, c1, rfl, rfl, rfl, hi, F1', hid (H.out.below hb1), HU, hid (fun p => Iff.rfl), hid (Mod.of_below hb1 _)⟩
  case round =>
    obtain ⟨f', k, c, hv, hu, hg, hk, F, T, U, I, M⟩ := hrel
    subst hv hu
    by_cases hk0 : c = k
    · subst hk0
      go_wp2
      go_end0
      refine ⟨rfl, f', T.out, dn_done U.out ?_, I.out, M.out⟩
      rcases F.out with h | h
      · exact h.2
      · omega
    · have hle := first_le F.out hk
      have hne : ¬ ((c : Int) = (k : Int)) := by omega
      obtain ⟨f1, f2, f3, f4, f5⟩ : 0 < c ∧ c < n ∧ (c - 1) / 2 = k ∧ lt (f' c) (f' k) = true ∧ Hid (∀ d, 0 < d → d < n → (d - 1) / 2 = k → lt (f' d) (f' c) = false) := by
        rcases F.out with h | h
        · exact absurd h.1 hk0
        · exact h
      have f3' := hid f3; have f4' := hid f4; clear f3 f4
      go_wp2_with first
        | (go_at_call 65; refine (swap_c T.out rfl rfl hk hle.2).mono ?_; rintro e w2 ⟨rfl, T2, M2⟩; have T2' := hid T2; have M2' := hid M2; clear T2 M2)
        | (go_at_call 66; refine (child_c T2'.out rfl hle.2).mono ?_; rintro e w3 ⟨c3, rfl, F3, hb3⟩; have F3' := hid F3; clear F3)
      go_roundg (n - c)
      case measure => omega
      case rel => exact ⟨_, c, c3, rfl, rfl, rfl, hle.2, F3', hid (T2'.out.below hb3), hid (dn_step U.out f1 f2 f3'.out f4'.out f5.out), hid (fun p => (in_sw hk f2 p).trans (I.out p)), hid ((M.out.trans M2'.out).trans (Mod.of_below hb3 _))⟩

set_option maxRecDepth 100000 in
set_option maxHeartbeats 2000000 in
theorem settle_c {w : World} {t mb n : Nat} {sv : Value} {f : Nat → Ent} (h : Tm w t mb sv n f) {i : Nat} {x : Int} (hx : x = i) (hi : i < n) (hu : Up n i f i) :
    Calls Try.prog 39 #[.pointer (some ⟨t, 0, none⟩), .int .i64 x] w fun e w' => e = .returned (.tuple #[]) ∧ ∃ f', Tm w' t mb sv n f' ∧ Heap n f' ∧ (∀ p, In n f' p ↔ In n f p) ∧ Mod (Own sv mb) w w' := by
  subst hx
  have few := h.few
  have H := hid h; have HU := hid hu; clear h hu
  go_enter Try.func39, Try.ntmps39
  go_wp2_with first
    | (go_at_call 53; refine (up_c H.out rfl hi HU.out).mono ?_; rintro e w1 ⟨rfl, f1, T1, D1, I1, M1⟩; have T1' := hid T1; have D1' := hid D1; have I1' := hid I1; have M1' := hid M1; clear T1 D1 I1 M1)
    | (go_at_call 54; refine (down_c T1'.out rfl hi D1'.out).mono ?_; rintro e w2 ⟨rfl, f2, T2, D2, I2, M2⟩; have T2' := hid T2; have D2' := hid D2; have I2' := hid I2; have M2' := hid M2; clear T2 D2 I2 M2)
  go_end0
  exact ⟨rfl, f2, T2'.out, D2'.out, fun p => (I2'.out p).trans (I1'.out p), M1'.out.trans M2'.out⟩
end Go.Proofs.Ytkehejkjifgieaa

namespace Go.Proofs.Ytkehejkjifgieaa
open Go.RowKit Go.ChangeMaps

def put (f : Nat → Ent) (i : Nat) (e : Ent) : Nat → Ent := fun k => if k = i then e else f k
def Has (n : Nat) (f : Nat → Ent) (x : Int) : Prop := ∃ k, k < n ∧ (f k).1 = x

theorem news_alloc (w : World) (cs : Array Value) (T : TypeId) : ∀ j u, cs.toList[j]? = some u → (w.alloc (.cells cs T)).cell? ((⟨w.heap.size, 0, none⟩ : Addr).add j) = some u := by
  intro j u h
  have hj : (w.alloc (.cells cs T)).cell? ⟨w.heap.size, j, none⟩ = some u := ((Blk.new w cs T).cell j).trans (by rw [← Array.getElem?_toList]; exact h)
  unfold Addr.add
  by_cases e : j = 0
  · subst e; simpa using hj
  · simpa [e] using hj

theorem Tm.row_own {w : World} {t mb n : Nat} {sv : Value} {f : Nat → Ent} (h : Tm w t mb sv n f) :
    ∃ xs, w.ownsRow 0 95 2 sv n xs ∧ ∀ k, k < n → xs[k * 2]? = some (.int .u32 (f k).1) ∧ xs[k * 2 + 1]? = some (.int .u64 (f k).2) := by
  rcases h.row with ⟨rfl, rfl⟩ | ⟨g, cap, cur, rfl, h1, h2, h3, h4, h5⟩
  · exact ⟨[], World.ownsRow_nil _ _ _ _, fun k hk => absurd hk (by omega)⟩
  · refine ⟨cur.toList.take (n * 2), ⟨?_, Or.inr ⟨g, cap, cur, rfl, Nat.zero_le _, h1, h2, h3, h4, rfl⟩⟩, fun k hk => ?_⟩
    · rw [List.length_take, Array.length_toList]; omega
    · rw [List.getElem?_take_of_lt (by omega), List.getElem?_take_of_lt (by omega), Array.getElem?_toList, Array.getElem?_toList]
      exact h5 k hk

theorem grown_ents {w : World} {n : Nat} {v : Value} {xs : List Value} {f : Nat → Ent} {e : Ent} (h : w.ownsRow 0 95 2 v (n + 1) (xs ++ [.int .u32 e.1, .int .u64 e.2])) (hl : xs.length = n * 2)
    (hx : ∀ k, k < n → xs[k * 2]? = some (.int .u32 (f k).1) ∧ xs[k * 2 + 1]? = some (.int .u64 (f k).2)) :
    ∃ g cap cur, v = .slice (some ⟨g, 0, none⟩) (n + 1) cap ∧ Blk w g cur 95 ∧ n + 1 ≤ cap ∧ cap ≤ maxLen ∧ cur.size = cap * 2 ∧ Ents cur (n + 1) (put f n e) := by
  rcases h.2 with ⟨_, h0⟩ | ⟨g, cap, cur, rfl, _, h1, h2, h3, h4, h5⟩
  · omega
  · refine ⟨g, cap, cur, rfl, h1, h2, h3, h4, fun k hk => ?_⟩
    have key : ∀ j, j < (n + 1) * 2 → cur[j]? = (xs ++ [Value.int .u32 e.1, .int .u64 e.2])[j]? := by
      intro j hj
      rw [← h5, List.getElem?_take_of_lt hj, Array.getElem?_toList]
    rw [key _ (by omega), key _ (by omega)]
    unfold put
    by_cases e1 : k = n
    · subst e1
      rw [if_pos rfl, List.getElem?_append_right (by omega), List.getElem?_append_right (by omega), hl]
      rw [show k * 2 - k * 2 = 0 by omega, show k * 2 + 1 - k * 2 = 1 by omega]
      exact ⟨rfl, rfl⟩
    · rw [if_neg e1, List.getElem?_append_left (by omega), List.getElem?_append_left (by omega)]
      exact hx k (by omega)

theorem Ents.at {cur : Array Value} {n i : Nat} {f : Nat → Ent} (h : Ents cur n f) (hi : i < n) (hc : n * 2 ≤ cur.size) (x : Int) :
    Ents (cur.setIfInBounds (i * 2 + 1) (.int .u64 x)) n (put f i ((f i).1, x)) := by
  intro k hk
  unfold put
  by_cases e1 : k = i
  · subst e1
    rw [if_pos rfl, Array.getElem?_setIfInBounds_ne (by omega), Array.getElem?_setIfInBounds_self_of_lt (by omega)]
    exact ⟨(h k hk).1, rfl⟩
  · rw [if_neg e1, Array.getElem?_setIfInBounds_ne (by omega), Array.getElem?_setIfInBounds_ne (by omega)]
    exact h k hk
theorem put_put (f : Nat → Ent) (i : Nat) (a b : Ent) : put (put f i a) i b = put f i b := by
  funext k; unfold put; by_cases e : k = i
  · rw [if_pos e, if_pos e]
  · rw [if_neg e, if_neg e, if_neg e]
theorem put_self (f : Nat → Ent) (i : Nat) (a : Ent) : put f i a i = a := by unfold put; rw [if_pos rfl]
theorem put_ne {f : Nat → Ent} {i k : Nat} (a : Ent) (h : k ≠ i) : put f i a k = f k := by unfold put; rw [if_neg h]

theorem inj_put_old {n i : Nat} {f : Nat → Ent} (h : Inj n f) (x : Int) : Inj n (put f i ((f i).1, x)) := by
  have e : ∀ k, (put f i ((f i).1, x) k).1 = (f k).1 := by
    intro k; unfold put; by_cases e : k = i
    · subst e; rw [if_pos rfl]
    · rw [if_neg e]
  intro a b ha hb hab
  rw [e, e] at hab; exact h a b ha hb hab
theorem inj_put_new {n : Nat} {f : Nat → Ent} (h : Inj n f) {e : Ent} (hn : ¬ Has n f e.1) : Inj (n + 1) (put f n e) := by
  intro a b ha hb hab
  unfold put at hab
  by_cases e1 : a = n <;> by_cases e2 : b = n
  · omega
  · rw [if_pos e1, if_neg e2] at hab; exact absurd ⟨b, by omega, hab.symm⟩ hn
  · rw [if_neg e1, if_pos e2] at hab; exact absurd ⟨a, by omega, hab⟩ hn
  · rw [if_neg e1, if_neg e2] at hab; exact h a b (by omega) (by omega) hab
theorem where_put_old {w : World} {mb n i : Nat} {f : Nat → Ent} (h : Where w mb n f) (x : Int) : Where w mb n (put f i ((f i).1, x)) := by
  have e : ∀ k, (put f i ((f i).1, x) k).1 = (f k).1 := by
    intro k; unfold put; by_cases e : k = i
    · subst e; rw [if_pos rfl]
    · rw [if_neg e]
  obtain ⟨D, h1, h2, h3⟩ := h
  refine ⟨D, h1, fun k hk => by rw [e]; exact h2 k hk, fun x v hx => ?_⟩
  obtain ⟨k, hk, hk'⟩ := h3 x v hx
  exact ⟨k, hk, by rw [e]; exact hk'⟩
theorem where_put_new {w : World} {mb n : Nat} {f : Nat → Ent} {D : Int → Option Value} {e : Ent} (h2 : ∀ k, k < n → D (f k).1 = some (.int .i64 (k : Int))) (h3 : ∀ x v, D x = some v → ∃ k, k < n ∧ (f k).1 = x)
    (hn : ¬ Has n f e.1) (h : IMap w mb .u32 (upd D e.1 (.int .i64 (n : Int)))) : Where w mb (n + 1) (put f n e) := by
  refine ⟨_, h, fun k hk => ?_, fun x v hx => ?_⟩
  · unfold upd put
    by_cases e1 : k = n
    · subst e1; rw [if_pos rfl, if_pos rfl]
    · rw [if_neg e1, if_neg (fun e2 => hn ⟨k, by omega, e2⟩)]; exact h2 k (by omega)
  · unfold upd at hx
    by_cases e1 : x = e.1
    · exact ⟨n, by omega, by rw [put_self]; exact e1.symm⟩
    · rw [if_neg e1] at hx
      obtain ⟨k, hk, hk'⟩ := h3 x v hx
      exact ⟨k, by omega, by rw [put_ne _ (by omega)]; exact hk'⟩

/-- One place changed: all is in order but what touches it. -/
theorem up_put {n i : Nat} {f : Nat → Ent} (h : Heap n f) (e : Ent) : Up n i (put f i e) i := by
  refine ⟨Nat.le_refl _, fun j j0 jn ji jp => ?_, fun j j0 jn jp i0 => ?_, fun h => absurd rfl h⟩
  · unfold Ord; rw [put_ne _ ji, put_ne _ jp]; exact h j j0 jn
  · rw [put_ne _ (by omega), put_ne _ (by omega)]
    have h1 := h j j0 jn
    have h2 := h i i0 (by omega)
    unfold Ord at h1 h2
    rw [jp] at h1
    rw [lt_no] at *; omega
theorem up_new {n : Nat} {f : Nat → Ent} (h : Heap n f) (e : Ent) : Up (n + 1) n (put f n e) n := by
  refine ⟨Nat.le_refl _, fun j j0 jn ji jp => ?_, fun j j0 jn jp i0 => by omega, fun h => absurd rfl h⟩
  unfold Ord; rw [put_ne _ ji, put_ne _ jp]; exact h j j0 (by omega)
theorem in_put_old {n i : Nat} {f : Nat → Ent} (h : Inj n f) (hi : i < n) (x : Int) (p : Ent) : In n (put f i ((f i).1, x)) p ↔ (p.1 ≠ (f i).1 ∧ In n f p) ∨ p = ((f i).1, x) := by
  constructor
  · rintro ⟨k, hk, e⟩
    by_cases e1 : k = i
    · subst e1; rw [put_self] at e; exact Or.inr e.symm
    · rw [put_ne _ e1] at e
      exact Or.inl ⟨fun e2 => e1 (h k i hk hi (by rw [e]; exact e2)), k, hk, e⟩
  · rintro (⟨h1, k, hk, e⟩ | rfl)
    · exact ⟨k, hk, by rw [put_ne _ (by rintro rfl; rw [e] at h1; exact h1 rfl)]; exact e⟩
    · exact ⟨i, hi, put_self _ _ _⟩
theorem in_put_new {n : Nat} {f : Nat → Ent} {e : Ent} (hn : ¬ Has n f e.1) (p : Ent) : In (n + 1) (put f n e) p ↔ (p.1 ≠ e.1 ∧ In n f p) ∨ p = e := by
  constructor
  · rintro ⟨k, hk, h⟩
    by_cases e1 : k = n
    · subst e1; rw [put_self] at h; exact Or.inr h.symm
    · rw [put_ne _ e1] at h
      exact Or.inl ⟨fun e2 => hn ⟨k, by omega, by rw [h]; exact e2⟩, k, by omega, h⟩
  · rintro (⟨h1, k, hk, h⟩ | rfl)
    · exact ⟨k, by omega, by rw [put_ne _ (by omega)]; exact h⟩
    · exact ⟨n, by omega, put_self _ _ _⟩
theorem has_in {n : Nat} {f : Nat → Ent} {x : Int} : Has n f x ↔ ∃ a, In n f (x, a) := by
  constructor
  · rintro ⟨k, hk, e⟩; exact ⟨(f k).2, k, hk, by rw [← e]⟩
  · rintro ⟨a, k, hk, e⟩; exact ⟨k, hk, by rw [e]⟩
end Go.Proofs.Ytkehejkjifgieaa

namespace Go.Proofs.Ytkehejkjifgieaa
open Go.RowKit Go.ChangeMaps

theorem info62 : (Try.prog.info? 95).map (fun i => (i.zero, i.size, i.bytes)) = some (some (.agg #[.int .u32 0, .int .u64 0]), 2, 16) := by kernel_rfl

/-- What Set leaves: e its answer. -/
structure SetDone (w w' : World) (t mb : Nat) (sv : Value) (n : Nat) (f : Nat → Ent) (id at_ : Int) (e : Int) : Prop where
  mod : Mod (fun k => k = t ∨ Own sv mb k) w w'
  full : e = 7 → ¬ Has n f id ∧ 1000 ≤ n ∧ Tm w' t mb sv n f
  done : e ≠ 7 → e = 0 ∧ (Has n f id ∨ n < 1000) ∧ ∃ sv' n' f', Tm w' t mb sv' n' f' ∧ (∀ k, Own sv' mb k → Own sv mb k ∨ w.heap.size ≤ k) ∧ Heap n' f' ∧ (Has n f id → n' = n) ∧ (¬ Has n f id → n' = n + 1) ∧ ∀ p, In n' f' p ↔ (p.1 ≠ id ∧ In n f p) ∨ p = (id, at_)

set_option maxRecDepth 100000 in
set_option maxHeartbeats 4000000 in
theorem set_old {w : World} {t mb n : Nat} {sv : Value} {f : Nat → Ent} (h : Tm w t mb sv n f) (hh : Heap n f) (hn : n ≤ 1000) {id at_ : Int} (hhas : Has n f id) :
    Calls Try.prog 22 #[.pointer (some ⟨t, 0, none⟩), .int .u32 id, .int .u64 at_] w fun e w' => ∃ x, e = .returned (.int .i64 x) ∧ SetDone w w' t mb sv n f id at_ x := by
  obtain ⟨i, hi, rfl⟩ := hhas
  obtain ⟨g, cap, cur, rfl, hb, h1, h2, h3, h4⟩ := h.pos (by omega)
  obtain ⟨D, hD, hD1, hD2⟩ := h.map
  have ht := h.blk.lt
  have hg := hb.lt
  have htg : t ≠ g := h.blk.ne hb (by decide)
  have htm : t ≠ mb := hD.not_cells h.blk
  have hgm : g ≠ mb := hD.not_cells hb
  have c0 : w.cell? ⟨t, 0, none⟩ = some (.slice (some ⟨g, 0, none⟩) n cap) := h.blk.cellv rfl
  have c1 : w.cell? ⟨t, 1, none⟩ = some (.map (some mb)) := h.blk.cellv rfl
  have lk : (Instr.lookup 89 (.map (some mb)) (.int .u32 (f i).1) true).run Try.prog w = .ok (.tuple #[.int .i64 (i : Int), .bool true]) w := by
    have := hD.look (P := Try.prog) (t := 89) (z := .int .i64 0) rfl rfl rfl (f i).1
    rw [hD1 i hi] at this; exact this
  have cv : w.cell? ⟨g, i * 2 + 1, none⟩ = some (.int .u64 (f i).2) := hb.cellv (h4 i hi).2
  have fz : w.frozen? ⟨g, i * 2 + 1, none⟩ = false := hb.frozen _
  have T2 : Tm (w.setCell ⟨g, i * 2 + 1, none⟩ (.int .u64 at_)) t mb (.slice (some ⟨g, 0, none⟩) n cap) n (put f i ((f i).1, at_)) :=
    ⟨h.blk.other (Ne.symm htg) _, Or.inr ⟨g, cap, _, rfl, hb.set _ _, h1, h2, by simp [h3], h4.at hi (by omega) _⟩, where_put_old (h.map.mono (Below.heap_setCell _ _ _ _ (Ne.symm hgm))) _, inj_put_old h.inj _, h.few⟩
  have T2' := hid T2; have HD := hid hD1; have HD2 := hid hD2; have HD0 := hid hD; have H4 := hid h4; have HH := hid hh; have H := hid h; have HB := hid hb
  clear T2 hD1 hD2 hD h4 hh h hb
  go_enter Try.func22, Try.ntmps22
  go_wp2_with (go_at_call 39; refine (settle_c T2'.out rfl hi (up_put HH.out _)).mono ?_; rintro e w2 ⟨rfl, f2, T3, D3, I3, M3⟩; have T3' := hid T3; have D3' := hid D3; have I3' := hid I3; have M3' := hid M3; clear T3 D3 I3 M3)
  go_ret
  refine ⟨0, rfl, ⟨?_, fun h => absurd h (by decide), fun _ => ⟨rfl, Or.inl ⟨i, hi, rfl⟩, _, n, f2, T3'.out, fun _ => Or.inl, D3'.out, fun _ => rfl, fun h => absurd ⟨i, hi, rfl⟩ h, fun p => (I3'.out p).trans (in_put_old H.out.inj hi _ p)⟩⟩⟩
  exact (((Mod.refl _ w).setCell (fun _ => Or.inr (Or.inl rfl)) _)).trans (M3'.out.weaken fun k _ hk => Or.inr hk)

theorem where_none {n : Nat} {f : Nat → Ent} {D : Int → Option Value} (h3 : ∀ x v, D x = some v → ∃ k, k < n ∧ (f k).1 = x) {x : Int} (hn : ¬ Has n f x) : D x = none := by
  cases h : D x with
  | none => rfl
  | some v => exact absurd (h3 x v h) hn

set_option maxRecDepth 100000 in
set_option maxHeartbeats 4000000 in
theorem set_full {w : World} {t mb n : Nat} {sv : Value} {f : Nat → Ent} (h : Tm w t mb sv n f) (hn : 1000 ≤ n) {id at_ : Int} (hhas : ¬ Has n f id) :
    Calls Try.prog 22 #[.pointer (some ⟨t, 0, none⟩), .int .u32 id, .int .u64 at_] w fun e w' => ∃ x, e = .returned (.int .i64 x) ∧ SetDone w w' t mb sv n f id at_ x := by
  obtain ⟨g, cap, cur, rfl, hb, h1, h2, h3, h4⟩ := h.pos (by omega)
  obtain ⟨D, hD, hD1, hD2⟩ := h.map
  have ht := h.blk.lt
  have few := h.few
  have c0 : w.cell? ⟨t, 0, none⟩ = some (.slice (some ⟨g, 0, none⟩) n cap) := h.blk.cellv rfl
  have c1 : w.cell? ⟨t, 1, none⟩ = some (.map (some mb)) := h.blk.cellv rfl
  have lk : (Instr.lookup 89 (.map (some mb)) (.int .u32 id) true).run Try.prog w = .ok (.tuple #[.int .i64 0, .bool false]) w := by
    have := hD.look (P := Try.prog) (t := 89) (z := .int .i64 0) rfl rfl rfl id
    rw [where_none hD2 hhas] at this; exact this
  have HD := hid hD1; have HD2 := hid hD2; have HD0 := hid hD; have H4 := hid h4; have H := hid h; have HB := hid hb; have HN := hid hhas
  clear hD1 hD2 hD h4 h hb hhas
  go_enter Try.func22, Try.ntmps22
  go_wp2
  go_ret
  exact ⟨7, rfl, ⟨Mod.refl _ _, fun _ => ⟨HN.out, hn, H.out⟩, fun h => absurd rfl h⟩⟩

/-- What append has left. -/
theorem grow_facts {w w1 : World} {t mb n : Nat} {sv : Value} {f : Nat → Ent} {D : Int → Option Value} {cs : Array Value} {T : TypeId} (h : Tm w t mb sv n f) (hD : IMap w mb .u32 D) (hg : (w.alloc (.cells cs T)).grownBy w1 sv.ownBlock) :
    Blk w1 t #[sv, .map (some mb)] 92 ∧ IMap w1 mb .u32 D ∧ Mod (fun k => sv.ownBlock = some k) w w1 := by
  have M : Mod (fun k => sv.ownBlock = some k) (w.alloc (.cells cs T)) w1 := Mod.of_grown hg (fun k hk => hk)
  have M1 := ((Mod.refl (fun k => sv.ownBlock = some k) w).alloc (.cells cs T)).trans M
  have nt : ¬ sv.ownBlock = some t := fun e => Own.not_t h (Or.inl e)
  have nm : ¬ sv.ownBlock = some mb := by
    intro e
    rcases h.row with ⟨r, _⟩ | ⟨g', cap, cur, r1, r2, r3⟩
    · rw [r] at e; cases e
    · rw [r1] at e; cases e; exact hD.not_cells r2 rfl
  exact ⟨M1.blk h.blk nt, hD.of_block (M1.block mb hD.lt nm), M1⟩

set_option maxRecDepth 100000 in
set_option maxHeartbeats 4000000 in
theorem set_new {w : World} {t mb n : Nat} {sv : Value} {f : Nat → Ent} (h : Tm w t mb sv n f) (hh : Heap n f) (hn : n < 1000) {id at_ : Int} (hhas : ¬ Has n f id) :
    Calls Try.prog 22 #[.pointer (some ⟨t, 0, none⟩), .int .u32 id, .int .u64 at_] w fun e w' => ∃ x, e = .returned (.int .i64 x) ∧ SetDone w w' t mb sv n f id at_ x := by
  obtain ⟨p, cap, hsv⟩ : ∃ p cap, sv = .slice p n cap := by
    rcases h.row with ⟨rfl, rfl⟩ | ⟨g, cap, cur, rfl, _⟩
    · exact ⟨_, _, rfl⟩
    · exact ⟨_, _, rfl⟩
  obtain ⟨D, hD, hD1, hD2⟩ := h.map
  have ht := h.blk.lt
  have few := h.few
  have c0 : w.cell? ⟨t, 0, none⟩ = some (.slice p n cap) := by rw [← hsv]; exact h.blk.cellv rfl
  have c1 : w.cell? ⟨t, 1, none⟩ = some (.map (some mb)) := h.blk.cellv rfl
  have lk : (Instr.lookup 89 (.map (some mb)) (.int .u32 id) true).run Try.prog w = .ok (.tuple #[.int .i64 0, .bool false]) w := by
    have := hD.look (P := Try.prog) (t := 89) (z := .int .i64 0) rfl rfl rfl id
    rw [where_none hD2 hhas] at this; exact this
  obtain ⟨xs, hown, hxs⟩ := h.row_own
  have hxl := hid hown.1
  obtain ⟨i0, hi, hz0, hz1, hz2⟩ := info_parts info62
  have HD := hid hD1; have HD2 := hid hD2; have HD0 := hid hD; have H := hid h; have HN := hid hhas; have HX := hid hxs; have HH := hid hh; have HO := hid hown
  clear hD1 hD2 hD h hhas hxs hh hown
  subst hsv
  go_enter Try.func22, Try.ntmps22
  go_wp2_with (at_builtin; refine wpList_append_own_at _ rfl (.tmp 37) (.tmp 40) 90 rfl 0 95 i0 (.agg #[.int .u32 0, .int .u64 0]) 2 16 rfl hi hz0 hz1 hz2 rfl (by decide) (.slice p n cap) n xs rfl (HO.out.alloc _) ⟨w.heap.size, 0, none⟩ 1 1 [.int .u32 id, .int .u64 0] rfl rfl (news_alloc w #[.int .u32 id, .int .u64 0] _) (by simp [Value.oneCell']) (by unfold maxLen; omega) (by omega) (by simp) ?_)
  intro v' w1 hown' hgrow _ hat
  obtain ⟨b1, b2, M1⟩ := grow_facts H.out HD0.out hgrow
  obtain ⟨g, cap1, cur, rfl, hb, q1, q2, q3, q4⟩ := grown_ents (e := (id, 0)) hown' hxl.out HX.out
  clear hown' hgrow
  have ht1 := b1.lt
  have hg1 := hb.lt
  have htg : t ≠ g := b1.ne hb (by decide)
  have htm : t ≠ mb := b2.not_cells b1
  have hgm : g ≠ mb := b2.not_cells hb
  have d0 : w1.cell? ⟨t, 0, none⟩ = some (.slice p n cap) := b1.cellv rfl
  have d1 : w1.cell? ⟨t, 1, none⟩ = some (.map (some mb)) := b1.cellv rfl
  have d2 : w1.frozen? ⟨t, 0, none⟩ = false := b1.frozen _
  have b3 : Blk (w1.setCell ⟨t, 0, none⟩ (.slice (some ⟨g, 0, none⟩) (n + 1) cap1)) t #[.slice (some ⟨g, 0, none⟩) (n + 1) cap1, .map (some mb)] 92 := b1.set 0 _
  have b4 : IMap (w1.setCell ⟨t, 0, none⟩ (.slice (some ⟨g, 0, none⟩) (n + 1) cap1)) mb .u32 D := b2.other htm _
  have b5 : Blk (w1.setCell ⟨t, 0, none⟩ (.slice (some ⟨g, 0, none⟩) (n + 1) cap1)) g cur 95 := hb.other htg _
  have M2 : Mod (fun k => k = t ∨ Own (.slice p n cap) mb k) w (w1.setCell ⟨t, 0, none⟩ (.slice (some ⟨g, 0, none⟩) (n + 1) cap1)) := (M1.weaken (S' := fun k => k = t ∨ Own (.slice p n cap) mb k) (fun k _ hk => Or.inr (Or.inl hk))).setCell (p := ⟨t, 0, none⟩) (fun _ => Or.inl rfl) _
  obtain ⟨es, cl, hup, hup2⟩ := b4.update (P := Try.prog) (t := 89) rfl rfl id (.int .i64 n)
  have c5 := hup2 _ (heap_setBlock b4.lt _)
  have c3 := b3.setBlock (.map es cl) htm
  have c4 := b5.setBlock (.map es cl) hgm
  have M3 := M2.setBlock (b := mb) (fun _ => Or.inr (Or.inr rfl)) (.map es cl)
  have d3 : (setBlock (w1.setCell ⟨t, 0, none⟩ (.slice (some ⟨g, 0, none⟩) (n + 1) cap1)) mb (.map es cl)).cell? ⟨t, 0, none⟩ = some (.slice (some ⟨g, 0, none⟩) (n + 1) cap1) := c3.cellv rfl
  have d4 : (setBlock (w1.setCell ⟨t, 0, none⟩ (.slice (some ⟨g, 0, none⟩) (n + 1) cap1)) mb (.map es cl)).cell? ⟨g, n * 2 + 1, none⟩ = some (.int .u64 0) := c4.cellv (by have := (q4 n (by omega)).2; rw [put_self] at this; exact this)
  have d5 : (setBlock (w1.setCell ⟨t, 0, none⟩ (.slice (some ⟨g, 0, none⟩) (n + 1) cap1)) mb (.map es cl)).frozen? ⟨g, n * 2 + 1, none⟩ = false := c4.frozen _
  generalize hw3 : setBlock (w1.setCell ⟨t, 0, none⟩ (.slice (some ⟨g, 0, none⟩) (n + 1) cap1)) mb (.map es cl) = w3 at *
  have ht3 := c3.lt
  have hg3 := c4.lt
  have hcs : (n + 1) * 2 ≤ cur.size := by omega
  have T4 : Tm (w3.setCell ⟨g, n * 2 + 1, none⟩ (.int .u64 at_)) t mb (.slice (some ⟨g, 0, none⟩) (n + 1) cap1) (n + 1) (put f n (id, at_)) := by
    refine ⟨c3.other (Ne.symm htg) _, Or.inr ⟨g, cap1, _, rfl, c4.set _ _, q1, q2, by simp [q3], ?_⟩, ?_, inj_put_new H.out.inj HN.out, by omega⟩
    · have := q4.at (i := n) (by omega) hcs at_
      rw [put_self, put_put] at this; exact this
    · exact where_put_new (e := (id, at_)) HD.out HD2.out HN.out (c5.other hgm _)
  have T4' := hid T4; have M3' := hid M3
  clear T4 M3 M2 M1 b1 b2 b3 b4 b5 c3 c4 c5 hb q4 hup2 hcs q3
  have HW3 := hid hw3
  have G := hid (show g < w.heap.size → Own (.slice p n cap) mb g from fun hlt => by
    rcases hat with e | e
    · exact Or.inl e.symm
    · have e' : g = w.heap.size + 1 := by simpa [Value.ownBlock] using e
      omega)
  clear hat
  go_wp2_with (go_at_call 39; refine (settle_c T4'.out rfl (Nat.lt_succ_self n) (up_new HH.out _)).mono ?_; rintro e w5 ⟨rfl, f2, T5, D5, I5, M5⟩; have T5' := hid T5; have D5' := hid D5; have I5' := hid I5; have M5' := hid M5; clear T5 D5 I5 M5)
  go_ret
  refine ⟨0, rfl, ⟨?_, fun h => absurd h (by decide), fun _ => ⟨rfl, Or.inr hn, _, n + 1, f2, T5'.out, fun k hk => (by
    rcases hk with hk | hk
    · have hk' : g = k := by simpa [Value.ownBlock] using hk
      subst hk'
      by_cases hlt : g < w.heap.size
      · exact Or.inl (G.out hlt)
      · exact Or.inr (by omega)
    · exact Or.inl (Or.inr hk)), D5'.out, fun h => absurd h HN.out, fun _ => rfl, fun p => (I5'.out p).trans (in_put_new HN.out p)⟩⟩⟩
  refine (M3'.out.setCell (fun h => Or.inr (G.out h)) _).step M5'.out ?_
  intro k hk hS
  rcases hS with hS | hS
  · cases hS; exact Or.inr (G.out hk)
  · exact Or.inr (Or.inr hS)
end Go.Proofs.Ytkehejkjifgieaa
