/- WindowAll: the plain law. -/
import Derived.Test.YtkehejkjifgieaaAliveW
namespace Go.Proofs.Ytkehejkjifgieaa

/-- All that are next, by places alone. -/
def nextS : Nat → Nat → List Nat → Nat × List Nat
  | 0, n, ks => (n, ks)
  | f + 1, n, ks => if ks.contains n then nextS f (n + 1) (ks.filter (fun k => !(k == n))) else (n, ks)
def hearS (p n : Nat) (ks : List Nat) : Nat × List Nat := nextS 8 n (if !(ks.contains p) && (Nat.ble n p && Nat.blt p (n + 8)) then p :: ks else ks)
def ackS (N b n : Nat) : Nat := if Nat.blt b n && Nat.ble n N then n else b
/-- Base, number, places. -/
abbrev Wt := Nat × Nat × List Nat
def stepS (N i wh b0 : Nat) (st : Wt) (j : Nat) : Wt :=
  if (i + j + wh) % 3 == 0 then (if i / 3 % 2 == 0 then ackS N st.1 (hearS (b0 + j) st.2.1 st.2.2).1 else st.1, hearS (b0 + j) st.2.1 st.2.2) else st
def innerS (N i wh b0 : Nat) (st : Wt) : Nat → Wt
  | 0 => st
  | j + 1 => stepS N i wh b0 (innerS N i wh b0 st j) j
def roundS (N wh : Nat) (st : Wt) (i : Nat) : Wt := innerS N i wh st.1 st (min 8 (N - st.1))
def simS (N wh : Nat) : Nat → Wt
  | 0 => (0, 0, [])
  | i + 1 => roundS N wh (simS N wh i) i
/-- The same, with the state handed on. -/
def goS (N wh : Nat) : Nat → Nat → Wt → Wt
  | 0, _, st => st
  | f + 1, i, st => goS N wh f (i + 1) (roundS N wh st i)
theorem goS_simS (N wh : Nat) : ∀ f i, goS N wh f i (simS N wh i) = simS N wh (i + f)
  | 0, i => rfl
  | f + 1, i => by
    show goS N wh f (i + 1) (simS N wh (i + 1)) = _
    rw [goS_simS N wh f (i + 1)]
    congr 1
    omega
def allS (N wh : Nat) : Bool := (goS N wh (40 * N + 40) 0 (0, 0, [])).1 == N && (goS N wh (40 * N + 40) 0 (0, 0, [])).2.1 == N
theorem allS_true : ∀ N, N < 13 → ∀ wh, wh < 3 → allS N wh = true := by decide +kernel
theorem simS_all {N wh : Nat} (hN : N ≤ 12) (hw : wh < 3) : (simS N wh (40 * N + 40)).1 = N ∧ (simS N wh (40 * N + 40)).2.1 = N := by
  have h := allS_true N (by omega) wh hw
  unfold allS at h
  have e := goS_simS N wh (40 * N + 40) 0
  rw [Nat.zero_add] at e
  have e0 : simS N wh 0 = (0, 0, []) := rfl
  rw [e0] at e
  rw [e] at h
  simpa using h
/-- Those ahead are messages that were put. -/
def Rl (P : List (List W8)) (ks : List Nat) (A : Int → Option (List W8)) : Prop := (∀ k ∈ ks, A (k : Int) = some (P.getD k [])) ∧ (∀ x : Int, A x ≠ none → ∃ k ∈ ks, x = (k : Int)) ∧ ∀ k ∈ ks, k < P.length
theorem Rl.nil (P : List (List W8)) : Rl P [] (fun _ => none) := ⟨fun k h => (by cases h), fun x h => absurd rfl h, fun k h => (by cases h)⟩
theorem Rl.none {P : List (List W8)} {ks : List Nat} {A : Int → Option (List W8)} (h : Rl P ks A) {n : Nat} (hn : n ∉ ks) : A (n : Int) = none := by
  cases e : A (n : Int) with
  | none => rfl
  | some l =>
    obtain ⟨k, hk, e2⟩ := h.2.1 n (by rw [e]; intro h; cases h)
    have : k = n := by omega
    exact absurd (this ▸ hk) hn
theorem next_rel (P : List (List W8)) : ∀ (f n : Nat) (ks : List Nat) (A : Int → Option (List W8)), Rl P ks A → n ≤ P.length → (nextA f n A).2.1 = (nextS f n ks).1 ∧ Rl P (nextS f n ks).2 (nextA f n A).2.2 ∧ (nextA f n A).2.1 ≤ P.length
  | 0, n, ks, A, h, hn => ⟨rfl, h, hn⟩
  | f + 1, n, ks, A, h, hn => by
    by_cases hc : n ∈ ks
    · have hA := h.1 n hc
      have hcb : ks.contains n = true := by simpa using hc
      rw [nextA_some hA]
      have hS : nextS (f + 1) n ks = nextS f (n + 1) (ks.filter (fun k => !(k == n))) := by
        show (if ks.contains n = true then _ else _) = _
        rw [if_pos hcb]
      rw [hS]
      refine next_rel P f (n + 1) _ _ ⟨fun k hk => ?_, fun x hx => ?_, fun k hk => ?_⟩ (h.2.2 n hc)
      · obtain ⟨h1, h2⟩ := List.mem_filter.1 hk
        have hne : k ≠ n := by simpa using h2
        exact (if_neg (by omega)).trans (h.1 k h1)
      · by_cases e : x = (n : Int)
        · exact absurd (if_pos e) hx
        · obtain ⟨k, hk, e2⟩ := h.2.1 x (fun h0 => hx ((if_neg e).trans h0))
          exact ⟨k, List.mem_filter.2 ⟨hk, by simp; omega⟩, e2⟩
      · exact h.2.2 k (List.mem_filter.1 hk).1
    · have hcb : ks.contains n = false := by simpa using hc
      rw [nextA_none (h.none hc)]
      have hS : nextS (f + 1) n ks = (n, ks) := by
        show (if ks.contains n = true then _ else _) = _
        rw [if_neg (by rw [hcb]; decide)]
      rw [hS]
      exact ⟨rfl, h, hn⟩
theorem hear_rel {P : List (List W8)} {p n : Nat} {ks : List Nat} {A : Int → Option (List W8)} (h : Rl P ks A) (hp : p < P.length) (hn : n ≤ P.length) (hN : P.length ≤ 1000) (hl : (P.getD p []).length ≤ 500) :
    (rhearM (dataB p (P.getD p [])) n A).2.2.1 = ackB (hearS p n ks).1 ∧ (rhearM (dataB p (P.getD p [])) n A).2.2.2.1 = (hearS p n ks).1 ∧ Rl P (hearS p n ks).2 (rhearM (dataB p (P.getD p [])) n A).2.2.2.2 ∧ (hearS p n ks).1 ≤ P.length := by
  unfold rhearM
  rw [parse_data (by omega) hl, if_pos rfl]
  have hR : Rl P (if !(ks.contains p) && (Nat.ble n p && Nat.blt p (n + 8)) then p :: ks else ks) (takeA n p (P.getD p []) A) := by
    by_cases hc : p ∈ ks
    · have hcb : ks.contains p = true := by simpa using hc
      rw [if_neg (by rw [hcb]; simp)]
      have : takeA n p (P.getD p []) A = A := if_neg (fun h0 => by rw [h.1 p hc] at h0; cases h0.1)
      rw [this]; exact h
    · have hcb : ks.contains p = false := by simpa using hc
      have hA := h.none hc
      by_cases hr : n ≤ p ∧ p < n + 8
      · have e2 : Nat.ble n p = true := Nat.ble_eq_true_of_le hr.1
        have e3 : Nat.blt p (n + 8) = true := Nat.ble_eq_true_of_le hr.2
        rw [if_pos (by rw [hcb, e2, e3]; rfl)]
        have : takeA n p (P.getD p []) A = updA A (p : Int) (P.getD p []) := if_pos ⟨hA, hr.1, hr.2⟩
        rw [this]
        refine ⟨fun k hk => ?_, fun x hx => ?_, fun k hk => ?_⟩
        · rcases List.mem_cons.1 hk with rfl | hk
          · exact if_pos rfl
          · have hne : k ≠ p := fun e => hc (e ▸ hk)
            exact (if_neg (by omega)).trans (h.1 k hk)
        · by_cases e : x = (p : Int)
          · exact ⟨p, List.mem_cons_self, e⟩
          · obtain ⟨k, hk, e4⟩ := h.2.1 x (fun h0 => hx ((if_neg e).trans h0))
            exact ⟨k, List.mem_cons_of_mem _ hk, e4⟩
        · rcases List.mem_cons.1 hk with rfl | hk
          · exact hp
          · exact h.2.2 k hk
      · have : takeA n p (P.getD p []) A = A := if_neg (fun h0 => hr h0.2)
        rw [this]
        have e2 : (!(ks.contains p) && (Nat.ble n p && Nat.blt p (n + 8))) = false := by
          rw [hcb]
          cases e1 : Nat.ble n p with
          | false => rfl
          | true =>
            cases e3 : Nat.blt p (n + 8) with
            | false => rfl
            | true => exact absurd ⟨Nat.le_of_ble_eq_true e1, Nat.le_of_ble_eq_true e3⟩ hr
        rw [if_neg (by rw [e2]; decide)]
        exact h
  obtain ⟨h1, h2, h3⟩ := next_rel P 8 n _ _ hR hn
  exact ⟨congrArg ackB h1, h1, h2, h1 ▸ h3⟩
theorem dropK_sub : ∀ (k b : Nat) (m : List Ent), ∀ e ∈ dropK k b m, e ∈ m
  | 0, _, _, _, h => h
  | k + 1, b, m, e, h => dropK_sub k b m e ((mem_without _ _ _).1 h).2
theorem ack_rel {P : List (List W8)} {b n : Nat} {m : List Ent} (hb : b ≤ P.length) (hn : n < 4294967296) :
    (hearM (ackB n) (P.drop b) b m).1 = P.drop (ackS P.length b n) ∧ (hearM (ackB n) (P.drop b) b m).2.1 = ackS P.length b n ∧ (∀ e ∈ (hearM (ackB n) (P.drop b) b m).2.2, e ∈ m) ∧ ackS P.length b n ≤ P.length := by
  unfold hearM
  rw [ack_ack hn, if_pos rfl]
  unfold cameM ackS
  by_cases h : b < n ∧ n ≤ P.length
  · have e1 : Nat.blt b n = true := Nat.ble_eq_true_of_le h.1
    have e2 : Nat.ble n P.length = true := Nat.ble_eq_true_of_le h.2
    rw [if_pos ⟨h.1, by rw [List.length_drop]; omega⟩, if_pos (by rw [e1, e2]; rfl)]
    refine ⟨?_, rfl, fun e he => dropK_sub _ _ _ e he, h.2⟩
    show (P.drop b).drop (n - b) = P.drop n
    rw [List.drop_drop]
    congr 1
    omega
  · have e2 : (Nat.blt b n && Nat.ble n P.length) = false := by
      cases e1 : Nat.blt b n with
      | false => rfl
      | true =>
        cases e3 : Nat.ble n P.length with
        | false => rfl
        | true => exact absurd ⟨Nat.le_of_ble_eq_true e1, Nat.le_of_ble_eq_true e3⟩ h
    rw [if_neg (fun h0 => h ⟨h0.1, by have := h0.2; rw [List.length_drop] at this; omega⟩), if_neg (by rw [e2]; decide)]
    exact ⟨rfl, rfl, fun e he => he, hb⟩
/-- The frames of messages from a place on. -/
def frm (b : Nat) : Nat → List (List W8) → List (List W8)
  | _, [] => []
  | i, x :: l => dataB (b + i) x :: frm b (i + 1) l
theorem frm_length (b : Nat) : ∀ i l, (frm b i l).length = l.length
  | _, [] => rfl
  | i, x :: l => by show (frm b (i + 1) l).length + 1 = l.length + 1; rw [frm_length b (i + 1) l]
theorem frm_get (b : Nat) : ∀ (i : Nat) (l : List (List W8)) (j : Nat), j < l.length → (frm b i l)[j]? = some (dataB (b + i + j) (l.getD j []))
  | i, x :: l, 0, _ => rfl
  | i, x :: l, j + 1, h => by
    show (frm b (i + 1) l)[j]? = some (dataB (b + i + (j + 1)) (l.getD j []))
    rw [frm_get b (i + 1) l j (by simpa using h)]
    congr 2
    omega
theorem later_le (now : Nat) (h : now < 18446744073709551616) : now ≤ laterN now := by unfold laterN; split <;> omega
theorem outL_all {now b : Nat} (hn : now < 18446744073709551616) : ∀ (l : List (List W8)) (i : Nat) (m : List Ent), (∀ e ∈ m, e.2 ≤ (now : Int) ∨ e.1 < ((b + i : Nat) : Int)) → (∀ e ∈ m, e.2 ≤ (laterN now : Int)) →
    (outL now b l i m).1 = frm b i l ∧ ∀ e ∈ (outL now b l i m).2, e.2 ≤ (laterN now : Int)
  | [], i, m, _, h2 => ⟨rfl, h2⟩
  | x :: l, i, m, h1, h2 => by
    have hno : ¬ (hasL m ((b + i : Nat) : Int) = true ∧ (now : Int) < dueAt m ((b + i : Nat) : Int)) := by
      rintro ⟨h3, h4⟩
      unfold dueAt at h4
      cases hf : m.find? (fun p => decide (p.1 = ((b + i : Nat) : Int))) with
      | none => rw [hf] at h4; simp at h4; omega
      | some e =>
        rw [hf] at h4
        have h5 := List.find?_some hf
        have h6 := List.mem_of_find?_eq_some hf
        have h7 : e.1 = ((b + i : Nat) : Int) := by simpa using h5
        have h8 : (now : Int) < e.2 := h4
        have := h1 e h6
        omega
    have hs : outL now b (x :: l) i m = (dataB (b + i) x :: (outL now b l (i + 1) (setL m ((b + i : Nat) : Int) (laterN now))).1, (outL now b l (i + 1) (setL m ((b + i : Nat) : Int) (laterN now))).2) := by
      show (if hasL m ((b + i : Nat) : Int) = true ∧ (now : Int) < dueAt m ((b + i : Nat) : Int) then _ else _) = _
      rw [if_neg hno]
    rw [hs]
    have ih := outL_all (b := b) hn l (i + 1) (setL m ((b + i : Nat) : Int) (laterN now)) (fun e he => by
      rcases (mem_ins _ _ _).1 he with rfl | he
      · right; show ((b + i : Nat) : Int) < _; omega
      · rcases h1 e ((mem_without _ _ _).1 he).2 with h | h
        · exact Or.inl h
        · right; omega) (fun e he => by
      rcases (mem_ins _ _ _).1 he with rfl | he
      · exact Int.le_refl _
      · exact h2 e ((mem_without _ _ _).1 he).2)
    exact ⟨by show dataB (b + i) x :: _ = dataB (b + i) x :: _; rw [ih.1], ih.2⟩
end Go.Proofs.Ytkehejkjifgieaa
