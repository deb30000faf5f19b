/- A sender and a receiver side by side; which blocks a call may change, told by their kinds. -/
import Derived.Test.YtkehejkjifgieaaPlainW
namespace Go.Proofs.Ytkehejkjifgieaa
open Go.RowKit Go.ChangeMaps

/-- From w to w' blocks change from 'base' on alone, and of the rows of cells only such of kinds Ts. -/
def Kp (Ts : List TypeId) (base : Nat) (w w' : World) : Prop := ∃ S, Mod S w w' ∧ ∀ k, S k → k < w.heap.size → base ≤ k ∧ ∀ cs T, Blk w k cs T → T ∈ Ts
section
variable {Ts : List TypeId} {base : Nat} {w w' w2 : World}
theorem Kp.refl (Ts : List TypeId) (base : Nat) (w : World) : Kp Ts base w w := ⟨fun _ => False, Mod.refl _ _, fun _ h => h.elim⟩
theorem Kp.of_below (h : Below w.heap.size w w') : Kp Ts base w w' := ⟨fun _ => False, Mod.of_below h _, fun _ h => h.elim⟩
theorem Kp.size (h : Kp Ts base w w') : w.heap.size ≤ w'.heap.size := by obtain ⟨S, M, _⟩ := h; exact M.size
theorem Kp.below (h : Kp Ts base w w') (hb : base ≤ w.heap.size) : Below base w w' := by
  obtain ⟨S, M, hS⟩ := h
  exact M.below hb (fun k hk e => by have := (hS k e (by omega)).1; omega)
theorem Kp.blk (h : Kp Ts base w w') {k : Nat} {cs : Array Value} {T : TypeId} (hb : Blk w k cs T) (hT : T ∉ Ts) : Blk w' k cs T := by
  obtain ⟨S, M, hS⟩ := h
  exact M.blk hb (fun e => hT ((hS k e hb.lt).2 cs T hb))
theorem Kp.rw {b : Nat} {T : TypeId} {v : Value} {xs : List Value} (h : Kp Ts base w w') (hr : Rw w b T v xs) (hT : T ∉ Ts) : Rw w' b T v xs := by
  obtain ⟨S, M, hS⟩ := h
  exact hr.mod M (fun k hk e => by
    obtain ⟨cs, hb⟩ := hr.kind hk
    exact hT ((hS k e hb.lt).2 cs T hb))
theorem Kp.ow {b : Nat} {v : Value} {xs : List W8} (h : Kp Ts base w w') (hr : Ow w b v xs) (hT : 5 ∉ Ts) : Ow w' b v xs := by
  obtain ⟨S, M, hS⟩ := h
  exact hr.mod M (fun k hk e => by
    obtain ⟨cs, hb⟩ := hr.kind hk
    exact hT ((hS k e hb.lt).2 cs _ hb))
theorem Kp.trans (h : Kp Ts base w w') (h2 : Kp Ts base w' w2) : Kp Ts base w w2 := by
  obtain ⟨S, M, hS⟩ := h
  obtain ⟨S2, M2, hS2⟩ := h2
  refine ⟨fun k => S k ∨ S2 k, ⟨M2.os.trans M.os, M2.tape.trans M.tape, M2.output.trans M.output, Nat.le_trans M.size M2.size, fun k hk hn => (M2.block k (Nat.lt_of_lt_of_le hk M.size) (fun e => hn (Or.inr e))).trans (M.block k hk (fun e => hn (Or.inl e)))⟩, fun k hk hlt => ?_⟩
  by_cases h1 : S k
  · exact hS k h1 hlt
  · rcases hk with hk | hk
    · exact absurd hk h1
    · obtain ⟨e1, e2⟩ := hS2 k hk (Nat.lt_of_lt_of_le hlt M.size)
      exact ⟨e1, fun cs T hb => e2 cs T (M.blk hb h1)⟩
theorem Kp.weaken {Ts' : List TypeId} (h : Kp Ts base w w') (hs : ∀ T ∈ Ts, T ∈ Ts') : Kp Ts' base w w' := by
  obtain ⟨S, M, hS⟩ := h
  exact ⟨S, M, fun k hk hl => ⟨(hS k hk hl).1, fun cs T hb => hs T ((hS k hk hl).2 cs T hb)⟩⟩
theorem Kp.lower {b' : Nat} (h : Kp Ts base w w') (hb : b' ≤ base) : Kp Ts b' w w' := by
  obtain ⟨S, M, hS⟩ := h
  exact ⟨S, M, fun k hk hl => ⟨Nat.le_trans hb (hS k hk hl).1, (hS k hk hl).2⟩⟩
end
/-- The kinds that the calls change. -/
def kinds4 : List TypeId := [65, 92, 95, 68]
def kinds5 : List TypeId := 29 :: kinds4
/-- The sender at s, the receiver at r. -/
structure PR (w : World) (base s t mb r mc : Nat) (l : List (List W8)) (b0 : Nat) (m : List Ent) (n : Nat) (A : Int → Option (List W8)) : Prop where
  snd : ∃ sv lv ts, SR w base s t mb sv lv ts b0 m ∧ ts.map (·.2) = l
  rcv : RR w base r mc n A
  ne : mb ≠ mc
section
variable {w w' : World} {base s t mb r mc b0 n : Nat} {l : List (List W8)} {m : List Ent} {A : Int → Option (List W8)}
theorem PR.size (h : PR w base s t mb r mc l b0 m n A) : base ≤ w.heap.size := h.rcv.size
theorem PR.mod {S : Nat → Prop} (h : PR w base s t mb r mc l b0 m n A) (M : Mod S w w') (hs : ∀ k, S k → k < w.heap.size → ∃ cs T, Blk w k cs T ∧ T ≠ 65 ∧ T ≠ 29 ∧ T ≠ 92 ∧ T ≠ 95 ∧ T ≠ 5 ∧ T ≠ 68) : PR w' base s t mb r mc l b0 m n A := by
  obtain ⟨sv, lv, ts, hS, e⟩ := h.snd
  refine ⟨⟨sv, lv, ts, hS.mod M (fun k hk e => ?_), e⟩, h.rcv.mod M (fun e => ?_) (fun e => ?_) (fun k cs hb e => ?_), h.ne⟩
  · obtain ⟨cs, T, hb, h1, h2, h3, h4, h5, h6⟩ := hs k e (hS.lt k hk).2
    rcases hS.kind hk hb with e | e | e | e | e
    · exact h1 e
    · exact h2 e
    · exact h3 e
    · exact h4 e
    · exact h5 e
  · obtain ⟨cs, T, hb, h1, h2, h3, h4, h5, h6⟩ := hs r e h.rcv.blk.lt
    exact h6 (Blk.inj hb h.rcv.blk).2
  · obtain ⟨cs, T, hb, h1, h2, h3, h4, h5, h6⟩ := hs mc e h.rcv.mlt
    exact h.rcv.mbne hb rfl
  · obtain ⟨cs', T, hb', h1, h2, h3, h4, h5, h6⟩ := hs k e hb.lt
    exact h5 (Blk.inj hb' hb).2
theorem PR.below (h : PR w base s t mb r mc l b0 m n A) (hb : Below w.heap.size w w') : PR w' base s t mb r mc l b0 m n A := h.mod (Mod.of_below hb (fun _ => False)) (fun _ h => h.elim)
/-- What changes the sender alone leaves the receiver. -/
theorem RR.aside {S : Nat → Prop} {sv lv : Value} {ts : List (Value × List W8)} (hS : SR w base s t mb sv lv ts b0 m) (hR : RR w base r mc n A) (hne : mb ≠ mc) (M : Mod S w w') (hf : ∀ k, S k → SFoot s t mb sv lv ts k ∧ ¬ ∃ p ∈ ts, p.1.ownBlock = some k) : RR w' base r mc n A := by
  refine hR.mod M (fun e => ?_) (fun e => ?_) (fun k cs hb e => ?_)
  · rcases hS.kind (hf r e).1 hR.blk with h | h | h | h | h <;> exact absurd h (by decide)
  · rcases (hf mc e).1 with h | h | h | h | h
    · exact hR.mbne hS.blk h.symm
    · obtain ⟨cs, hb⟩ := hS.row.kind h
      exact hR.mbne hb rfl
    · obtain ⟨f, h1, _⟩ := hS.due.ex
      exact hR.mbne h1.blk h.symm
    · rcases h with h | h
      · obtain ⟨f, h1, _⟩ := hS.due.ex
        rcases h1.row with ⟨e, _⟩ | ⟨g, cap, cur, e, hb, _⟩
        · rw [e] at h; cases h
        · rw [e] at h; cases h; exact hR.mbne hb rfl
      · exact hne h.symm
    · exact (hf mc e).2 h
  · have hk := hf k e
    rcases hk.1 with h | h | h | h | h
    · rw [h] at hb
      exact absurd (Blk.inj hb hS.blk).2 (by decide)
    · obtain ⟨cs', hb'⟩ := hS.row.kind h
      exact absurd (Blk.inj hb hb').2 (by decide)
    · exact (hS.due.kind (Or.inl h) hb).elim (by decide) (by decide)
    · exact (hS.due.kind (Or.inr h) hb).elim (by decide) (by decide)
    · exact hk.2 h
/-- What changes the receiver alone leaves the sender. -/
theorem SR.aside {sv lv : Value} {ts : List (Value × List W8)} (hS : SR w base s t mb sv lv ts b0 m) (hR : RR w base r mc n A) (hne : mb ≠ mc) (M : Mod (fun k => k = r ∨ k = mc) w w') : SR w' base s t mb sv lv ts b0 m := by
  refine hS.mod M (fun k hk e => ?_)
  rcases e with rfl | rfl
  · rcases hS.kind hk hR.blk with h | h | h | h | h <;> exact absurd h (by decide)
  · rcases hk with h | h | h | h | ⟨p, hp, h⟩
    · exact hR.mbne hS.blk h.symm
    · obtain ⟨cs, hb⟩ := hS.row.kind h
      exact hR.mbne hb rfl
    · obtain ⟨f, h1, _⟩ := hS.due.ex
      exact hR.mbne h1.blk h.symm
    · rcases h with h | h
      · obtain ⟨f, h1, _⟩ := hS.due.ex
        rcases h1.row with ⟨e, _⟩ | ⟨g, cap, cur, e, hb, _⟩
        · rw [e] at h; cases h
        · rw [e] at h; cases h; exact hR.mbne hb rfl
      · exact hne h.symm
    · obtain ⟨cs, hb⟩ := (hS.bys p hp).kind h
      exact hR.mbne hb rfl
/-- A set of the sender's blocks, told by kinds. -/
theorem SR.kp {S : Nat → Prop} {sv lv : Value} {ts : List (Value × List W8)} (hS : SR w base s t mb sv lv ts b0 m) (M : Mod S w w') (hf : ∀ k, S k → (k = s ∨ k = t ∨ Own sv mb k) ∨ lv.ownBlock = some k) : Kp kinds5 base w w' ∧ ((∀ k, S k → k = s ∨ k = t ∨ Own sv mb k) → Kp kinds4 base w w') := by
  have hb3 : ∀ k, (k = s ∨ k = t ∨ Own sv mb k) → base ≤ k ∧ ∀ cs T, Blk w k cs T → T ∈ kinds4 := by
    rintro k (rfl | rfl | h)
    · exact ⟨hS.own.1, fun cs T hb => by rw [(Blk.inj hb hS.blk).2]; decide⟩
    · exact ⟨hS.own.2.1, fun cs T hb => by rcases hS.due.kind (Or.inl rfl) hb with e | e <;> rw [e] <;> decide⟩
    · exact ⟨hS.own.2.2 k h, fun cs T hb => by rcases hS.due.kind (Or.inr h) hb with e | e <;> rw [e] <;> decide⟩
  refine ⟨⟨S, M, fun k hk _ => ?_⟩, fun h => ⟨S, M, fun k hk _ => hb3 k (h k hk)⟩⟩
  rcases hf k hk with h | h
  · obtain ⟨h1, h2⟩ := hb3 k h
    exact ⟨h1, fun cs T hb => List.mem_cons_of_mem _ (h2 cs T hb)⟩
  · obtain ⟨cs', hb'⟩ := hS.row.kind h
    exact ⟨(hS.row.lt k h).1, fun cs T hb => by rw [(Blk.inj hb hb').2]; decide⟩
theorem not_msg {sv lv : Value} {ts : List (Value × List W8)} (hS : SR w base s t mb sv lv ts b0 m) {k : Nat} (h : (k = s ∨ k = t ∨ Own sv mb k) ∨ lv.ownBlock = some k) : SFoot s t mb sv lv ts k ∧ ¬ ∃ p ∈ ts, p.1.ownBlock = some k := by
  refine ⟨?_, ?_⟩
  · rcases h with (h | h | h) | h
    · exact Or.inl h
    · exact Or.inr (Or.inr (Or.inl h))
    · exact Or.inr (Or.inr (Or.inr (Or.inl h)))
    · exact Or.inr (Or.inl h)
  · rintro ⟨p, hp, e⟩
    obtain ⟨cs, hb⟩ := (hS.bys p hp).kind e
    rcases h with (h | h | h) | h
    · rw [h] at hb; exact absurd (Blk.inj hb hS.blk).2 (by decide)
    · exact (hS.due.kind (Or.inl h) hb).elim (by decide) (by decide)
    · exact (hS.due.kind (Or.inr h) hb).elim (by decide) (by decide)
    · obtain ⟨cs', hb'⟩ := hS.row.kind h
      exact absurd (Blk.inj hb hb').2 (by decide)

theorem new_p (w : World) : Calls Try.prog 7 #[] w fun e w1 => ∃ s t mb sv, e = .returned (.pointer (some ⟨s, 0, none⟩)) ∧ SR w1 w.heap.size s t mb sv (.slice none 0 0) [] 0 [] ∧ Below w.heap.size w w1 := newSender_c w
theorem PR.start {w1 w2 : World} {sv : Value} (hS : SR w1 w.heap.size s t mb sv (.slice none 0 0) [] 0 []) (hR : RR w2 w1.heap.size r mc 0 (fun _ => none)) (hb : Below w1.heap.size w1 w2) (hb0 : w.heap.size ≤ w1.heap.size) : PR w2 w.heap.size s t mb r mc [] 0 [] 0 (fun _ => none) :=
  ⟨⟨sv, _, [], hS.below hb, rfl⟩, ⟨hR.blk, by
    obtain ⟨D, hD, hA⟩ := hR.map
    exact ⟨D, hD, fun x => by
      rcases hA x with h | ⟨v, l, _, h, _⟩
      · exact Or.inl h
      · cases h⟩, ⟨Nat.le_trans hb0 hR.own.1, Nat.le_trans hb0 hR.own.2⟩, hR.keys⟩, fun e => by
    have h1 := (hS.due.lts.2 mb (Or.inr rfl))
    have h2 := hR.own.2
    omega⟩
theorem put_p {vb : Value} {xs : List W8} (h : PR w base s t mb r mc l b0 m n A) (hX : Bytes w vb xs) (hfew : b0 + l.length < 100000) :
    Calls Try.prog 9 #[.pointer (some ⟨s, 0, none⟩), vb] w fun e w' => e = .returned (.int .i64 (putM l xs).1) ∧ PR w' base s t mb r mc (putM l xs).2 b0 m n A ∧ Kp kinds5 base w w' := by
  obtain ⟨sv, lv, ts, hS, rfl⟩ := h.snd
  rw [List.length_map] at hfew
  refine (sput_c hS hX hfew).mono ?_
  rintro e w' ⟨rfl, ⟨lv', ts', h1, h2, _⟩, M⟩
  exact ⟨rfl, ⟨⟨sv, lv', ts', h1, h2⟩, RR.aside hS h.rcv h.ne M (fun k hk => not_msg hS (hk.elim (fun e => Or.inl (Or.inl e)) Or.inr)), h.ne⟩, (hS.kp M (fun k hk => hk.elim (fun e => Or.inl (Or.inl e)) Or.inr)).1⟩
theorem out_p (h : PR w base s t mb r mc l b0 m n A) (now : Nat) (hn : now < 18446744073709551616) :
    Calls Try.prog 10 #[.pointer (some ⟨s, 0, none⟩), .int .u64 (now : Int)] w fun e w' => ∃ v us, e = .returned v ∧ Us w' w.heap.size v us ∧ us.map (·.2) = (outL now b0 (l.take 8) 0 m).1 ∧ PR w' base s t mb r mc l b0 (outL now b0 (l.take 8) 0 m).2 n A ∧ Kp kinds4 base w w' := by
  obtain ⟨sv, lv, ts, hS, rfl⟩ := h.snd
  refine (out_c hS now hn).mono ?_
  rintro e w' ⟨⟨v, us, sv', rfl, h1, h2, h3, _⟩, M⟩
  exact ⟨v, us, rfl, h1, h2, ⟨⟨sv', lv, ts, h3, rfl⟩, RR.aside hS h.rcv h.ne M (fun k hk => not_msg hS (Or.inl (Or.inr hk))), h.ne⟩, (hS.kp M (fun k hk => Or.inl (Or.inr hk))).2 (fun k hk => Or.inr hk)⟩
theorem shear_p {vb : Value} {xs : List W8} (h : PR w base s t mb r mc l b0 m n A) (hX : Bytes w vb xs) (hl : xs.length ≤ 100000) :
    Calls Try.prog 12 #[.pointer (some ⟨s, 0, none⟩), vb] w fun e w' => e = .returned (.int .i64 (ackN xs).1) ∧ PR w' base s t mb r mc (hearM xs l b0 m).1 (hearM xs l b0 m).2.1 (hearM xs l b0 m).2.2 n A ∧ Kp kinds4 base w w' := by
  obtain ⟨sv, lv, ts, hS, rfl⟩ := h.snd
  refine (shear_c hS hX hl).mono ?_
  rintro e w' ⟨rfl, ⟨lv', ts', sv', b1, m', h1, h2, _⟩, M⟩
  rw [h1]
  exact ⟨rfl, ⟨⟨sv', lv', ts', h2, rfl⟩, RR.aside hS h.rcv h.ne M (fun k hk => not_msg hS (Or.inl hk)), h.ne⟩, (hS.kp M (fun k hk => Or.inl hk)).2 (fun k hk => hk)⟩
theorem rhear_p {vb : Value} {xs : List W8} (h : PR w base s t mb r mc l b0 m n A) (hn : n ≤ 1000000) (hX : Bytes w vb xs) (hl : xs.length ≤ 100000) :
    Calls Try.prog 11 #[.pointer (some ⟨r, 0, none⟩), vb] w fun e w' => ∃ vl us va, e = .returned (.tuple #[vl, va, .int .i64 (rhearM xs n A).1]) ∧ Ut w' w.heap.size base vl us ∧ us.map (·.2) = (rhearM xs n A).2.1 ∧ Ow w' base va (rhearM xs n A).2.2.1 ∧ PR w' base s t mb r mc l b0 m (rhearM xs n A).2.2.2.1 (rhearM xs n A).2.2.2.2 ∧ Kp kinds4 base w w' := by
  obtain ⟨sv, lv, ts, hS, rfl⟩ := h.snd
  refine (rhear_c h.rcv hn hX hl).mono ?_
  rintro e w' ⟨⟨vl, us, va, rfl, h1, h2, h3, h4⟩, M⟩
  refine ⟨vl, us, va, rfl, h1, h2, h3, ⟨⟨sv, lv, ts, hS.aside h.rcv h.ne M, rfl⟩, h4, h.ne⟩, ⟨_, M, fun k hk _ => ?_⟩⟩
  rcases hk with rfl | rfl
  · exact ⟨h.rcv.own.1, fun cs T hb => by rw [(Blk.inj hb h.rcv.blk).2]; decide⟩
  · exact ⟨h.rcv.own.2, fun cs T hb => absurd rfl (h.rcv.mbne hb)⟩
theorem left_p (h : PR w base s t mb r mc l b0 m n A) : Calls Try.prog 15 #[.pointer (some ⟨s, 0, none⟩)] w fun e w' => e = .returned (.int .i64 (l.length : Int)) ∧ w' = w := by
  obtain ⟨sv, lv, ts, hS, rfl⟩ := h.snd
  rw [List.length_map]
  exact left_c hS
theorem came_p (h : PR w base s t mb r mc l b0 m n A) (hn : n ≤ 1000000) : Calls Try.prog 14 #[.pointer (some ⟨r, 0, none⟩)] w fun e w' => e = .returned (.int .i64 (n : Int)) ∧ w' = w := rcame_c h.rcv hn
end
end Go.Proofs.Ytkehejkjifgieaa
