/- Regions that draw their order: one whose last call waits for all others; one that calls, and stores the answer in a new block. -/
import Derived.Test.YtkehejkjifgieaaEnP
namespace Go.Proofs.Ytkehejkjifgieaa
open Go.RowKit Go.ChangeMaps

/-- What is done has what it waits for done. -/
def Dp (D : List (List Nat)) (m : Nat) (L : Nat → Bool) : Prop := ∀ j, j < m → L j = true → ∀ i ∈ D.getD j [], L i = true
def covB (D : List (List Nat)) (m : Nat) : Bool := (List.range m).all fun j => (List.range (m + 1)).any fun k => decide (j < k) && (D.getD k []).contains j
theorem Dp.all {D : List (List Nat)} {m : Nat} {L : Nat → Bool} (h : Dp D m L) (hm : ∀ i ∈ D.getD m [], L i = true) (hc : covB D m = true) : ∀ j, j < m → L j = true := by
  have key : ∀ f j, j < m → m - j ≤ f → L j = true := by
    intro f
    induction f with
    | zero => intro j hj hf; omega
    | succ f ih =>
      intro j hj hf
      have h1 := List.all_eq_true.1 hc j (List.mem_range.2 hj)
      obtain ⟨k, hk, hk2⟩ := List.any_eq_true.1 h1
      rw [Bool.and_eq_true, decide_eq_true_iff, List.contains_iff_mem] at hk2
      have hk3 := List.mem_range.1 hk
      by_cases e : k = m
      · subst e; exact hm j hk2.2
      · exact h k (by omega) (ih k (by omega) (by omega)) j hk2.2
  exact fun j hj => key (m - j) j hj (Nat.le_refl _)
theorem Dp.upd {D : List (List Nat)} {m : Nat} {L : Nat → Bool} (h : Dp D m L) {k : Nat} (hd : k < m → ∀ i ∈ D.getD k [], L i = true) : Dp D m (updL L k) := fun j hj hl i hi => updL_of (by
  by_cases e : j = k
  · subst e; exact hd hj i hi
  · rw [updL_ne e] at hl; exact h j hj hl i hi)
/-- A region of reads and its one call, whose answer is put in a slot behind it. -/
def Ls (D : List (List Nat)) (w0 : World) (m : Nat) (φ : Nat → Value → World → Prop) (E : Value → World → Prop) (L : Nat → Bool) (V : Nat → Value) (W : World) : Prop :=
  (L m = false → Below w0.heap.size w0 W ∧ (∀ j, j < m → L j = true → φ j (V j) W) ∧ L (m + 1) = false) ∧ (L m = true → (∀ j, j < m → L j = true) ∧ E (V m) W ∧ (L (m + 1) = true → V (m + 1) = V m)) ∧ Dp D m L
section
variable {D : List (List Nat)} {w0 : World} {m : Nat} {φ : Nat → Value → World → Prop} {E : Value → World → Prop} {L : Nat → Bool} {V : Nat → Value} {w w' : World}
theorem Ls.start : Ls D w m φ E (fun _ => false) (fun _ => undef) w.drew := ⟨fun _ => ⟨(Below.refl _ _).drew, fun _ _ h => Bool.noConfusion h, rfl⟩, fun h => Bool.noConfusion h, fun _ _ h => Bool.noConfusion h⟩
theorem Ls.not (h : Ls D w0 m φ E L V w) {k : Nat} (hk : L k = false) (hkm : k ≤ m) : L m = false := by
  by_cases e : k = m
  · subst e; exact hk
  · cases e : L m with
    | false => rfl
    | true => rw [(h.2.1 e).1 k (by omega)] at hk; cases hk
theorem Ls.below (h : Ls D w0 m φ E L V w) {k : Nat} (hk : L k = false) (hkm : k ≤ m) : Below w0.heap.size w0 w := (h.1 (h.not hk hkm)).1
theorem Ls.at (h : Ls D w0 m φ E L V w) {k j : Nat} (hk : L k = false) (hkm : k ≤ m) (hjm : j < m) (hj : L j = true) : φ j (V j) w := (h.1 (h.not hk hkm)).2.1 j hjm hj
theorem Ls.val (h : Ls D w0 m φ E L V w) (hmono : ∀ j v w w', φ j v w → Below w.heap.size w w' → φ j v w') {k : Nat} (hk : L k = false) (hkm : k < m) (hb : Below w.heap.size w w') {v : Value} (hv : φ k v w') (hd : ∀ i ∈ D.getD k [], L i = true) : Ls D w0 m φ E (updL L k) (updV V k v) w' := by
  have hm := h.not hk (by omega)
  obtain ⟨h1, h2, h3⟩ := h.1 hm
  refine ⟨fun _ => ⟨h1.trans (hb.mono h1.size), fun j hj hl => ?_, by rw [updL_ne (by omega)]; exact h3⟩, fun hl => ?_, h.2.2.upd (fun _ => hd)⟩
  · by_cases e : j = k
    · subst e; rw [updV_same]; exact hv
    · rw [updL_ne e] at hl; rw [updV_ne e]; exact hmono _ _ _ _ (h2 j hj hl) hb
  · rw [updL_ne (by omega), hm] at hl; cases hl
theorem Ls.call (h : Ls D w0 m φ E L V w) (hk : L m = false) (hd : ∀ i ∈ D.getD m [], L i = true) (hc : covB D m = true) {v : Value} (hE : E v w') : Ls D w0 m φ E (updL L m) (updV V m v) w' := by
  have hall := h.2.2.all hd hc
  refine ⟨fun hl => (by rw [updL_same] at hl; cases hl), fun _ => ⟨fun j hj => by rw [updL_ne (by omega)]; exact hall j hj, by rw [updV_same]; exact hE, fun hl => ?_⟩, h.2.2.upd (fun h => absurd h (by omega))⟩
  rw [updL_ne (by omega), (h.1 hk).2.2] at hl; cases hl
theorem Ls.last (h : Ls D w0 m φ E L V w) (hm : L m = true) {v : Value} (hv : v = V m) : Ls D w0 m φ E (updL L (m + 1)) (updV V (m + 1) v) w := by
  obtain ⟨h1, h2, _⟩ := h.2.1 hm
  refine ⟨fun hl => (by rw [updL_ne (by omega), hm] at hl; cases hl), fun _ => ⟨fun j hj => by rw [updL_ne (by omega)]; exact h1 j hj, by rw [updV_ne (by omega)]; exact h2, fun _ => ?_⟩, h.2.2.upd (fun h => absurd h (by omega))⟩
  rw [updV_same, updV_ne (by omega)]; exact hv
theorem Ls.end (h : Ls D w0 m φ E L V w) (h1 : L m = true) (h2 : L (m + 1) = true) : E (V m) w ∧ V (m + 1) = V m := by
  obtain ⟨_, a, b⟩ := h.2.1 h1
  exact ⟨a, b h2⟩
end
/-- What a step of the region that stores yields. -/
def stoP (T : TypeId) (w0 : World) (vals : List Value) (RA : Array Value → World → Prop) (RB : Value → World → Prop) (j : Nat) (v : Value) (W : World) : Prop :=
  if j < 6 then v = vals.getD j undef
  else if j < 8 then ∃ dw v2, v = .tuple #[.agg dw, v2] ∧ RA dw W ∧ RB v2 W
  else if j = 8 then ∃ dw, v = .agg dw ∧ RA dw W
  else if j = 10 then ∃ g cs, v = .pointer (some ⟨g, 0, none⟩) ∧ w0.heap.size ≤ g ∧ Blk W g cs T ∧ cs.size = 4
  else if j = 11 then True
  else RB v W
def Sto (T : TypeId) (w0 : World) (vals : List Value) (RA : Array Value → World → Prop) (RB : Value → World → Prop) (L : Nat → Bool) (V : Nat → Value) (W : World) : Prop :=
  Below w0.heap.size w0 W ∧ (∀ j, L j = true → stoP T w0 vals RA RB j (V j) W) ∧ (L 11 = true → L 8 = true ∧ L 10 = true ∧ ∃ g dw, V 10 = .pointer (some ⟨g, 0, none⟩) ∧ V 8 = .agg dw ∧ Blk W g dw T)
section
variable {T : TypeId} {w0 : World} {vals : List Value} {RA : Array Value → World → Prop} {RB : Value → World → Prop} {L : Nat → Bool} {V : Nat → Value} {w w' : World}
theorem stoP.mono (hA : ∀ dw W W', Kp [T] 0 W W' → RA dw W → RA dw W') (hB : ∀ v W W', Kp [T] 0 W W' → RB v W → RB v W') {j : Nat} {v : Value} (h : stoP T w0 vals RA RB j v w) (hb : Below w.heap.size w w') : stoP T w0 vals RA RB j v w' := by
  have K : Kp [T] 0 w w' := Kp.of_below hb
  unfold stoP at h ⊢
  split
  · rename_i h1; rw [if_pos h1] at h; exact h
  · rename_i h1; rw [if_neg h1] at h
    split
    · rename_i h2; rw [if_pos h2] at h
      obtain ⟨dw, v2, e, a, b⟩ := h
      exact ⟨dw, v2, e, hA _ _ _ K a, hB _ _ _ K b⟩
    · rename_i h2; rw [if_neg h2] at h
      split
      · rename_i h3; rw [if_pos h3] at h
        obtain ⟨dw, e, a⟩ := h
        exact ⟨dw, e, hA _ _ _ K a⟩
      · rename_i h3; rw [if_neg h3] at h
        split
        · rename_i h4; rw [if_pos h4] at h
          obtain ⟨g, cs, e, a, b, c⟩ := h
          exact ⟨g, cs, e, a, Blk.below b hb, c⟩
        · rename_i h4; rw [if_neg h4] at h
          split
          · trivial
          · rename_i h5; rw [if_neg h5] at h
            exact hB _ _ _ K h
theorem Sto.start : Sto T w vals RA RB (fun _ => false) (fun _ => undef) w.drew := ⟨(Below.refl _ _).drew, fun _ h => Bool.noConfusion h, fun h => Bool.noConfusion h⟩
theorem Sto.val (h : Sto T w0 vals RA RB L V w) (hA : ∀ dw W W', Kp [T] 0 W W' → RA dw W → RA dw W') (hB : ∀ v W W', Kp [T] 0 W W' → RB v W → RB v W') {k : Nat} (hk : L k = false) (hk11 : k ≠ 11) (hb : Below w.heap.size w w') {v : Value} (hv : stoP T w0 vals RA RB k v w') : Sto T w0 vals RA RB (updL L k) (updV V k v) w' := by
  obtain ⟨h1, h2, h3⟩ := h
  refine ⟨h1.trans (hb.mono h1.size), fun j hj => ?_, fun hl => ?_⟩
  · by_cases e : j = k
    · subst e; rw [updV_same]; exact hv
    · rw [updL_ne e] at hj; rw [updV_ne e]; exact (h2 j hj).mono hA hB hb
  · rw [updL_ne (Ne.symm hk11)] at hl
    obtain ⟨a, b, g, dw, e1, e2, e3⟩ := h3 hl
    have n8 : 8 ≠ k := fun e => by rw [e, hk] at a; cases a
    have n10 : 10 ≠ k := fun e => by rw [e, hk] at b; cases b
    exact ⟨updL_of a, updL_of b, g, dw, by rw [updV_ne n10]; exact e1, by rw [updV_ne n8]; exact e2, Blk.below e3 hb⟩
theorem Sto.at (h : Sto T w0 vals RA RB L V w) {j : Nat} (hj : L j = true) : stoP T w0 vals RA RB j (V j) w := h.2.1 j hj
theorem Sto.fix (h : Sto T w0 vals RA RB L V w) {j : Nat} (h6 : j < 6) (hj : L j = true) : V j = vals.getD j undef := by
  have := h.at hj
  unfold stoP at this
  rwa [if_pos h6] at this
theorem Sto.put (h : Sto T w0 vals RA RB L V w) (hA : ∀ dw W W', Kp [T] 0 W W' → RA dw W → RA dw W') (hB : ∀ v W W', Kp [T] 0 W W' → RB v W → RB v W') {g : Nat} {dw cs : Array Value} (h8 : L 8 = true) (h10 : L 10 = true) (eg : V 10 = .pointer (some ⟨g, 0, none⟩)) (ed : V 8 = .agg dw) (hg : w0.heap.size ≤ g) (hbk : Blk w g cs T) (hs : dw.size = 4) (v : Value) : Sto T w0 vals RA RB (updL L 11) (updV V 11 v) (w.setRow g dw) := by
  obtain ⟨h1, h2, _⟩ := h
  have K : Kp [T] 0 w (w.setRow g dw) := ⟨_, Mod.setRow w g dw, fun k hk _ => ⟨Nat.zero_le _, fun cs' T' hb => by rw [hk] at hb; rw [(Blk.inj hb hbk).2]; exact List.mem_singleton.2 rfl⟩⟩
  refine ⟨h1.trans ((Mod.setRow w g dw).below h1.size (fun k hk e => by omega)), fun j hj => ?_, fun _ => ⟨updL_of h8, updL_of h10, g, dw, by rw [updV_ne (by decide)]; exact eg, by rw [updV_ne (by decide)]; exact ed, hbk.setRow dw⟩⟩
  by_cases e : j = 11
  · subst e; unfold stoP; simp
  · rw [updL_ne e] at hj
    rw [updV_ne e]
    have := h2 j hj
    unfold stoP at this ⊢
    split
    · rename_i a1; rw [if_pos a1] at this; exact this
    · rename_i a1; rw [if_neg a1] at this
      split
      · rename_i a2; rw [if_pos a2] at this
        obtain ⟨dw', v2, e, a, b⟩ := this
        exact ⟨dw', v2, e, hA _ _ _ K a, hB _ _ _ K b⟩
      · rename_i a2; rw [if_neg a2] at this
        split
        · rename_i a3; rw [if_pos a3] at this
          obtain ⟨dw', e, a⟩ := this
          exact ⟨dw', e, hA _ _ _ K a⟩
        · rename_i a3; rw [if_neg a3] at this
          split
          · rename_i a4
            subst a4
            exact ⟨g, dw, eg, hg, hbk.setRow dw, hs⟩
          · rename_i a4; rw [if_neg a4] at this
            rw [if_neg e] at this
            exact hB _ _ _ K this
theorem Sto.end (h : Sto T w0 vals RA RB L V w) (hL : ∀ j, j < 13 → L j = true) : ∃ g dw, V 10 = .pointer (some ⟨g, 0, none⟩) ∧ Blk w g dw T ∧ RA dw w ∧ RB (V 12) w ∧ Below w0.heap.size w0 w ∧ w0.heap.size ≤ g := by
  obtain ⟨_, _, g, dw, e1, e2, e3⟩ := h.2.2 (hL 11 (by decide))
  have h8 := h.at (hL 8 (by decide))
  have h10 := h.at (hL 10 (by decide))
  have h12 := h.at (hL 12 (by decide))
  obtain ⟨dw', e, a⟩ : ∃ dw', V 8 = .agg dw' ∧ RA dw' w := h8
  rw [e2] at e
  cases e
  obtain ⟨g', cs, e, b, _⟩ : ∃ g cs, V 10 = .pointer (some ⟨g, 0, none⟩) ∧ w0.heap.size ≤ g ∧ Blk w g cs T ∧ cs.size = 4 := h10
  rw [e1] at e
  cases e
  exact ⟨g, dw, e1, e3, a, h12, h.1, b⟩
end
theorem run_conv2 {P : Program} {ρ : Operand → Value} {o : Oper} {src dst : TypeId} {x : Operand} {u v : Value} {w w' : World} (ho : o.op = .convert src dst x) (hx : ρ x = u) (h : (convert src dst u).run P w = .ok v w') : (execOp ρ o).run P w = .ok (.value v) w' := by
  unfold execOp
  simp only [ho, hx, Sem.run_bind, Sem.run_pure, Result.andThen_ok, h]
/-- Values that are told, but one, of which a property is. -/
def lsP (vals : List Value) (q : Nat) (Q : Value → World → Prop) (j : Nat) (v : Value) (W : World) : Prop := if j = q then Q v W else v = vals.getD j undef
theorem lsP.mono {vals : List Value} {q : Nat} {Q : Value → World → Prop} (hQ : ∀ v W W', Q v W → Below W.heap.size W W' → Q v W') : ∀ j v W W', lsP vals q Q j v W → Below W.heap.size W W' → lsP vals q Q j v W' := by
  intro j v W W' h hb
  unfold lsP at h ⊢
  split
  · rename_i e; rw [if_pos e] at h; exact hQ _ _ _ h hb
  · rename_i e; rw [if_neg e] at h; exact h
theorem lsP.fix {vals : List Value} {q j : Nat} {Q : Value → World → Prop} {v : Value} {W : World} (h : lsP vals q Q j v W) (hj : j ≠ q) : v = vals.getD j undef := by
  unfold lsP at h
  rwa [if_neg hj] at h
theorem lsP.mk {vals : List Value} {q j : Nat} {Q : Value → World → Prop} {v : Value} {W : World} (hj : j ≠ q) (h : v = vals.getD j undef) : lsP vals q Q j v W := by
  unfold lsP
  rwa [if_neg hj]
theorem lsP.hit {vals : List Value} {q : Nat} {Q : Value → World → Prop} {v : Value} {W : World} (h : lsP vals q Q q v W) : Q v W := by
  unfold lsP at h
  rwa [if_pos rfl] at h
theorem lsP.one {vals : List Value} {q : Nat} {Q : Value → World → Prop} {v : Value} {W : World} (h : Q v W) : lsP vals q Q q v W := by
  unfold lsP
  rwa [if_pos rfl]
theorem stoP.mk {T : TypeId} {w0 : World} {vals : List Value} {RA : Array Value → World → Prop} {RB : Value → World → Prop} {j : Nat} {v : Value} {W : World} (hj : j < 6) (h : v = vals.getD j undef) : stoP T w0 vals RA RB j v W := by
  unfold stoP
  rwa [if_pos hj]
theorem run_load_in {ρ : Operand → Value} {o : Oper} {x : Operand} {g off : Nat} {cs : Array Value} {w : World} {ty : TypeId} {d : TypeDesc} (ho : o.op = .load ty x) (hx : ρ x = .pointer (some ⟨g, off, none⟩)) (hR : w.rangeAt g off cs.toList) (hu : Try.prog.underlying ty = some d) (hd : d.isRow = true) (hi : (Try.prog.info? ty).map (·.size) = some cs.size) :
    (execOp ρ o).run Try.prog w = .ok (.value (.agg cs)) w := by
  have h := run_loadVar_mid (P := Try.prog) w g off ty cs.toList d hR hu hd (by rw [hi, Array.length_toList])
  rw [Array.toArray_toList] at h
  unfold execOp
  simp only [ho, hx, Instr.loadAt, Instr.sureAddr, Sem.run_bind, Sem.run_pure, Result.andThen_ok, h]
theorem DS.one {w : World} {base b : Nat} {vL vH vT : Value} {L : List (List W8)} {H : List Bool} {T : List Nat} (h : DS w base vL vH vT L H T) : (dsV vL vH vT b).size = 4 ∧ (dsV vL vH vT b).all (·.oneCell') = true := by
  obtain ⟨pL, cL, eL⟩ := h.l.slice
  obtain ⟨pH, cH, eH⟩ := h.h.slice
  obtain ⟨pT, cT, eT⟩ := h.t.slice
  rw [eL, eH, eT]
  exact ⟨rfl, one4 rfl rfl rfl rfl⟩
theorem Us.lower {w : World} {b b' : Nat} {v : Value} {us : List (Value × List W8)} (h : Us w b v us) (hb : b' ≤ b) : Us w b' v us := ⟨h.1.low' hb, fun p hp => (h.2 p hp).lower hb⟩
section
variable {vals : List Value} {ld cl bu ap st : Nat} {P0 : World → Prop} {P1 P2 P3 : Value → World → Prop} {E : World → Prop} {L : Nat → Bool} {V : Nat → Value} {w w' : World}
theorem Apd.any (h : Apd vals ld cl bu ap st P0 P1 P2 P3 E L V w) {C : World → Prop} (c0 : ∀ w, P0 w → C w) (c1 : ∀ v w, P1 v w → C w) (c2 : ∀ v w, P2 v w → C w) (c3 : ∀ v w, P3 v w → C w) (c4 : ∀ w, E w → C w) : C w := by
  obtain ⟨_, a2, a3, a4, a5, a6, _, _, _⟩ := h
  cases e1 : L cl with
  | false => exact c0 _ (a2 e1)
  | true =>
    cases e2 : L bu with
    | false => exact c1 _ _ (a3 e1 e2)
    | true =>
      cases e3 : L ap with
      | false => exact c2 _ _ (a4 e2 e3)
      | true =>
        cases e4 : L st with
        | false => exact c3 _ _ (a5 e3 e4)
        | true => exact c4 _ (a6 e4)
end
theorem PhC.keep {w4 W : World} {base k : Nat} {u v : Value} {K : List (List W8)} {y : List W8} {cs : Array Value} {T : TypeId} (h : PhC w4 base u K y v W) (hu : Sr w4 base u K) (hb : Blk w4 k cs T) (hT : T ≠ 9) : Blk W k cs T := by
  obtain ⟨wq, hq, _, M, _⟩ := h
  exact M.blk (hb.below hq) (fun hk => by
    obtain ⟨cs', h2⟩ := Rw.kind (hu.below hq) hk
    exact hT (Blk.inj (hb.below hq) h2).2)
theorem PhD.keep {w4 W : World} {base k x j : Nat} {u : Value} {K : List (List W8)} {y : List W8} {cs : Array Value} {T : TypeId} {e : ES} (h : PhD w4 base u K y x j W) (hX : EX w4 base x e) (hu : Sr w4 base u K) (hb : Blk w4 k cs T) (hT : T ≠ 9) (hT2 : T ≠ 50) : Blk W k cs T := by
  obtain ⟨v, W', hC, rfl⟩ := h
  have hb' := hC.keep hu hb hT
  obtain ⟨cs', hx⟩ := hX.fn.blk
  have hx' := hC.keep hu hx (by decide)
  exact hb'.other (Ne.symm (hb'.ne hx' hT2)) _
end Go.Proofs.Ytkehejkjifgieaa

/- The law's take: a frame to both receivers. -/
namespace Go.Proofs.Ytkehejkjifgieaa
open Go.RowKit Go.ChangeMaps

theorem nextA_len : ∀ (f n : Nat) (A : Int → Option (List W8)), (nextA f n A).1.length ≤ f
  | 0, n, A => Nat.le_refl _
  | f + 1, n, A => by
    cases h : A (n : Int) with
    | none => rw [nextA_none h]; exact Nat.zero_le _
    | some l => rw [nextA_some h]; have := nextA_len f (n + 1) (delA A (n : Int)); show (nextA f (n + 1) _).1.length + 1 ≤ _; omega
theorem rhearM_bounds (xs : List W8) (n : Nat) (A : Int → Option (List W8)) : (rhearM xs n A).2.1.length ≤ 8 ∧ (rhearM xs n A).2.2.1.length ≤ 9 ∧ (rhearM xs n A).2.2.2.1 ≤ n + 8 := by
  unfold rhearM
  split
  · refine ⟨nextA_len _ _ _, ?_, nextA_le _ _ _⟩
    show (ackB _).length ≤ 9
    rw [ackB_length]
    exact Nat.le_refl _
  · exact ⟨Nat.zero_le _, Nat.zero_le _, by show n ≤ n + 8; omega⟩
section
variable {w w' : World} {base x : Nat} {e : ES}
theorem ow_modX {b : Nat} {v : Value} {xs : List W8} (h : EX w base x e) (M : Mod (fun k => k = x) w w') (hr : Ow w b v xs) : Ow w' b v xs := by
  obtain ⟨cs, hb, _⟩ := h.fn
  exact hr.mod M (fun k hk e => by
    obtain ⟨cs', hb'⟩ := hr.kind hk
    rw [e] at hb'
    exact absurd (Blk.inj hb' hb).2 (by decide))
theorem ut_modX {b b' : Nat} {v : Value} {us : List (Value × List W8)} (h : EX w base x e) (M : Mod (fun k => k = x) w w') (hr : Ut w b b' v us) : Ut w' b b' v us := ⟨rows_modX h M (by decide) hr.1, fun p hp => ow_modX h M (hr.2 p hp)⟩
end
/-- What take compares: the messages, the answer; with both ends. -/
structure TK (w : World) (base bl bt ba x i : Nat) (e : ES) (vl va vt vc : Value) (us : List (Value × List W8)) (ms : List (List W8)) (ak : List W8) : Prop where
  c : EC w base x i e
  u : Ut w bl base vl us
  s : Sr w bt vt ms
  a : Ow w base va ak
  d : Ow w ba vc ak
section
variable {w w' : World} {base bl bt ba x i : Nat} {e : ES} {vl va vt vc : Value} {us : List (Value × List W8)} {ms : List (List W8)} {ak : List W8}
theorem TK.below (h : TK w base bl bt ba x i e vl va vt vc us ms ak) (hb : Below w.heap.size w w') : TK w' base bl bt ba x i e vl va vt vc us ms ak := ⟨h.c.below hb, h.u.below hb, h.s.below hb, h.a.below hb, h.d.below hb⟩
end
set_option maxRecDepth 100000 in
set_option maxHeartbeats 4000000 in
theorem take_w {w0 w : World} {base x i : Nat} {e : ES} {vb : Value} {xs : List W8} (h : EC w0 base x i e) (hb : Below w0.heap.size w0 w) (hX : Byf w0 w base vb xs) (hi : i ≤ 80) (hl : xs.length ≤ 5000) :
    Calls Try.prog 34 #[.pointer (some ⟨x, 0, none⟩), vb] w fun r w' => r = .returned (.bool true) ∧ (∃ e', EC w' base x (i + 1) e') ∧ Kp kinds7 base w w' := by
  have H := hid (h.below hb)
  have HI := hid h.i
  have CS := hid (rhear_q h.p hb (by have := h.i.nN; omega) hX (by omega))
  have hbw := hid (show base ≤ w.heap.size from Nat.le_trans h.p.size hb.size)
  obtain ⟨pb, cb, rfl⟩ := hX.slice
  obtain ⟨hb1, hb2, hb3⟩ := rhearM_bounds xs e.N e.Ar
  have hz := rrV_zero
  have s1 := H.out.x.r1
  have hxl : x < w.heap.size := H.out.x.fn.lt
  have CT := hid (fun (w1 : World) (hB : Bytes w1 (.slice pb xs.length cb) xs) => rtake_e (w := w1) HI.out.rr (by have := HI.out.nN; omega) hB (by omega))
  obtain ⟨nb, hnb⟩ : ∃ nb, nb = xs.length := ⟨_, rfl⟩
  have HNB := hid hnb
  obtain ⟨R, hR⟩ : ∃ R, R = rhearM xs e.N e.Ar := ⟨_, rfl⟩
  rw [← hnb] at CS CT ⊢
  rw [← hR] at CS CT hb1 hb2 hb3
  obtain ⟨c, ms, ak, N', Ar'⟩ := R
  dsimp only at CS CT hb1 hb2 hb3
  have HB1 := hid hb1; have HB2 := hid hb2; have HB3 := hid hb3
  clear h hb hX hnb hR hb1 hb2 hb3 hl
  go_enter Try.func34, Try.ntmps34
  go_upto_region 2 with (go_at_call 11; refine CS.out.mono ?_; rintro r1 w1 ⟨vl, us, va, rfl, hU1, hm1, hO1, hP1, hK1, hX1⟩; have U1 := hid hU1; have M1 := hid hm1; have O1 := hid hO1; have P1 := hid hP1; have K1 := hid hK1; have X1 := hid hX1; clear hU1 hm1 hO1 hP1 hK1 hX1)
  clear CS s1
  have E1 := hid (H.out.x.kp (kinds45 K1.out))
  have hxl : x < w1.heap.size := E1.out.fn.lt
  have RN := hid E1.out.rangeN
  have CR := hid (CT.out w1 X1.out.1)
  clear CT
  obtain ⟨dv, hdv⟩ : ∃ dv, dv = rrV e.N e.Hr e.Aa := ⟨_, rfl⟩
  rw [← hdv] at CR RN
  have DV := hid (show (Try.prog.info? 48).map (·.size) = some dv.size by rw [hdv]; exact rrV_info _ _ _)
  clear hdv
  go_upto_region 3 with (first
    | ((with_reducible refine at_op (.load 48 (.tmp 25)) rfl ?_); refine wpList_load_in rfl 48 (.tmp 25) rfl x 6 rfl (cs := dv) RN.out Try.underlying48 rfl DV.out ?_)
    | ((with_reducible refine at_op (.store 48 (.tmp 8) (.tmp 29)) rfl ?_); refine wpList_store_blk rfl 48 (.tmp 8) (.tmp 29) rfl w2.heap.size rfl rfl (Blk.new w2 _ _) (rrV_info _ _ _) ((rrV_size _ _ _).trans (rrV_size _ _ _).symm) (rrV_one _ _ _) ?_)
    | (go_at_call 46; refine CR.out.mono ?_; rintro r2 w2 ⟨⟨vt, vc, H', A', rfl, hS2, hO2, hr2⟩, hb2⟩; have B2 := hid hb2; have S2 := hid hS2; have O2 := hid hO2; have R2 := hid hr2; clear hb2 hS2 hO2 hr2))
  obtain ⟨pl, cl, hv⟩ := U1.out.1.slice; rw [List.length_map] at hv; subst hv
  obtain ⟨pa, ca, hv⟩ := O1.out.slice; subst hv
  obtain ⟨pt, ct, hv⟩ := S2.out.slice; subst hv
  obtain ⟨pc, cc, hv⟩ := O2.out.slice; subst hv
  obtain ⟨dw, hdw⟩ : ∃ dw, dw = rrV N' H' A' := ⟨_, rfl⟩
  rw [← hdw]
  have HDW := hid hdw
  have DW := hid (show (Try.prog.info? 48).map (·.size) = some dw.size by rw [hdw]; exact rrV_info _ _ _)
  have DW1 := hid (show dw.all (·.oneCell') = true by rw [hdw]; exact rrV_one _ _ _)
  have DW17 := hid (show dw.size = 17 by rw [hdw]; exact rrV_size _ _ _)
  obtain ⟨w3, hw3⟩ : ∃ w3, w3 = ((w2.alloc (.cells (rrV 0 (fun _ => false) (fun _ => [])) 48)).setRow w2.heap.size dw) := ⟨_, rfl⟩
  have B3 := hid (show Below w2.heap.size w2 w3 by rw [hw3]; exact ((Below.refl _ _).alloc (Nat.le_refl _) _).trans ((Mod.setRow _ _ _).below (by simp) (fun k hk e => by omega)))
  have K3 := hid (show Blk w3 w2.heap.size dw 48 by rw [hw3]; exact (Blk.new w2 _ _).setRow _)
  rw [← hw3]
  clear hw3 hdw RN CR hz hxl
  have B13 := hid (B2.out.trans (B3.out.mono B2.out.size))
  have E3 := hid (E1.out.below B13.out)
  have MX := hid (Mod.cells w3 x 6 dw.toList)
  have TH := hid (show w3.there x 6 dw.size from E3.out.there (by rw [DW17.out]; decide))
  have TT := hid (show TK (w3.setCells x 6 dw.toList) base w.heap.size w1.heap.size w1.heap.size x (i + 1) { e with N := N', Hr := H', Aa := A', m := e.m, Ar := Ar' } (.slice pl us.length cl) (.slice pa ak.length ca) (.slice pt ms.length ct) (.slice pc ak.length cc) us ms ak from by
    have hI := HI.out
    have h3 := HB3.out
    have E4 := (E3.out.setN N' H' A').rest e.m Ar'
    rw [← HDW.out] at E4
    refine ⟨⟨E4, E3.out.pr (P1.out.below B13.out) MX.out, ⟨hI.ref, R2.out, hI.bb, hI.l5, hI.dl, hI.kl, by have := hI.nL; show e.L.length ≤ _; omega, by have := hI.nN; show N' ≤ _; omega, by have := hI.nD; show e.D.length ≤ _; omega, by have := hI.nK; show e.K.length ≤ _; omega⟩⟩, ut_modX E3.out MX.out (U1.out.below B13.out), rows_modX E3.out MX.out (by decide) (Sr.below S2.out B3.out), ow_modX E3.out MX.out (O1.out.below B13.out), ow_modX E3.out MX.out (O2.out.below B3.out)⟩)
  have KK := hid (show Kp kinds7 base w (w3.setCells x 6 dw.toList) from ((kinds47 K1.out).trans (Kp.of_below B13.out)).trans (E3.out.kpX MX.out))
  have QK := hid (show e.K.length + 1 ≤ i + 1 ∧ us.length ≤ 8 ∧ ak.length ≤ 9 ∧ us.map (·.2) = ms ∧ w.heap.size ≤ w1.heap.size ∧ (Sr w base e.vK e.K) from by
    have h1 := HI.out.nK
    have h2 := congrArg List.length M1.out
    rw [List.length_map] at h2
    have h3 := HB1.out
    exact ⟨by omega, by omega, HB2.out, M1.out, K1.out.size, H.out.x.k⟩)
  go_upto_region 4 with (first
    | ((with_reducible refine at_op (.load 48 (.tmp 8)) rfl ?_); refine wpList_load_blk rfl 48 (.tmp 8) rfl w2.heap.size rfl (cs := dw) K3.out Try.underlying48 rfl DW.out ?_)
    | ((with_reducible refine at_op (.store 48 (.tmp 36) (.tmp 34)) rfl ?_); refine wpList_store_mid rfl 48 (.tmp 36) (.tmp 34) rfl x 6 dw rfl rfl TH.out DW.out DW1.out ?_))
  obtain ⟨w4, hw4⟩ : ∃ w4, w4 = w3.setCells x 6 dw.toList := ⟨_, rfl⟩
  rw [← hw4] at TT KK ⊢
  obtain ⟨e4, he4⟩ : ∃ e4 : ES, e4 = { e with N := N', Hr := H', Aa := A', m := e.m, Ar := Ar' } := ⟨_, rfl⟩
  have QE := hid (show e4.K = e.K ∧ e4.vK = e.vK by rw [he4]; exact ⟨rfl, rfl⟩)
  rw [← he4] at TT
  clear hw4 he4 MX TH E3 K3 B13 B3 HDW DW DW1 DW17 S2 O2 R2 U1 O1 P1 X1 E1 K1 M1 B2 H HI HB1 HB2 HB3 DV
  obtain ⟨na, hna⟩ : ∃ na, na = ak.length := ⟨_, rfl⟩
  obtain ⟨nm, hnm⟩ : ∃ nm, nm = ms.length := ⟨_, rfl⟩
  obtain ⟨nu, hnu⟩ : ∃ nu, nu = us.length := ⟨_, rfl⟩
  have HNA := hid hna
  rw [← hna, ← hnm, ← hnu] at TT ⊢
  clear hna hnm hnu
  by_cases hc : c = 0
  · subst hc
    go_upto_region 5 with fail
    refine region_inv (n := 65) (I := Apd [.pointer (some ⟨x, 0, none⟩), .pointer (some ⟨x, 0, none⟩), .pointer (some ⟨x, 0, none⟩), .pointer (some ⟨x, 24, none⟩), e4.vK, .slice pa na ca, undef, undef, undef, .pointer (some ⟨x, 0, none⟩), .pointer (some ⟨x, 24, none⟩), undef] 4 6 7 8 11 (fun W => Below w4.heap.size w4 W) (PhA w4 ak) (PhB w4 ak) (PhC w4 base e4.vK e4.K ak) (PhD w4 base e4.vK e4.K ak x 24)) (by kernel_rfl) (by kernel_rfl) (by kernel_rfl) (by kernel_rfl) (Apd.start (Below.refl _ _).drew) ?hop ?hend
    case hop =>
      refine And.intro ?_ ?_
      · intro L V ρ w' hI hk hc hf hd hs
        have s0 : ρ (.tmp 0) = .pointer (some ⟨x, 0, none⟩) := hs 0 (by kernel_rfl)
        clear hd hs
        rw [BigFrame.run_move (.tmp 0) rfl]
        exact hI.val (by decide) (by decide) (by decide) (by decide) s0
      refine And.intro ?_ ?_
      · intro L V ρ w' hI hk hc hf hd hs
        have s0 : ρ (.tmp 0) = .pointer (some ⟨x, 0, none⟩) := hs 0 (by kernel_rfl)
        clear hd hs
        rw [BigFrame.run_move (.tmp 0) rfl]
        exact hI.val (by decide) (by decide) (by decide) (by decide) s0
      refine And.intro ?_ ?_
      · intro L V ρ w' hI hk hc hf hd hs
        have s40 : ρ (.tmp 40) = .pointer (some ⟨x, 0, none⟩) := ((hd 1 (by kernel_rfl)).2 40 (by kernel_rfl)).trans (hI.at (by decide) (by decide) (by decide) (by decide) (hd 1 (by kernel_rfl)).1)
        clear hd hs
        exact outcome_value (v := .pointer (some ⟨x, 0, none⟩)) (by simp [go_sem, s40]) (hI.val (by decide) (by decide) (by decide) (by decide) rfl)
      refine And.intro ?_ ?_
      · intro L V ρ w' hI hk hc hf hd hs
        have s41 : ρ (.tmp 41) = .pointer (some ⟨x, 0, none⟩) := ((hd 2 (by kernel_rfl)).2 41 (by kernel_rfl)).trans (hI.at (by decide) (by decide) (by decide) (by decide) (hd 2 (by kernel_rfl)).1)
        clear hd hs
        exact outcome_value (v := .pointer (some ⟨x, 24, none⟩)) (by simp [go_sem, s41]) (hI.val (by decide) (by decide) (by decide) (by decide) rfl)
      refine And.intro ?_ ?_
      · intro L V ρ w' hI hk hc hf hd hs
        have s42 : ρ (.tmp 42) = .pointer (some ⟨x, 24, none⟩) := ((hd 3 (by kernel_rfl)).2 42 (by kernel_rfl)).trans (hI.at (by decide) (by decide) (by decide) (by decide) (hd 3 (by kernel_rfl)).1)
        have hcell : w'.cell? ⟨x, 24, none⟩ = some e4.vK := hI.cell (C := fun W => W.cell? ⟨x, 24, none⟩ = some e4.vK) (fun W h => (TT.out.c.x.below h).k24) (fun v W h => (TT.out.c.x.below h.2).k24) (fun v W h => (TT.out.c.x.below h.2).k24) hk
        clear hd hs
        exact outcome_value (v := e4.vK) (by simp [go_sem, s42, hcell]) (hI.val (by decide) (by decide) (by decide) (by decide) rfl)
      refine And.intro ?_ ?_
      · intro L V ρ w' hI hk hc hf hd hs
        have s6 : ρ (.tmp 6) = .slice pa na ca := hs 6 (by kernel_rfl)
        clear hd hs
        rw [BigFrame.run_move (.tmp 6) rfl]
        exact hI.val (by decide) (by decide) (by decide) (by decide) s6
      refine And.intro ?_ ?_
      · intro L V ρ w' hI hk hc hf hd hs
        have s44 : ρ (.tmp 44) = .slice pa na ca := ((hd 5 (by kernel_rfl)).2 44 (by kernel_rfl)).trans (hI.at (by decide) (by decide) (by decide) (by decide) (hd 5 (by kernel_rfl)).1)
        clear hd hs
        have hP := hI.before hk
        exact outcome_value (run_conv rfl s44 (conv_str' (TT.out.a.bytes.below hP))) (hI.call hk (by decide) (by decide) (by decide) ⟨rfl, hP⟩)
      refine And.intro ?_ ?_
      · intro L V ρ w' hI hk hc hf hd hs
        have h45 := (hd 6 (by kernel_rfl)).1
        have s45 : ρ (.tmp 45) = V 6 := (hd 6 (by kernel_rfl)).2 45 (by kernel_rfl)
        clear hd hs
        obtain ⟨⟨hv3, hP⟩, hnext⟩ := hI.build h45 hk (by decide) (by decide) (by decide)
        rw [hv3] at s45
        exact outcome_value (v := .slice (some ⟨w'.heap.size, 0, none⟩) 1 1) (w := w'.alloc (.cells #[.string (str ak)] 9)) (by simp [go_sem, s45]) (hnext _ _ ⟨⟨w'.heap.size, rfl, (Blk.new w' _ _).cellv rfl⟩, hP.alloc hP.size _⟩)
      refine And.intro ?_ ?_
      · intro L V ρ w' hI hk hc hf hd hs
        have s43 : ρ (.tmp 43) = e4.vK := ((hd 4 (by kernel_rfl)).2 43 (by kernel_rfl)).trans (hI.at (by decide) (by decide) (by decide) (by decide) (hd 4 (by kernel_rfl)).1)
        have h46 := (hd 7 (by kernel_rfl)).1
        have s46 : ρ (.tmp 46) = V 7 := (hd 7 (by kernel_rfl)).2 46 (by kernel_rfl)
        have h1 := (hd 4 (by kernel_rfl)).1
        clear hd hs
        obtain ⟨⟨⟨g, hv4, hx⟩, hP⟩, hnext⟩ := hI.app h46 h1 hk (by decide) (by decide) (by decide) (by decide)
        rw [hv4] at s46
        refine outcome_push (t := 40) (e := 9) (by rfl) Try.underlying40 info_string rfl (by decide) s43 s46 (Rw.below TT.out.c.x.k hP) hx rfl (by rw [List.length_map]; have := TT.out.c.i.nK; omega) (Nat.le_trans TT.out.c.p.size hP.size) ?_
        intro v5 w5 S5 M5 o5
        exact hnext _ _ ⟨w', hP, S5, M5, o5⟩
      refine And.intro ?_ ?_
      · intro L V ρ w' hI hk hc hf hd hs
        have s39 : ρ (.tmp 39) = .pointer (some ⟨x, 0, none⟩) := ((hd 0 (by kernel_rfl)).2 39 (by kernel_rfl)).trans (hI.at (by decide) (by decide) (by decide) (by decide) (hd 0 (by kernel_rfl)).1)
        clear hd hs
        exact outcome_value (v := .pointer (some ⟨x, 0, none⟩)) (by simp [go_sem, s39]) (hI.val (by decide) (by decide) (by decide) (by decide) rfl)
      refine And.intro ?_ ?_
      · intro L V ρ w' hI hk hc hf hd hs
        have s48 : ρ (.tmp 48) = .pointer (some ⟨x, 0, none⟩) := ((hd 9 (by kernel_rfl)).2 48 (by kernel_rfl)).trans (hI.at (by decide) (by decide) (by decide) (by decide) (hd 9 (by kernel_rfl)).1)
        clear hd hs
        exact outcome_value (v := .pointer (some ⟨x, 24, none⟩)) (by simp [go_sem, s48]) (hI.val (by decide) (by decide) (by decide) (by decide) rfl)
      refine And.intro ?_ ?_
      · intro L V ρ w' hI hk hc hf hd hs
        have s49 : ρ (.tmp 49) = .pointer (some ⟨x, 24, none⟩) := ((hd 10 (by kernel_rfl)).2 49 (by kernel_rfl)).trans (hI.at (by decide) (by decide) (by decide) (by decide) (hd 10 (by kernel_rfl)).1)
        have h47 := (hd 8 (by kernel_rfl)).1
        have s47 : ρ (.tmp 47) = V 8 := (hd 8 (by kernel_rfl)).2 47 (by kernel_rfl)
        clear hd hs
        obtain ⟨hP, hnext⟩ := hI.store h47 hk (by decide) (by decide) (by decide) (by decide)
        obtain ⟨u, d1, d2, d3⟩ := hP.at (j := 24) TT.out.c.x TT.out.c.x.k (by decide)
        refine outcome_skip (w := w'.setCell ⟨x, 24, none⟩ (V 8)) ?_ (hnext _ _ ⟨_, w', hP, rfl⟩)
        obtain ⟨p5, c5, e5⟩ := d3
        rw [e5] at s47 ⊢
        simp [go_sem, s47, s49, d1, d2]
      exact trivial
    case hend =>
      intro L V w13 hL hI
      obtain ⟨v, W', ⟨wq, hb, hR, hM, ho⟩, hw⟩ := hI.end (hL 11 (by decide))
      have Tq := TT.out.below hb
      have hq := QK.out
      have hqe := QE.out
      obtain ⟨C5, M5, K5⟩ := Tq.c.pushK hR hM ho (by have := hq.2.2.1; omega) (by rw [hqe.1]; exact hq.1)
      rw [← hw] at C5 M5 K5
      have T5 := hid (show TK w13 base w.heap.size w1.heap.size w1.heap.size x (i + 1) _ (.slice pl nu cl) (.slice pa na ca) (.slice pt nm ct) (.slice pc na cc) us ms ak from ⟨C5, Tq.c.x.utPush Tq.c.x.k M5 (fun k hk => hk) Tq.u, Tq.c.x.srPush Tq.c.x.k M5 (fun k hk => hk) Tq.s (fun k h1 h2 => by
        have a1 := (Rw.lt Tq.s k h1).1
        rw [hqe.2] at h2
        have a2 := (Rw.lt hq.2.2.2.2.2 k h2).2
        have a3 := hq.2.2.2.2.1
        omega), Tq.c.x.owPush Tq.c.x.k M5 (fun k hk => hk) Tq.a, Tq.c.x.owPush Tq.c.x.k M5 (fun k hk => hk) Tq.d⟩)
      have KK5 := hid ((KK.out.trans (Kp.of_below hb)).trans K5)
      simp only [lexF, Act.put, List.setIfInBounds_toArray, List.set_cons_zero, List.set_cons_succ]
      clear hI hL hw hb hR hM ho C5 M5 K5 Tq hq hqe TT KK
      have CX := hid (texts_c T5.out.u T5.out.s QK.out.2.2.2.1 (by have := QK.out.2.1; omega))
      go_wp2_with (go_at_call 47; refine CX.out.mono ?_; rintro r6 w6 ⟨rfl, hb6⟩; have T6 := hid (T5.out.below hb6); have KE := hid (KK5.out.trans (Kp.of_below hb6)); have hcv1 := conv_str' T6.out.a.bytes; have hcv2 := conv_str' T6.out.d.bytes; clear hb6)
      go_ret
      exact ⟨rfl, ⟨_, T6.out.c⟩, KE.out⟩
  · have hci : (c == 0) = false := by simpa using hc
    have CX := hid (texts_c TT.out.u TT.out.s QK.out.2.2.2.1 (by have := QK.out.2.1; omega))
    go_wp2_with (go_at_call 47; refine CX.out.mono ?_; rintro r6 w6 ⟨rfl, hb6⟩; have T6 := hid (TT.out.below hb6); have KE := hid (KK.out.trans (Kp.of_below hb6)); have hcv1 := conv_str' T6.out.a.bytes; have hcv2 := conv_str' T6.out.d.bytes; clear hb6)
    go_ret
    exact ⟨rfl, ⟨_, T6.out.c⟩, KE.out⟩
end Go.Proofs.Ytkehejkjifgieaa

/- The law's act: answers and frames that come, any bytes, frames of any message; no act. -/
namespace Go.Proofs.Ytkehejkjifgieaa
open Go.RowKit Go.ChangeMaps

/-- What an act leaves. -/
def ActP (w : World) (base x i : Nat) (r : Ending) (w' : World) : Prop := r = .returned (.bool true) ∧ (∃ e', EC w' base x (i + 1) e') ∧ Kp kinds7 base w w'
theorem ActP.same {w w' : World} {base x i : Nat} {e : ES} (h : EC w base x i e) (hb : Below w.heap.size w w') : ActP w base x i (.returned (.bool true)) w' := ⟨rfl, ⟨e, (h.below hb).x, (h.below hb).p, h.i.up (Nat.le_succ i)⟩, Kp.of_below hb⟩
theorem cell_lt {w : World} {b o : Nat} {v : Value} (h : w.cell? ⟨b, o, none⟩ = some v) : b < w.heap.size := by
  by_cases hlt : b < w.heap.size
  · exact hlt
  · unfold World.cell? at h
    simp [Array.getElem?_eq_none (Nat.le_of_not_lt hlt)] at h
set_option maxRecDepth 100000 in
set_option maxHeartbeats 4000000 in
theorem act0_w {w : World} {base x i : Nat} {e : ES} {kd wh : Int} {nw : Nat} {vB : Value} {xs : List W8} (h : EC w base x i e) (hX : Bytes w vB xs) (hlow : ∀ k, vB.ownBlock = some k → 0 < xs.length → k < base) (_ : i < 80) (hl : xs.length ≤ 700) (h1 : (kd == 1) = false) (h2 : (kd == 2) = false) (h3 : (kd == 3) = false) (h4 : (kd == 4) = false) (h5 : (kd == 5) = false) (h6 : (kd == 6) = false) :
    Calls Try.prog 16 #[.pointer (some ⟨x, 0, none⟩), .agg #[.int .i64 kd, .int .i64 wh, .int .u64 (nw : Int), vB]] w fun r w' => ActP w base x i r w' := by
  obtain ⟨pB, cB, hv, hq⟩ := hX
  subst hv
  have HX := hid (show Bytes w (.slice pB xs.length cB) xs from ⟨pB, cB, rfl, hq⟩)
  have H := hid h
  have HL := hid hl
  have hbs := hid h.p.size
  obtain ⟨wA, hwA⟩ : ∃ wA, wA = w.alloc (.cells #[.int .i64 kd, .int .i64 wh, .int .u64 (nw : Int), .slice pB xs.length cB] 52) := ⟨_, rfl⟩
  have BA := hid (show Below w.heap.size w wA by rw [hwA]; exact (Below.refl _ _).alloc (Nat.le_refl _) _)
  have KA := hid (show Blk wA w.heap.size #[.int .i64 kd, .int .i64 wh, .int .u64 (nw : Int), .slice pB xs.length cB] 52 by rw [hwA]; exact Blk.new w _ _)
  obtain ⟨nb, hnb⟩ : ∃ nb, nb = xs.length := ⟨_, rfl⟩
  have HNB := hid hnb
  have HLOW := hid (show ∀ k, (Value.slice pB nb cB).ownBlock = some k → 0 < xs.length → k < base by rw [hnb]; exact hlow)
  rw [← hnb] at KA HX hwA ⊢
  clear hq h hlow hnb hl
  have c0 : wA.cell? ⟨w.heap.size, 0, none⟩ = some (.int .i64 kd) := KA.out.cellv rfl
  have hla : w.heap.size < wA.heap.size := KA.out.lt
  go_enter Try.func16, Try.ntmps16
  go_upto_region 1 with fail
  rw [← hwA]
  clear hwA
  go_wp2
  go_ret
  exact ActP.same H.out BA.out
set_option maxRecDepth 100000 in
set_option maxHeartbeats 4000000 in
theorem act5_w {w : World} {base x i : Nat} {e : ES} {wh : Int} {nw : Nat} {vB : Value} {xs : List W8} (h : EC w base x i e) (hX : Bytes w vB xs) (hlow : ∀ k, vB.ownBlock = some k → 0 < xs.length → k < base) (hi : i < 80) (hl : xs.length ≤ 700) :
    Calls Try.prog 16 #[.pointer (some ⟨x, 0, none⟩), .agg #[.int .i64 5, .int .i64 wh, .int .u64 (nw : Int), vB]] w fun r w' => ActP w base x i r w' := by
  obtain ⟨pB, cB, hv, hq⟩ := hX
  subst hv
  have HX := hid (show Bytes w (.slice pB xs.length cB) xs from ⟨pB, cB, rfl, hq⟩)
  have H := hid h
  have HL := hid hl
  have hbs := hid h.p.size
  obtain ⟨wA, hwA⟩ : ∃ wA, wA = w.alloc (.cells #[.int .i64 5, .int .i64 wh, .int .u64 (nw : Int), .slice pB xs.length cB] 52) := ⟨_, rfl⟩
  have BA := hid (show Below w.heap.size w wA by rw [hwA]; exact (Below.refl _ _).alloc (Nat.le_refl _) _)
  have KA := hid (show Blk wA w.heap.size #[.int .i64 5, .int .i64 wh, .int .u64 (nw : Int), .slice pB xs.length cB] 52 by rw [hwA]; exact Blk.new w _ _)
  obtain ⟨nb, hnb⟩ : ∃ nb, nb = xs.length := ⟨_, rfl⟩
  have HNB := hid hnb
  have HLOW := hid (show ∀ k, (Value.slice pB nb cB).ownBlock = some k → 0 < xs.length → k < base by rw [hnb]; exact hlow)
  rw [← hnb] at KA HX hwA ⊢
  clear hq h hlow hnb hl
  have CH := hid (hear_w H.out BA.out (xs := xs) (show Byf w wA base (.slice pB nb cB) xs from ⟨HX.out.below BA.out, fun k hk h0 => Or.inl (HLOW.out k hk h0)⟩) (by omega) (by have := HL.out; omega))
  have c0 : wA.cell? ⟨w.heap.size, 0, none⟩ = some (.int .i64 5) := KA.out.cellv rfl
  have c3 : wA.cell? ⟨w.heap.size, 3, none⟩ = some (.slice pB nb cB) := KA.out.cellv rfl
  have hla : w.heap.size < wA.heap.size := KA.out.lt
  go_enter Try.func16, Try.ntmps16
  go_upto_region 1 with fail
  rw [← hwA]
  clear hwA
  go_wp2_with (first
    | (go_at_call 34; refine CT.out.mono ?_; rintro r2 w2 ⟨rfl, hE2, hK2⟩; have E2 := hid hE2; have K2 := hid (K1.out.trans hK2); clear hE2 hK2)
    | (go_at_call 33; refine CH.out.mono ?_; rintro r1 w1 ⟨rfl, ⟨e1, hE1⟩, hK1⟩; have hBx := Byf.low (HX.out.below BA.out) HLOW.out (hK1.below (Nat.le_trans hbs.out BA.out.size)); have CT := hid (take_w hE1 (Below.refl _ _) (xs := xs) (show Byf w1 w1 base (.slice pB nb cB) xs from ⟨hBx, fun k hk h0 => Or.inl (HLOW.out k hk h0)⟩) (by omega) (by have := HL.out; omega)); have K1 := hid hK1; have c3' : w1.cell? ⟨w.heap.size, 3, none⟩ = some (.slice pB nb cB) := (K1.out.blk KA.out (by decide)).cellv rfl; have hla' : w.heap.size < w1.heap.size := (K1.out.blk KA.out (by decide)).lt; clear hE1 hK1 hBx))
  go_ret
  exact ⟨rfl, E2.out, (Kp.of_below BA.out).trans K2.out⟩
set_option maxRecDepth 100000 in
set_option maxHeartbeats 4000000 in
theorem act6_w {w : World} {base x i : Nat} {e : ES} {wh : Int} {nw : Nat} {vB : Value} {xs : List W8} (h : EC w base x i e) (hX : Bytes w vB xs) (hlow : ∀ k, vB.ownBlock = some k → 0 < xs.length → k < base) (hi : i < 80) (hl : xs.length ≤ 700) :
    Calls Try.prog 16 #[.pointer (some ⟨x, 0, none⟩), .agg #[.int .i64 6, .int .i64 wh, .int .u64 (nw : Int), vB]] w fun r w' => ActP w base x i r w' := by
  obtain ⟨pB, cB, hv, hq⟩ := hX
  subst hv
  have HX := hid (show Bytes w (.slice pB xs.length cB) xs from ⟨pB, cB, rfl, hq⟩)
  have H := hid h
  have HL := hid hl
  have hbs := hid h.p.size
  obtain ⟨wA, hwA⟩ : ∃ wA, wA = w.alloc (.cells #[.int .i64 6, .int .i64 wh, .int .u64 (nw : Int), .slice pB xs.length cB] 52) := ⟨_, rfl⟩
  have BA := hid (show Below w.heap.size w wA by rw [hwA]; exact (Below.refl _ _).alloc (Nat.le_refl _) _)
  have KA := hid (show Blk wA w.heap.size #[.int .i64 6, .int .i64 wh, .int .u64 (nw : Int), .slice pB xs.length cB] 52 by rw [hwA]; exact Blk.new w _ _)
  obtain ⟨nb, hnb⟩ : ∃ nb, nb = xs.length := ⟨_, rfl⟩
  have HNB := hid hnb
  have HLOW := hid (show ∀ k, (Value.slice pB nb cB).ownBlock = some k → 0 < xs.length → k < base by rw [hnb]; exact hlow)
  rw [← hnb] at KA HX hwA ⊢
  clear hq h hlow hnb hl
  have c0 : wA.cell? ⟨w.heap.size, 0, none⟩ = some (.int .i64 6) := KA.out.cellv rfl
  have c1 : wA.cell? ⟨w.heap.size, 1, none⟩ = some (.int .i64 wh) := KA.out.cellv rfl
  have c3 : wA.cell? ⟨w.heap.size, 3, none⟩ = some (.slice pB nb cB) := KA.out.cellv rfl
  have hla : w.heap.size < wA.heap.size := KA.out.lt
  have hcv := conv_str' (HX.out.below BA.out)
  obtain ⟨kp, hkp⟩ : ∃ kp : Nat, wh % 4294967296 = (kp : Int) := ⟨(wh % 4294967296).toNat, by omega⟩
  have HKP := hid hkp
  clear hkp
  go_enter Try.func16, Try.ntmps16
  go_upto_region 1 with fail
  rw [← hwA]
  clear hwA
  go_wp2_with (first
    | (go_at_call 34; refine CT.out.mono ?_; rintro r2 w2 ⟨rfl, hE2, hK2⟩; have E2 := hid hE2; have K2 := hid ((Kp.of_below B1.out).trans hK2); clear hE2 hK2)
    | (go_at_call 35; refine (rdata_c _ _ kp HKP.out xs (by have := HL.out; omega)).mono ?_; rintro r1 w1 ⟨v1, rfl, hO1, hb1⟩; have B1 := hid (BA.out.trans (hb1.mono BA.out.size)); have CT := hid (take_w H.out B1.out (xs := dataB kp xs) (show Byf w w1 base v1 (dataB kp xs) from ⟨hO1.bytes, fun k hk _ => Or.inr (Nat.le_trans BA.out.size (hO1.lt k hk).1)⟩) (by omega) (by have := dataB_length kp xs; have := HL.out; omega)); clear hO1 hb1))
  go_ret
  exact ⟨rfl, E2.out, K2.out⟩
end Go.Proofs.Ytkehejkjifgieaa
