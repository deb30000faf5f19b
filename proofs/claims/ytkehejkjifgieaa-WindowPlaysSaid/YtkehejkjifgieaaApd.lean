/- A region that draws its order: x.f = append(x.f, f(..)): a load, a call, a build, the append, a store; all else yields values that are told. -/
import Derived.Test.YtkehejkjifgieaaInv
namespace Go.Proofs.Ytkehejkjifgieaa
open Go.RowKit

def Apd (vals : List Value) (ld cl bu ap st : Nat) (P0 : World → Prop) (P1 P2 P3 : Value → World → Prop) (E : World → Prop) (L : Nat → Bool) (V : Nat → Value) (w : World) : Prop :=
  (∀ j, j ≠ cl → j ≠ bu → j ≠ ap → j ≠ st → L j = true → V j = vals.getD j undef) ∧ (L cl = false → P0 w) ∧ (L cl = true → L bu = false → P1 (V cl) w) ∧ (L bu = true → L ap = false → P2 (V bu) w) ∧ (L ap = true → L st = false → P3 (V ap) w) ∧ (L st = true → E w) ∧
  (L bu = true → L cl = true) ∧ (L ap = true → L bu = true ∧ L ld = true) ∧ (L st = true → L ap = true)
section
variable {vals : List Value} {ld cl bu ap st : Nat} {P0 : World → Prop} {P1 P2 P3 : Value → World → Prop} {E : World → Prop} {L : Nat → Bool} {V : Nat → Value} {w w' : World}
theorem Apd.start (h : P0 w) : Apd vals ld cl bu ap st P0 P1 P2 P3 E (fun _ => false) (fun _ => undef) w :=
  ⟨fun _ _ _ _ _ h => Bool.noConfusion h, fun _ => h, fun h => Bool.noConfusion h, fun h => Bool.noConfusion h, fun h => Bool.noConfusion h, fun h => Bool.noConfusion h, fun h => Bool.noConfusion h, fun h => Bool.noConfusion h, fun h => Bool.noConfusion h⟩
theorem Apd.val (h : Apd vals ld cl bu ap st P0 P1 P2 P3 E L V w) {k : Nat} (h1 : k ≠ cl) (h2 : k ≠ bu) (h3 : k ≠ ap) (h4 : k ≠ st) {v : Value} (hv : v = vals.getD k undef) : Apd vals ld cl bu ap st P0 P1 P2 P3 E (updL L k) (updV V k v) w := by
  obtain ⟨a1, a2, a3, a4, a5, a6, a7, a8, a9⟩ := h
  have e1 := updL_ne (L := L) (Ne.symm h1)
  have e2 := updL_ne (L := L) (Ne.symm h2)
  have e3 := updL_ne (L := L) (Ne.symm h3)
  have e4 := updL_ne (L := L) (Ne.symm h4)
  refine ⟨fun j j1 j2 j3 j4 hj => ?_, ?_, ?_, ?_, ?_, ?_, ?_, ?_, ?_⟩
  · by_cases e : j = k
    · subst e; rw [updV_same]; exact hv
    · rw [updL_ne e] at hj; rw [updV_ne e]; exact a1 j j1 j2 j3 j4 hj
  · rw [e1]; exact a2
  · rw [e1, e2, updV_ne (Ne.symm h1)]; exact a3
  · rw [e2, e3, updV_ne (Ne.symm h2)]; exact a4
  · rw [e3, e4, updV_ne (Ne.symm h3)]; exact a5
  · rw [e4]; exact a6
  · rw [e1, e2]; exact a7
  · rw [e2, e3]
    intro hl
    refine ⟨(a8 hl).1, ?_⟩
    by_cases e : ld = k
    · subst e; exact updL_same _ _
    · rw [updL_ne e]; exact (a8 hl).2
  · rw [e3, e4]; exact a9
theorem Apd.at (h : Apd vals ld cl bu ap st P0 P1 P2 P3 E L V w) {k : Nat} (h1 : k ≠ cl) (h2 : k ≠ bu) (h3 : k ≠ ap) (h4 : k ≠ st) (hl : L k = true) : V k = vals.getD k undef := h.1 k h1 h2 h3 h4 hl
theorem Apd.cell (h : Apd vals ld cl bu ap st P0 P1 P2 P3 E L V w) {C : World → Prop} (c0 : ∀ w, P0 w → C w) (c1 : ∀ v w, P1 v w → C w) (c2 : ∀ v w, P2 v w → C w) (hl : L ld = false) : C w := by
  obtain ⟨_, a2, a3, a4, _, _, _, a8, _⟩ := h
  have hap : L ap = false := by
    cases e : L ap with
    | false => rfl
    | true => rw [(a8 e).2] at hl; cases hl
  cases e1 : L cl with
  | false => exact c0 _ (a2 e1)
  | true =>
    cases e2 : L bu with
    | false => exact c1 _ _ (a3 e1 e2)
    | true => exact c2 _ _ (a4 e2 hap)
theorem Apd.before (h : Apd vals ld cl bu ap st P0 P1 P2 P3 E L V w) (hl : L cl = false) : P0 w := h.2.1 hl
theorem Apd.call (h : Apd vals ld cl bu ap st P0 P1 P2 P3 E L V w) (hl : L cl = false) (h2 : cl ≠ bu) (h3 : cl ≠ ap) (h4 : cl ≠ st) {v : Value} (hv : P1 v w') : Apd vals ld cl bu ap st P0 P1 P2 P3 E (updL L cl) (updV V cl v) w' := by
  obtain ⟨a1, a2, a3, a4, a5, a6, a7, a8, a9⟩ := h
  have hbu : L bu = false := by
    cases e : L bu with
    | false => rfl
    | true => rw [a7 e] at hl; cases hl
  have hap : L ap = false := by
    cases e : L ap with
    | false => rfl
    | true => rw [(a8 e).1] at hbu; cases hbu
  have hst : L st = false := by
    cases e : L st with
    | false => rfl
    | true => rw [a9 e] at hap; cases hap
  refine ⟨fun j j1 j2 j3 j4 hj => ?_, ?_, ?_, ?_, ?_, ?_, ?_, ?_, ?_⟩
  · rw [updL_ne j1] at hj; rw [updV_ne j1]; exact a1 j j1 j2 j3 j4 hj
  · rw [updL_same]; intro h; cases h
  · intro _ _; rw [updV_same]; exact hv
  · rw [updL_ne (Ne.symm h2), hbu]; intro h; cases h
  · rw [updL_ne (Ne.symm h3), hap]; intro h; cases h
  · rw [updL_ne (Ne.symm h4), hst]; intro h; cases h
  · intro _; exact updL_same _ _
  · rw [updL_ne (Ne.symm h3), hap]; intro h; cases h
  · rw [updL_ne (Ne.symm h4), hst]; intro h; cases h
theorem Apd.build (h : Apd vals ld cl bu ap st P0 P1 P2 P3 E L V w) (hc : L cl = true) (hl : L bu = false) (h2 : bu ≠ cl) (h3 : bu ≠ ap) (h4 : bu ≠ st) : P1 (V cl) w ∧ ∀ (v : Value) (w' : World), P2 v w' → Apd vals ld cl bu ap st P0 P1 P2 P3 E (updL L bu) (updV V bu v) w' := by
  obtain ⟨a1, a2, a3, a4, a5, a6, a7, a8, a9⟩ := h
  have hap : L ap = false := by
    cases e : L ap with
    | false => rfl
    | true => rw [(a8 e).1] at hl; cases hl
  have hst : L st = false := by
    cases e : L st with
    | false => rfl
    | true => rw [a9 e] at hap; cases hap
  refine ⟨a3 hc hl, fun v w' hv => ⟨fun j j1 j2 j3 j4 hj => ?_, ?_, ?_, ?_, ?_, ?_, ?_, ?_, ?_⟩⟩
  · rw [updL_ne j2] at hj; rw [updV_ne j2]; exact a1 j j1 j2 j3 j4 hj
  · rw [updL_ne (Ne.symm h2), hc]; intro h; cases h
  · rw [updL_same]; intro _ h; cases h
  · intro _ _; rw [updV_same]; exact hv
  · rw [updL_ne (Ne.symm h3), hap]; intro h; cases h
  · rw [updL_ne (Ne.symm h4), hst]; intro h; cases h
  · intro _; rw [updL_ne (Ne.symm h2)]; exact hc
  · rw [updL_ne (Ne.symm h3), hap]; intro h; cases h
  · rw [updL_ne (Ne.symm h4), hst]; intro h; cases h
theorem Apd.app (h : Apd vals ld cl bu ap st P0 P1 P2 P3 E L V w) (hb : L bu = true) (hd : L ld = true) (hl : L ap = false) (h1 : ap ≠ cl) (h2 : ap ≠ bu) (h4 : ap ≠ st) (hda : ld ≠ ap) : P2 (V bu) w ∧ ∀ (v : Value) (w' : World), P3 v w' → Apd vals ld cl bu ap st P0 P1 P2 P3 E (updL L ap) (updV V ap v) w' := by
  obtain ⟨a1, a2, a3, a4, a5, a6, a7, a8, a9⟩ := h
  have hst : L st = false := by
    cases e : L st with
    | false => rfl
    | true => rw [a9 e] at hl; cases hl
  refine ⟨a4 hb hl, fun v w' hv => ⟨fun j j1 j2 j3 j4 hj => ?_, ?_, ?_, ?_, ?_, ?_, ?_, ?_, ?_⟩⟩
  · rw [updL_ne j3] at hj; rw [updV_ne j3]; exact a1 j j1 j2 j3 j4 hj
  · rw [updL_ne (Ne.symm h1), a7 hb]; intro h; cases h
  · rw [updL_ne (Ne.symm h2), hb]; intro _ h; cases h
  · rw [updL_same]; intro _ h; cases h
  · intro _ _; rw [updV_same]; exact hv
  · rw [updL_ne (Ne.symm h4), hst]; intro h; cases h
  · rw [updL_ne (Ne.symm h2), updL_ne (Ne.symm h1)]; exact a7
  · intro _; rw [updL_ne (Ne.symm h2), updL_ne hda]; exact ⟨hb, hd⟩
  · rw [updL_ne (Ne.symm h4), hst]; intro h; cases h
theorem Apd.store (h : Apd vals ld cl bu ap st P0 P1 P2 P3 E L V w) (ha : L ap = true) (hl : L st = false) (h1 : st ≠ cl) (h2 : st ≠ bu) (h3 : st ≠ ap) (h4 : ld ≠ st) : P3 (V ap) w ∧ ∀ (v : Value) (w' : World), E w' → Apd vals ld cl bu ap st P0 P1 P2 P3 E (updL L st) (updV V st v) w' := by
  obtain ⟨a1, a2, a3, a4, a5, a6, a7, a8, a9⟩ := h
  obtain ⟨hb, hd⟩ := a8 ha
  refine ⟨a5 ha hl, fun v w' hv => ⟨fun j j1 j2 j3 j4 hj => ?_, ?_, ?_, ?_, ?_, ?_, ?_, ?_, ?_⟩⟩
  · rw [updL_ne j4] at hj; rw [updV_ne j4]; exact a1 j j1 j2 j3 j4 hj
  · rw [updL_ne (Ne.symm h1), a7 hb]; intro h; cases h
  · rw [updL_ne (Ne.symm h2), hb]; intro _ h; cases h
  · rw [updL_ne (Ne.symm h3), ha]; intro _ h; cases h
  · rw [updL_same]; intro _ h; cases h
  · intro _; exact hv
  · rw [updL_ne (Ne.symm h2), updL_ne (Ne.symm h1)]; exact a7
  · rw [updL_ne (Ne.symm h3), updL_ne (Ne.symm h2), updL_ne h4]; exact a8
  · intro _; rw [updL_ne (Ne.symm h3)]; exact ha
theorem Apd.end (h : Apd vals ld cl bu ap st P0 P1 P2 P3 E L V w) (hl : L st = true) : E w := h.2.2.2.2.2.1 hl
end
end Go.Proofs.Ytkehejkjifgieaa
