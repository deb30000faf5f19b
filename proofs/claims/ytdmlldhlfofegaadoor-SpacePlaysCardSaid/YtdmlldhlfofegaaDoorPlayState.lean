/- Where a script on both maps stands. -/
import Derived.Test.YtdmlldhlfofegaaDoorActsKeep
namespace Go.Proofs.YtdmlldhlfofegaaDoor
open Go.RowKit

structure St (w wX : World) (b r7 s10 c m rb rc : Nat) (X1 X : Nat → W64) (U1 : Nat → Bool) (cells : Array Value) : Prop where
  M : MapAt wX b m X1
  R : Blk wX r7 #[.slice (some ⟨rb, 0, none⟩) m rc] 41
  V : RM wX (.agg #[.slice (some ⟨rb, 0, none⟩) m rc]) m U1
  A : Blk wX s10 cells 35
  C : MapAt wX c m X
  L : Below w.heap.size w wX
section
variable {w wX : World} {b r7 s10 c m rb rc : Nat} {X1 X : Nat → W64} {U1 : Nat → Bool} {cells : Array Value}
theorem St.below (h : St w wX b r7 s10 c m rb rc X1 X U1 cells) {w' : World} (hb : Below wX.heap.size wX w') : St w w' b r7 s10 c m rb rc X1 X U1 cells :=
  ⟨Fn.below h.M hb (Fn.lt h.M), h.R.of_block (hb.block _ h.R.lt), h.V.below hb, h.A.of_block (hb.block _ h.A.lt), Fn.below h.C hb (Fn.lt h.C), h.L.trans (hb.mono h.L.size)⟩
theorem St.rb_ne (h : St w wX b r7 s10 c m rb rc X1 X U1 cells) (hm : 0 < m) : rb ≠ b := rm_other h.V hm h.M.len (fun q e => by cases e)
theorem St.mod (h : St w wX b r7 s10 c m rb rc X1 X U1 cells) (hm : 0 < m) {wp : World} {X2 : Nat → W64} (hM : Mod (fun x => x = b) wX wp) (h2 : MapAt wp b m X2) (h3 : b ≠ r7) (h4 : b ≠ s10) (h5 : b ≠ c) (h6 : w.heap.size ≤ b) : St w wp b r7 s10 c m rb rc X2 X U1 cells :=
  ⟨h2, h.R.of_block (hM.block _ h.R.lt (Ne.symm h3)), rm_block h.V hM.size (hM.block _ (by obtain ⟨_, _, e, _, _, h9, _⟩ := h.V; cases e; exact h9) (h.rb_ne hm)), h.A.of_block (hM.block _ h.A.lt (Ne.symm h4)), Fn.mod h.C hM (Ne.symm h5), h.L.trans (hM.below h.L.size (fun k hk e => by omega))⟩
theorem St.set (h : St w wX b r7 s10 c m rb rc X1 X U1 cells) (hm : 0 < m) {rb' rc' : Nat} {U2 : Nat → Bool} (hV : RM wX (.agg #[.slice (some ⟨rb', 0, none⟩) m rc']) m U2) (h3 : b ≠ r7) (h4 : s10 ≠ r7) (h5 : c ≠ r7) (h6 : w.heap.size ≤ r7) :
    St w (wX.setCell ⟨r7, 0, none⟩ (.slice (some ⟨rb', 0, none⟩) m rc')) b r7 s10 c m rb' rc' X1 X U2 cells := by
  have hne : rb' ≠ r7 := rm_other hV hm (h.R.cellv rfl) (fun q e => by cases e)
  exact ⟨Fn.other h.M (Ne.symm h3) _, h.R.set 0 _, rm_block hV (by simp [World.setCell]) (Below.heap_setCell _ _ _ _ hne), h.A.other (Ne.symm h4) _, Fn.other h.C (Ne.symm h5) _,
    (((Mod.of_below h.L (fun x => w.heap.size ≤ x)).setCell (p := ⟨r7, 0, none⟩) (fun _ => h6) _).below (Nat.le_refl _) (fun k hk e => by omega))⟩
theorem Row32.set {p : Option Addr} {l : List Nat} (h : Row32 wX p l) (hR : Blk wX r7 #[.slice (some ⟨rb, 0, none⟩) m rc] 41) (v : Value) : Row32 (wX.setCell ⟨r7, 0, none⟩ v) p l := fun i x hx => by
  obtain ⟨g, h1, h2, h3, h4⟩ := h i x hx
  have hne : g ≠ r7 := by
    rintro rfl
    obtain ⟨y, hy⟩ : ∃ y, l[0]? = some y := ⟨_, List.getElem?_eq_getElem (by have := (List.getElem?_eq_some_iff.1 hx).1; omega)⟩
    obtain ⟨g', e1, _, _, e4⟩ := h 0 y hy
    rw [h1] at e1
    cases e1
    rw [hR.cellv (i := 0) rfl] at e4
    cases Option.some.inj e4
  exact ⟨g, h1, h2, by simpa [World.setCell] using h3, (World.cell?_of_block (w := wX) (Below.heap_setCell _ _ _ _ hne)).trans h4⟩
end
theorem U32s.below {w w' : World} {p : Option Addr} {len : Nat} {l : Nat → Nat} (h : U32s w p len l) (hb : Below w.heap.size w w') : U32s w' p len l := fun i hi => by
  obtain ⟨h0, b, off, e, h1, h2⟩ := h i hi
  exact ⟨h0, b, off, e, Nat.lt_of_lt_of_le h1 hb.size, (hb.cell h1).trans h2⟩
theorem keep_used {m kl j : Nat} {kf : Nat → Nat} (hj : j < m) : keepU kf kl j = used (keepX m kf kl) j := by
  rw [Bool.eq_iff_iff, keepU_iff, used_keep]
  constructor
  · rintro (h | h)
    · exact Or.inl h
    · exact Or.inr ⟨hj, h⟩
  · rintro (h | ⟨_, h⟩)
    · exact Or.inl h
    · exact Or.inr h
theorem keep_tight {m kl : Nat} {kf : Nat → Nat} (hm : 16 ≤ m) : Tight m (keepX m kf kl) := fun j hj _ => by
  cases h : used (keepX m kf kl) j with
  | false => rfl
  | true =>
    rcases (used_keep m kf kl j).1 h with h | ⟨h, _⟩
    · omega
    · omega
theorem keep_lab {m kl : Nat} {kf : Nat → Nat} : Lab (keepX m kf kl) := fun j hj => (used_keep m kf kl j).2 (Or.inl hj)
end Go.Proofs.YtdmlldhlfofegaaDoor
