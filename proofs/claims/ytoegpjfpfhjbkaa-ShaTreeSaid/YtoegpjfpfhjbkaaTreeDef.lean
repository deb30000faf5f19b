/- One hash of many hashes: what it is; a slice of hashes. -/
import Derived.Test.YtoegpjfpfhjbkaaTreeLen
import Derived.Test.YtoegpjfpfhjbkaaInv
namespace Go.Proofs.Ytoegpjfpfhjbkaa
open Go.RowKit Go.ChangeMaps

def bl (B : Nat → W8) : List W8 := (List.range 32).map B
def hv (B : Nat → W8) : Array Value := arr 32 (fun i => .int .u8 (ub (B i)))
def treeB : Nat → Nat → (Nat → Nat → W8) → Nat → W8
  | 0, _, _ => fun _ => 0
  | f + 1, n, X => if n = 0 then fun _ => 0 else if n = 1 then X 0 else shaB (bl (treeB f (half n) X) ++ bl (treeB f (n - half n) (fun i => X (half n + i))))
/-- A slice of n hashes. -/
def Lv (w : World) (p : Option Addr) (n cap : Nat) (X : Nat → Nat → W8) : Prop :=
  n ≤ cap ∧ cap ≤ maxLen ∧ (0 < n → ∃ b off, p = some ⟨b, off, none⟩ ∧ b < w.heap.size ∧ ∀ i, i < n → ∀ j, j < 32 → w.cell? ⟨b, off + 32 * i + j, none⟩ = some (.int .u8 (ub (X i j))))
theorem Lv.below {w w' : World} {p : Option Addr} {n cap : Nat} {X : Nat → Nat → W8} (h : Lv w p n cap X) (hb : Below w.heap.size w w') : Lv w' p n cap X := by
  refine ⟨h.1, h.2.1, fun hn => ?_⟩
  obtain ⟨b, off, h1, h2, h3⟩ := h.2.2 hn
  exact ⟨b, off, h1, Nat.lt_of_lt_of_le h2 hb.size, fun i hi j hj => (hb.cell h2).trans (h3 i hi j hj)⟩
theorem Lv.left {w : World} {p : Option Addr} {n m cap : Nat} {X : Nat → Nat → W8} (h : Lv w p n cap X) (hm : m ≤ n) : Lv w p m cap X :=
  ⟨Nat.le_trans hm h.1, h.2.1, fun h0 => by
    obtain ⟨b, off, h1, h2, h3⟩ := h.2.2 (by omega)
    exact ⟨b, off, h1, h2, fun i hi => h3 i (by omega)⟩⟩
theorem Lv.right {w : World} {b off : Nat} {n m cap : Nat} {X : Nat → Nat → W8} (h : Lv w (some ⟨b, off, none⟩) n cap X) (hm : m < n) : Lv w (some ⟨b, off + m * 32, none⟩) (n - m) (cap - m) (fun i => X (m + i)) :=
  ⟨by have := h.1; omega, by have := h.2.1; omega, fun h0 => by
    obtain ⟨b', off', h1, h2, h3⟩ := h.2.2 (by omega)
    cases h1
    exact ⟨b, off + m * 32, rfl, h2, fun i hi j hj => by
      have := h3 (m + i) (by omega) j hj
      rwa [show off + 32 * (m + i) + j = off + m * 32 + 32 * i + j by omega] at this⟩⟩
theorem Lv.range {w : World} {b off : Nat} {n cap : Nat} {X : Nat → Nat → W8} (h : Lv w (some ⟨b, off, none⟩) n cap X) (hn : 0 < n) : w.rangeAt b off (hv (X 0)).toList := by
  obtain ⟨b', off', h1, h2, h3⟩ := h.2.2 hn
  cases h1
  intro j v hv
  unfold Go.Proofs.Ytoegpjfpfhjbkaa.hv arr at hv
  simp only [List.getElem?_map] at hv
  have hj : j < 32 := by
    by_cases e : j < 32
    · exact e
    · rw [List.getElem?_eq_none (by simp; omega)] at hv; cases hv
  rw [List.getElem?_range hj] at hv
  simp only [Option.map_some] at hv
  have := h3 0 hn j hj
  rw [← hv]
  simpa using this
theorem bl_length (B : Nat → W8) : (bl B).length = 32 := by simp [bl]
theorem bl_at (B : Nat → W8) {i : Nat} (h : i < 32) : (bl B).getD i 0 = B i := by simp [bl, List.getD_eq_getElem?_getD, h]
/-- A block of a hash's cells, as a slice of bytes. -/
theorem bytes_blk {w : World} {g : Nat} {T : TypeId} {B : Nat → W8} (F : Fn w g T 32 (fun i => .int .u8 (ub (B i)))) : Bytes w (.slice (some ⟨g, 0, none⟩) 32 32) (bl B) :=
  ⟨_, 32, by rw [bl_length], fun _ => ⟨g, 0, rfl, F.lt, by rw [bl_length]; exact Nat.le_refl _, by simp [maxLen], fun i hi => by
    rw [bl_length] at hi
    rw [bl_at B hi, Nat.zero_add]
    exact F.cell hi⟩⟩
/-- Two blocks that come to be and are filled, in whatever order. -/
def Two (w0 : World) (vals : List Value) (ka kb sa sb : Nat) (A B : Nat → W8) (L : Nat → Bool) (V : Nat → Value) (w : World) : Prop :=
  Below w0.heap.size w0 w ∧ (∀ j, j ≠ ka → j ≠ kb → L j = true → V j = vals.getD j undef) ∧
  (L ka = true → ∃ g, V ka = .pointer (some ⟨g, 0, none⟩) ∧ w0.heap.size ≤ g ∧ Fn w g 23 32 (fun i => .int .u8 (if L sa = true then ub (A i) else 0))) ∧
  (L kb = true → ∃ g, V kb = .pointer (some ⟨g, 0, none⟩) ∧ w0.heap.size ≤ g ∧ Fn w g 23 32 (fun i => .int .u8 (if L sb = true then ub (B i) else 0))) ∧
  (L ka = true → L kb = true → V ka ≠ V kb) ∧ (L sa = true → L ka = true) ∧ (L sb = true → L kb = true)
section
variable {w0 : World} {vals : List Value} {ka kb sa sb : Nat} {A B : Nat → W8} {L : Nat → Bool} {V : Nat → Value} {w : World}
theorem Two.val (h : Two w0 vals ka kb sa sb A B L V w) {k : Nat} {v : Value} {w' : World} (hb : Below w.heap.size w w') (ha : k ≠ ka) (hb2 : k ≠ kb) (hsa : k ≠ sa) (hsb : k ≠ sb) (hv : v = vals.getD k undef) :
    Two w0 vals ka kb sa sb A B (updL L k) (updV V k v) w' := by
  obtain ⟨h1, h2, h3, h4, h5, h6, h7⟩ := h
  refine ⟨h1.trans (hb.mono h1.size), fun j ja jb hj => ?_, fun hj => ?_, fun hj => ?_, fun hj hj' => ?_, fun hj => ?_, fun hj => ?_⟩
  · by_cases e : j = k
    · subst e; rw [updV_same]; exact hv
    · rw [updL_ne e] at hj; rw [updV_ne e]; exact h2 j ja jb hj
  · rw [updL_ne (Ne.symm ha)] at hj
    rw [updV_ne (Ne.symm ha), updL_ne (Ne.symm hsa)]
    obtain ⟨g, e1, e2, e3⟩ := h3 hj
    exact ⟨g, e1, e2, e3.below hb e3.lt⟩
  · rw [updL_ne (Ne.symm hb2)] at hj
    rw [updV_ne (Ne.symm hb2), updL_ne (Ne.symm hsb)]
    obtain ⟨g, e1, e2, e3⟩ := h4 hj
    exact ⟨g, e1, e2, e3.below hb e3.lt⟩
  · rw [updL_ne (Ne.symm ha)] at hj
    rw [updL_ne (Ne.symm hb2)] at hj'
    rw [updV_ne (Ne.symm ha), updV_ne (Ne.symm hb2)]
    exact h5 hj hj'
  · rw [updL_ne (Ne.symm hsa)] at hj; rw [updL_ne (Ne.symm ha)]; exact h6 hj
  · rw [updL_ne (Ne.symm hsb)] at hj; rw [updL_ne (Ne.symm hb2)]; exact h7 hj
theorem Two.swap (h : Two w0 vals ka kb sa sb A B L V w) : Two w0 vals kb ka sb sa B A L V w :=
  ⟨h.1, fun j a b => h.2.1 j b a, h.2.2.2.1, h.2.2.1, fun a b e => h.2.2.2.2.1 b a e.symm, h.2.2.2.2.2.2, h.2.2.2.2.2.1⟩
theorem Two.make (h : Two w0 vals ka kb sa sb A B L V w) (hk : L ka = false) (hab : ka ≠ kb) (hsa : ka ≠ sa) (hsb : ka ≠ sb) :
    Two w0 vals ka kb sa sb A B (updL L ka) (updV V ka (.pointer (some ⟨w.heap.size, 0, none⟩))) (w.alloc (.cells (arr 32 (fun _ => .int .u8 0)) 23)) := by
  obtain ⟨h1, h2, h3, h4, h5, h6, h7⟩ := h
  have hz := h1.size
  have hn : L sa = false := by
    cases e : L sa with
    | false => rfl
    | true => rw [h6 e] at hk; cases hk
  refine ⟨h1.alloc (by simpa using hz) _, fun j ja jb hj => ?_, fun hj => ?_, fun hj => ?_, fun hj hj' => ?_, fun _ => updL_same _ _, fun hj => ?_⟩
  · rw [updL_ne ja] at hj; rw [updV_ne ja]; exact h2 j ja jb hj
  · refine ⟨_, updV_same _ _ _, hz, ?_⟩
    rw [updL_ne (Ne.symm hsa), hn]
    exact Fn.arr w _ 32 _
  · rw [updL_ne (Ne.symm hab)] at hj
    rw [updV_ne (Ne.symm hab), updL_ne (Ne.symm hsb)]
    obtain ⟨g, e1, e2, e3⟩ := h4 hj
    exact ⟨g, e1, e2, e3.alloc _⟩
  · rw [updL_ne (Ne.symm hab)] at hj'
    rw [updV_same, updV_ne (Ne.symm hab)]
    obtain ⟨g, e1, e2, e3⟩ := h4 hj'
    rw [e1]
    intro e
    cases e
    exact absurd e3.lt (Nat.lt_irrefl _)
  · rw [updL_ne (Ne.symm hsb)] at hj; rw [updL_ne (Ne.symm hab)]; exact h7 hj
theorem Two.fill (h : Two w0 vals ka kb sa sb A B L V w) (hl : L ka = true) (hak : sa ≠ ka) (hbk : sa ≠ kb) (hss : sa ≠ sb) (hv0 : undef = vals.getD sa undef) :
    ∃ g, V ka = .pointer (some ⟨g, 0, none⟩) ∧ w.there g 0 (hv A).size ∧ Two w0 vals ka kb sa sb A B (updL L sa) (updV V sa undef) (w.setCells g 0 (hv A).toList) := by
  obtain ⟨h1, h2, h3, h4, h5, h6, h7⟩ := h
  obtain ⟨g, e1, e2, e3⟩ := h3 hl
  refine ⟨g, e1, e3.there 0 _ (by unfold hv; rw [arr_size]; exact Nat.le_refl _), ?_, fun j ja jb hj => ?_, fun hj => ?_, fun hj => ?_, fun hj hj' => ?_, fun _ => ?_, fun hj => ?_⟩
  · have M : Mod (fun k => k = g) w (w.setCells g 0 (hv A).toList) := Mod.setCells _ 0 w (Mod.refl _ w) (fun _ => rfl)
    exact h1.trans (M.below h1.size (fun c hc e => by omega))
  · by_cases e : j = sa
    · subst e; rw [updV_same]; exact hv0
    · rw [updL_ne e] at hj; rw [updV_ne e]; exact h2 j ja jb hj
  · rw [updV_ne (Ne.symm hak), updL_same]
    exact ⟨g, e1, e2, by simpa [hv] using e3.storeAll (fun i => .int .u8 (ub (A i)))⟩
  · rw [updL_ne (Ne.symm hbk)] at hj
    rw [updV_ne (Ne.symm hbk), updL_ne (Ne.symm hss)]
    obtain ⟨g', f1, f2, f3⟩ := h4 hj
    refine ⟨g', f1, f2, f3.setCells_other _ (fun e => h5 hl hj ?_)⟩
    rw [e1, f1, e]
  · rw [updL_ne (Ne.symm hak)] at hj
    rw [updL_ne (Ne.symm hbk)] at hj'
    rw [updV_ne (Ne.symm hak), updV_ne (Ne.symm hbk)]
    exact h5 hj hj'
  · rw [updL_ne (Ne.symm hak)]; exact hl
  · rw [updL_ne (Ne.symm hss)] at hj; rw [updL_ne (Ne.symm hbk)]; exact h7 hj
theorem run_store_hash {ρ : Operand → Value} {o : Oper} {x y : Operand} {g : Nat} {A : Nat → W8} {w : World} (ho : o.op = .store 23 x y) (hx : ρ x = .pointer (some ⟨g, 0, none⟩)) (hy : ρ y = .agg (hv A)) (ht : w.there g 0 (hv A).size) :
    (execOp ρ o).run Try.prog w = .ok .skip (w.setCells g 0 (hv A).toList) := by
  unfold execOp
  simp only [ho, hx, hy, Instr.storeAt, Instr.sureAddr, Sem.run_bind, Sem.run_pure, Result.andThen_ok, run_storeVar_mid (P := Try.prog) w g 0 23 (hv A) ht (by unfold hv; rw [arr_size]; kernel_rfl) one_arr]
theorem Two.start (w : World) (vals : List Value) (ka kb sa sb : Nat) (A B : Nat → W8) : Two w vals ka kb sa sb A B (fun _ => false) (fun _ => undef) w.drew :=
  ⟨(Below.refl _ _).drew, fun _ _ _ h => Bool.noConfusion h, fun h => Bool.noConfusion h, fun h => Bool.noConfusion h, fun h => Bool.noConfusion h, fun h => Bool.noConfusion h, fun h => Bool.noConfusion h⟩
end
end Go.Proofs.Ytoegpjfpfhjbkaa
