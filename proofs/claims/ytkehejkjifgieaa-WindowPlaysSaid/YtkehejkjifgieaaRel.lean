/- A region that draws its order, each operation told once, whatever came up before it: what it waits for has the values that are told of it. Conditions: each operation waits for earlier ones alone, and no two write one slot ('soundOps'). -/
import Derived.Test.YtkehejkjifgieaaBase
import Derived.Still
import Derived.BigQuiet
namespace Go.Proofs.Ytkehejkjifgieaa
open Go.RowKit

def waits (ops : Array Oper) (k j : Nat) : Prop := ∃ o, ops[k]? = some o ∧ ∃ e ∈ o.after, Region.binds .any e = true ∧ e.on = j
/-- What comes of an operation: a value, and a world. -/
def outcome (P : Program) (K : Value → World → Prop) : Result Next → Prop
  | .ok (.value v) w => K v w
  | .ok .skip w => K undef w
  | .ok (.enter f args) w => Calls P f args w fun e w' => ∃ v, e = .returned v ∧ K v w'
  | _ => False
def lexF : List Oper → (Nat → Value) → Nat → Act → Act
  | [], _, _, a => a
  | o :: os, V, k, a => lexF os V (k + 1) (a.put o.dst (V k))
/-- Each operation waits for earlier ones alone; no two write one slot; each slot is there. -/
def soundOps (ops : Array Oper) (n : Nat) : Bool :=
  ((List.range ops.size).all fun i => match ops[i]? with
    | none => false
    | some o => (o.after.toList.all fun e => !Region.binds .any e || decide (e.on < i)) && (match o.dst with | none => true | some s => decide (s < n)) &&
      ((List.range ops.size).all fun j => j == i || match ops[j]? with | none => false | some o' => o.dst.isNone || o'.dst != o.dst))

section
variable {P : Program} {ops : Array Oper} {a0 : Act} {B : World → Prop} {E : World → World → Prop} {φ : Nat → Value → World → Prop}

structure Inv (ops : Array Oper) (a0 : Act) (B : World → Prop) (φ : Nat → Value → World → Prop) (listed : Array Bool) (a : Act) (w : World) : Prop where
  size : listed.size = ops.size
  down : ∀ k o, ops[k]? = some o → listed.getD k false = true → ∀ e ∈ o.after, Region.binds .any e = true → listed.getD e.on false = true
  base : B w
  defers : a.defers = a0.defers
  tsize : a.tmps.size = a0.tmps.size
  vals : ∃ V : Nat → Value, (∀ j, j < ops.size → listed.getD j false = true → φ j (V j) w) ∧ (∀ j o s, ops[j]? = some o → o.dst = some s → listed.getD j false = true → a.tmps[s]? = some (V j)) ∧
    ∀ s, (∀ j o, ops[j]? = some o → o.dst = some s → listed.getD j false = false) → a.tmps[s]? = a0.tmps[s]?

theorem soundOps_after {n : Nat} (h : soundOps ops n = true) {i : Nat} {o : Oper} (ho : ops[i]? = some o) : (∀ e ∈ o.after, Region.binds .any e = true → e.on < i) ∧ (∀ s, o.dst = some s → s < n) ∧ ∀ j o', ops[j]? = some o' → j ≠ i → ∀ s, o.dst = some s → o'.dst ≠ some s := by
  have hi : i < ops.size := (Array.getElem?_eq_some_iff.1 ho).1
  have h1 := List.all_eq_true.1 h i (List.mem_range.2 hi)
  rw [ho] at h1
  simp only [Bool.and_eq_true] at h1
  obtain ⟨⟨h2, h3⟩, h4⟩ := h1
  refine ⟨fun e he hb => ?_, fun s hs => ?_, fun j o' ho' hji s hs hs' => ?_⟩
  · have := List.all_eq_true.1 h2 e (by simpa using he)
    rw [hb] at this
    simpa using this
  · rw [hs] at h3
    simpa using h3
  · have := List.all_eq_true.1 h4 j (List.mem_range.2 (Array.getElem?_eq_some_iff.1 ho').1)
    rw [ho'] at this
    simp [hs, hs'] at this
    exact hji this
theorem getD_set (l : Array Bool) (i j : Nat) (hi : i < l.size) : (l.setIfInBounds i true).getD j false = if j = i then true else l.getD j false := by
  simp only [Array.getD_eq_getD_getElem?, Array.getElem?_setIfInBounds]
  by_cases e : i = j
  · subst e; simp [hi]
  · rw [if_neg e, if_neg (Ne.symm e)]
theorem Inv.step {n : Nat} (hs : soundOps ops n = true) (hn : n = a0.tmps.size) (hmono : ∀ j v w w', φ j v w → E w w' → φ j v w') {listed : Array Bool} {a : Act} {w w' : World} (h : Inv ops a0 B φ listed a w) {i : Nat} {o : Oper} (ho : ops[i]? = some o)
    (hun : listed.getD i false = false) (hdep : ∀ e ∈ o.after, Region.binds .any e = true → listed.getD e.on false = true) {v : Value} (hv : φ i v w') (hB : B w') (hE : E w w') : Inv ops a0 B φ (listed.setIfInBounds i true) (a.put o.dst v) w' := by
  obtain ⟨V, h1, h2, h3⟩ := h.vals
  have hi : i < listed.size := by rw [h.size]; exact (Array.getElem?_eq_some_iff.1 ho).1
  obtain ⟨_, hlt, hne⟩ := soundOps_after hs ho
  refine ⟨by simpa using h.size, fun k ok hk hl e he hb => ?_, hB, ?_, ?_, fun j => if j = i then v else V j, fun j hj hl => ?_, fun j oj s hj hd hl => ?_, fun s hall => ?_⟩
  · rw [getD_set _ _ _ hi] at hl ⊢
    by_cases e1 : e.on = i
    · rw [if_pos e1]
    · rw [if_neg e1]
      by_cases e2 : k = i
      · subst e2
        rw [ho] at hk; cases hk
        exact hdep e he hb
      · rw [if_neg e2] at hl
        exact h.down k ok hk hl e he hb
  · unfold Act.put; cases o.dst <;> exact h.defers
  · unfold Act.put; cases o.dst <;> simp [h.tsize]
  · rw [getD_set _ _ _ hi] at hl
    dsimp only
    by_cases e1 : j = i
    · subst e1; rw [if_pos rfl]; exact hv
    · rw [if_neg e1] at hl ⊢
      exact hmono _ _ _ _ (h1 j hj hl) hE
  · rw [getD_set _ _ _ hi] at hl
    dsimp only
    by_cases e1 : j = i
    · subst e1
      rw [ho] at hj; cases hj
      rw [if_pos rfl]
      unfold Act.put
      rw [hd]
      have : s < a.tmps.size := by rw [h.tsize, ← hn]; exact hlt s hd
      simp [this]
    · rw [if_neg e1] at hl ⊢
      rw [← h2 j oj s hj hd hl]
      unfold Act.put
      cases hd' : o.dst with
      | none => rfl
      | some d =>
        have : d ≠ s := fun e => by subst e; exact hne j oj hj e1 d hd' hd
        simp [this]
  · have hnot : o.dst ≠ some s := fun e => by
      have := hall i o ho e
      rw [getD_set _ _ _ hi, if_pos rfl] at this
      cases this
    rw [← h3 s (fun j oj hj hd => by
      have := hall j oj hj hd
      rw [getD_set _ _ _ hi] at this
      by_cases e1 : j = i
      · subst e1; rw [ho] at hj; cases hj; exact absurd hd hnot
      · rwa [if_neg e1] at this)]
    unfold Act.put
    cases hd' : o.dst with
    | none => rfl
    | some d =>
      have : d ≠ s := fun e => hnot (by rw [hd', e])
      simp [this]

theorem count_set : ∀ (l : List Bool) (i : Nat), l[i]? = some false → (l.set i true).count false + 1 = l.count false
  | [], i, h => by simp at h
  | b :: l, 0, h => by
    simp at h; subst h; simp
  | b :: l, i + 1, h => by
    have := count_set l i (by simpa using h)
    simp only [List.set_cons_succ, List.count_cons]
    omega
theorem all_listed {n : Nat} (hs : soundOps ops n = true) {listed : Array Bool} (hz : listed.size = ops.size) (hr : Region.ready .any ops listed = []) : ∀ i, i < ops.size → listed.getD i false = true := by
  intro i
  induction i using Nat.strongRecOn with
  | _ i ih =>
    intro hi
    obtain ⟨o, ho⟩ : ∃ o, ops[i]? = some o := ⟨_, Array.getElem?_eq_getElem hi⟩
    cases hl : listed.getD i false with
    | true => rfl
    | false =>
      have hmem : i ∈ Region.ready .any ops listed := by
        refine mem_ready.2 ⟨?_, o, ho, fun e he hb => ?_⟩
        · simp only [Array.getD_eq_getD_getElem?] at hl ⊢
          rw [Array.getElem?_eq_getElem (by omega)] at hl ⊢
          simpa using hl
        · have hlt := (soundOps_after hs ho).1 e he hb
          exact ih _ hlt (by omega)
      rw [hr] at hmem
      cases hmem
theorem wpOp_of_step {n : Nat} (hs : soundOps ops n = true) (hn : n = a0.tmps.size) (hmono : ∀ j v w w', φ j v w → E w w' → φ j v w') (hrefl : ∀ w, E w w) {Q' : Exit → Act → World → Prop}
    (hop : ∀ k o, ops[k]? = some o → ∀ (V : Nat → Value) (a : Act) (w : World), B w → (∀ j oj, ops[j]? = some oj → waits ops k j → φ j (V j) w ∧ ∀ s, oj.dst = some s → a.tmps[s]? = some (V j)) →
      (∀ s, (∀ j oj, ops[j]? = some oj → oj.dst = some s → j = k ∨ waits ops j k) → a.tmps[s]? = a0.tmps[s]?) →
      if Region.wanted o (yielded ops a.tmps) = true then outcome P (fun v w' => φ k v w' ∧ B w' ∧ E w w') ((execOp a.eval o).run P w) else φ k undef w)
    {listed : Array Bool} {a : Act} {w : World} (h : Inv ops a0 B φ listed a w) {i : Nat} (hi : i ∈ Region.ready .any ops listed) :
    wpOp P ops Q' i (fun a' w' => Inv ops a0 B φ (listed.setIfInBounds i true) a' w') a w := by
  obtain ⟨hun, o, ho, hdep⟩ := mem_ready.1 hi
  have hio : i < ops.size := (Array.getElem?_eq_some_iff.1 ho).1
  have hun' : listed.getD i false = false := by
    simp only [Array.getD_eq_getD_getElem?] at hun ⊢
    rw [Array.getElem?_eq_getElem (by rw [h.size]; exact hio)] at hun ⊢
    simpa using hun
  obtain ⟨V, h1, h2, h3⟩ := h.vals
  have hk := hop i o ho V a w h.base (fun j oj hj hw => by
      obtain ⟨o', ho', e, he, hb, rfl⟩ := hw
      rw [ho] at ho'; cases ho'
      have hl := hdep e he hb
      exact ⟨h1 _ (Array.getElem?_eq_some_iff.1 hj).1 hl, fun s hd => h2 _ oj s hj hd hl⟩)
    (fun s hall => h3 s (fun j oj hj hd => by
      rcases hall j oj hj hd with rfl | hw
      · exact hun'
      · obtain ⟨o', ho', e, he, hb, rfl⟩ := hw
        cases hl : listed.getD j false with
        | false => rfl
        | true => rw [h.down j o' ho' hl e he hb] at hun'; cases hun'))
  unfold wpOp
  simp only [ho]
  split
  · rename_i hw
    rw [if_pos hw] at hk
    refine Or.inl ?_
    unfold Oper.wp
    generalize (execOp a.eval o).run P w = r at hk
    cases r with
    | halt x w' => simp only [outcome] at hk
    | ok nx w' =>
      cases nx <;> simp only [outcome] at hk <;> simp only [Oper.upon]
      case value v => exact h.step hs hn hmono ho hun' hdep hk.1 hk.2.1 hk.2.2
      case skip => exact h.step hs hn hmono ho hun' hdep hk.1 hk.2.1 hk.2.2
      case enter f args =>
        refine hk.mono fun e w'' ⟨v, he, hv⟩ => ?_
        subst he
        exact h.step hs hn hmono ho hun' hdep hv.1 hv.2.1 hv.2.2
  · rename_i hw
    rw [if_neg hw] at hk
    exact h.step hs hn hmono ho hun' hdep hk h.base (hrefl w)
theorem wpAny_of_inv {n : Nat} (hs : soundOps ops n = true) {Q' : Exit → Act → World → Prop}
    (hstep : ∀ (listed : Array Bool) (a : Act) (w : World), Inv ops a0 B φ listed a w → ∀ i ∈ Region.ready .any ops listed, wpOp P ops Q' i (fun a' w' => Inv ops a0 B φ (listed.setIfInBounds i true) a' w') a w)
    (hend : ∀ (listed : Array Bool) (a : Act) (w : World), Inv ops a0 B φ listed a w → (∀ i, i < ops.size → listed.getD i false = true) → Q' .normal a w) :
    ∀ (fuel : Nat) (listed : Array Bool) (a : Act) (w : World), listed.toList.count false ≤ fuel → Inv ops a0 B φ listed a w → wpAny P .any ops Q' fuel listed a w
  | 0, listed, a, w, hc, h => by
    have hall : ∀ i, i < ops.size → listed.getD i false = true := fun i hi => by
      have hz := h.size
      cases hl : listed.getD i false with
      | true => rfl
      | false =>
        have hmem : false ∈ listed.toList := by
          simp only [Array.getD_eq_getD_getElem?] at hl
          rw [Array.getElem?_eq_getElem (by omega)] at hl
          have : listed[i]'(by omega) = false := by simpa using hl
          rw [← this]
          exact Array.getElem_mem_toList _
        have := List.count_pos_iff.2 hmem
        omega
    have hr : Region.ready .any ops listed = [] := by
      apply List.eq_nil_iff_forall_not_mem.2
      intro i hi
      obtain ⟨hun, o, ho, _⟩ := mem_ready.1 hi
      have hio : i < ops.size := (Array.getElem?_eq_some_iff.1 ho).1
      have := hall i hio
      simp only [Array.getD_eq_getD_getElem?] at hun this
      rw [Array.getElem?_eq_getElem (by rw [h.size]; exact hio)] at hun this
      simp at hun this
      rw [hun] at this; cases this
    exact ⟨hr, hend listed a w h hall⟩
  | fuel + 1, listed, a, w, hc, h => by
    refine ⟨fun hr => hend listed a w h (all_listed hs h.size hr), fun i hi => ?_⟩
    obtain ⟨hun, o, ho, _⟩ := mem_ready.1 hi
    have hio : i < listed.size := by rw [h.size]; exact (Array.getElem?_eq_some_iff.1 ho).1
    have hcount : (listed.setIfInBounds i true).toList.count false ≤ fuel := by
      have hfi : listed.toList[i]? = some false := by
        simp only [Array.getD_eq_getD_getElem?] at hun
        rw [Array.getElem?_eq_getElem hio] at hun
        rw [Array.getElem?_toList, Array.getElem?_eq_getElem hio]
        simpa using hun
      have := count_set listed.toList i hfi
      rw [Array.toList_setIfInBounds]; omega
    exact wpOp_mono (fun a' w' h' => wpAny_of_inv hs hstep hend fuel _ a' w' hcount h') (hstep listed a w h i hi)

theorem lexF_other (V : Nat → Value) : ∀ (l : List Oper) (k : Nat) (a : Act) (s : Nat), (∀ (i : Nat) (o : Oper), l[i]? = some o → o.dst ≠ some s) → (lexF l V k a).tmps[s]? = a.tmps[s]?
  | [], _, _, _, _ => rfl
  | o :: l, k, a, s, h => by
    show (lexF l V (k + 1) (a.put o.dst (V k))).tmps[s]? = _
    rw [lexF_other V l (k + 1) _ s (fun i o' hi => h (i + 1) o' (by simpa using hi))]
    have h0 := h 0 o rfl
    unfold Act.put
    cases hd : o.dst with
    | none => rfl
    | some d =>
      have : d ≠ s := fun e => h0 (by rw [hd, e])
      simp [this]
theorem lexF_size (V : Nat → Value) : ∀ (l : List Oper) (k : Nat) (a : Act), (lexF l V k a).tmps.size = a.tmps.size ∧ (lexF l V k a).defers = a.defers
  | [], _, _ => ⟨rfl, rfl⟩
  | o :: l, k, a => by
    have := lexF_size V l (k + 1) (a.put o.dst (V k))
    refine ⟨this.1.trans ?_, this.2.trans ?_⟩
    · unfold Act.put; cases o.dst <;> simp
    · unfold Act.put; cases o.dst <;> rfl
theorem lexF_at (V : Nat → Value) : ∀ (l : List Oper) (k : Nat) (a : Act) (i : Nat) (o : Oper) (s : Nat), l[i]? = some o → o.dst = some s → s < a.tmps.size → (∀ (j : Nat) (o' : Oper), l[j]? = some o' → j ≠ i → o'.dst ≠ some s) →
    (lexF l V k a).tmps[s]? = some (V (k + i))
  | [], _, _, i, o, s, hi, _, _, _ => by simp at hi
  | o0 :: l, k, a, 0, o, s, hi, hd, hs, hu => by
    have e : o0 = o := by simpa using hi
    subst e
    show (lexF l V (k + 1) (a.put o0.dst (V k))).tmps[s]? = _
    rw [lexF_other V l (k + 1) _ s (fun j o' hj => hu (j + 1) o' (by simpa using hj) (by omega))]
    unfold Act.put
    rw [hd]
    simp [hs]
  | o0 :: l, k, a, i + 1, o, s, hi, hd, hs, hu => by
    show (lexF l V (k + 1) (a.put o0.dst (V k))).tmps[s]? = _
    rw [lexF_at V l (k + 1) _ i o s (by simpa using hi) hd (by unfold Act.put; cases o0.dst <;> simpa using hs) (fun j o' hj hne => hu (j + 1) o' (by simpa using hj) (by omega))]
    rw [show k + 1 + i = k + (i + 1) by omega]
theorem act_ext {a b : Act} (h1 : a.defers = b.defers) (h2 : ∀ s : Nat, a.tmps[s]? = b.tmps[s]?) : a = b := by
  cases a; cases b
  simp only at h1 h2
  subst h1
  congr 1
  exact Array.ext_getElem? h2
theorem final_act {n : Nat} (hs : soundOps ops n = true) (hn : n = a0.tmps.size) {listed : Array Bool} {a : Act} {w : World} (h : Inv ops a0 B φ listed a w) (hall : ∀ i, i < ops.size → listed.getD i false = true) :
    ∃ V : Nat → Value, (∀ j, j < ops.size → φ j (V j) w) ∧ a = lexF ops.toList V 0 a0 := by
  obtain ⟨V, h1, h2, h3⟩ := h.vals
  refine ⟨V, fun j hj => h1 j hj (hall j hj), act_ext (h.defers.trans (lexF_size V _ _ _).2.symm) (fun s => ?_)⟩
  by_cases hx : ∃ (j : Nat) (o : Oper), ops[j]? = some o ∧ o.dst = some s
  · obtain ⟨j, o, hj, hd⟩ := hx
    have hjs := (Array.getElem?_eq_some_iff.1 hj).1
    obtain ⟨_, hlt, hne⟩ := soundOps_after hs hj
    rw [h2 j o s hj hd (hall j hjs), lexF_at V ops.toList 0 a0 j o s (by rwa [Array.getElem?_toList]) hd (by rw [← hn]; exact hlt s hd) (fun k o' hk hkj => hne k o' (by rwa [Array.getElem?_toList] at hk) hkj s hd), Nat.zero_add]
  · rw [h3 s (fun j o hj hd => absurd ⟨j, o, hj, hd⟩ hx), lexF_other V ops.toList 0 a0 s (fun i o hi hd => hx ⟨i, o, by rwa [Array.getElem?_toList] at hi, hd⟩)]

/-! What is told of each operation, in the words of a walk. -/
def waitsB (ops : Array Oper) (k j : Nat) : Bool := match ops[k]? with
  | none => false
  | some o => o.after.toList.any fun e => Region.binds .any e && e.on == j
def dstOf (ops : Array Oper) (j : Nat) : Option Tmp := (ops[j]?).bind (·.dst)
def baseB (ops : Array Oper) (k s : Nat) : Bool := (List.range ops.size).all fun j => dstOf ops j != some s || j == k || waitsB ops j k
/-- Each guard is one that the operation waits for, and has a slot. -/
def soundGuards (ops : Array Oper) : Bool := (List.range ops.size).all fun k => match ops[k]? with
  | none => false
  | some o => match o.guard with
    | none => true
    | some (g, _) => waitsB ops k g && (dstOf ops g).isSome
theorem waits_of {k j : Nat} (h : waitsB ops k j = true) : waits ops k j := by
  unfold waitsB at h
  cases hk : ops[k]? with
  | none => rw [hk] at h; cases h
  | some o =>
    rw [hk] at h
    obtain ⟨e, he, h2⟩ := List.any_eq_true.1 h
    simp only [Bool.and_eq_true, beq_iff_eq] at h2
    exact ⟨o, hk, e, by simpa using he, h2.1, h2.2⟩
def OpOk (P : Program) (ops : Array Oper) (a0 : Act) (B : World → Prop) (E : World → World → Prop) (φ : Nat → Value → World → Prop) (k : Nat) (o : Oper) : Prop :=
  ∀ (V : Nat → Value) (ρ : Operand → Value) (w : World), B w → (∀ v, ρ (.const v) = v) → (∀ f, ρ (.func f) = .func (.func f) #[] #[]) → (∀ j, waitsB ops k j = true → ∀ s, dstOf ops j = some s → φ j (V j) w ∧ ρ (.tmp s) = V j) →
    (∀ s, baseB ops k s = true → ρ (.tmp s) = a0.tmps.getD s undef) →
    match o.guard with
    | none => outcome P (fun v w' => φ k v w' ∧ B w' ∧ E w w') ((execOp ρ o).run P w)
    | some (g, b) => (V g = .bool b ∧ outcome P (fun v w' => φ k v w' ∧ B w' ∧ E w w') ((execOp ρ o).run P w)) ∨ (V g ≠ .bool b ∧ φ k undef w)
def AllOps (T : Nat → Oper → Prop) : List Oper → Nat → Prop
  | [], _ => True
  | o :: os, k => T k o ∧ AllOps T os (k + 1)
theorem AllOps.at {T : Nat → Oper → Prop} : ∀ {l : List Oper} {k : Nat}, AllOps T l k → ∀ (i : Nat) (o : Oper), l[i]? = some o → T (k + i) o
  | [], _, _, i, o, h => by simp at h
  | o0 :: l, k, h, 0, o, hi => by
    have e : o0 = o := by simpa using hi
    subst e; exact h.1
  | o0 :: l, k, h, i + 1, o, hi => by
    have := AllOps.at h.2 i o (by simpa using hi)
    rwa [show k + 1 + i = k + (i + 1) by omega] at this
theorem region_rel {id : Nat} {Q : Exit → Act → World → Prop} {w : World} {n : Nat} {l : List Oper} (hm : P.follows .mixedOrders = true) (hs : soundOps l.toArray n = true) (hg : soundGuards l.toArray = true) (hn : n = a0.tmps.size)
    (hmono : ∀ j v w w', φ j v w → E w w' → φ j v w') (hrefl : ∀ w, E w w) (hB : B w.drew) (hop : AllOps (OpOk P l.toArray a0 B E φ) l 0)
    (hend : ∀ V w', B w' → (∀ j, j < l.length → φ j (V j) w') → Q .normal (lexF l V 0 a0) w') : (Code.region id l.toArray true).wp P Q a0 w := by
  refine wp_region_any hm (wpAny_of_inv (B := B) (φ := φ) (a0 := a0) hs (fun listed a w h i hi => wpOp_of_step (E := E) hs hn hmono hrefl (fun k o ho V a w hB hdep hbase => ?_) h hi) (fun listed a w h hall => ?_) _ _ _ _ ?_ ?_)
  · have hk := hop.at k o (by simpa using ho)
    rw [Nat.zero_add] at hk
    have slot : ∀ (s : Nat) (v : Value), a.tmps[s]? = some v → a.eval (.tmp s) = v := fun s v h => by
      show a.tmps.getD s undef = v
      rw [Array.getD_eq_getD_getElem?, h]; rfl
    have hk2 := hk V a.eval w hB (fun _ => rfl) (fun _ => rfl) (fun j hw s hd => by
        unfold dstOf at hd
        cases hj : l.toArray[j]? with
        | none => rw [hj] at hd; cases hd
        | some oj =>
          rw [hj] at hd
          obtain ⟨f1, f2⟩ := hdep j oj hj (waits_of hw)
          exact ⟨f1, slot s _ (f2 s hd)⟩)
      (fun s hb => by
        show a.tmps.getD s undef = _
        rw [Array.getD_eq_getD_getElem?, Array.getD_eq_getD_getElem?, hbase s (fun j oj hj hd => by
          have := List.all_eq_true.1 hb j (List.mem_range.2 (Array.getElem?_eq_some_iff.1 hj).1)
          unfold dstOf at this
          rw [hj] at this
          simp [hd] at this
          rcases this with h | h
          · exact Or.inl h
          · exact Or.inr (waits_of h))])
    unfold Region.wanted
    cases hgd : o.guard with
    | none =>
      rw [hgd] at hk2
      simpa using hk2
    | some gb =>
      obtain ⟨g, b⟩ := gb
      rw [hgd] at hk2
      have hgk := List.all_eq_true.1 hg k (List.mem_range.2 (Array.getElem?_eq_some_iff.1 ho).1)
      rw [ho] at hgk
      simp only [hgd, Bool.and_eq_true] at hgk
      obtain ⟨s, hd⟩ := Option.isSome_iff_exists.1 hgk.2
      have hy : yielded l.toArray a.tmps g = (match V g with | .bool b => some b | _ => none) := by
        unfold yielded
        have hd' : (l.toArray[g]?).bind (·.dst) = some s := hd
        rw [hd']
        have hd2 := hd
        unfold dstOf at hd2
        cases hj : l.toArray[g]? with
        | none => rw [hj] at hd2; cases hd2
        | some og =>
          rw [hj] at hd2
          have := (hdep g og hj (waits_of hgk.1)).2 s hd2
          show (match a.tmps[s]? with | some (.bool b) => some b | _ => none) = _
          rw [this]
          cases V g <;> rfl
      dsimp only
      rcases hk2 with ⟨h1, h2⟩ | ⟨h1, h2⟩
      · split
        · exact h2
        · rename_i hw
          rw [hy, h1] at hw
          exact absurd (by simp) hw
      · split
        · rename_i hw
          rw [hy] at hw
          cases hv : V g <;> rw [hv] at hw <;> simp at hw
          subst hw
          exact absurd hv h1
        · exact h2
  · obtain ⟨V, hV, rfl⟩ := final_act hs hn h hall
    exact hend V w h.base (fun j hj => hV j (by simpa using hj))
  · simp
  · have hfalse : ∀ j, (Array.replicate l.toArray.size false).getD j false = false := fun j => by
      simp only [Array.getD_eq_getD_getElem?, Array.getElem?_replicate]
      split <;> rfl
    exact ⟨by simp, fun k o _ hl => (by rw [hfalse] at hl; cases hl), hB, rfl, rfl, fun _ => undef, fun j _ hl => (by rw [hfalse] at hl; cases hl), fun j _ _ _ _ hl => (by rw [hfalse] at hl; cases hl), fun _ _ => rfl⟩
end
theorem outcome_value {P : Program} {K : Value → World → Prop} {v : Value} {w : World} {r : Result Next} (h : r = .ok (.value v) w) (hk : K v w) : outcome P K r := by rw [h]; exact hk
theorem outcome_enter {P : Program} {K : Value → World → Prop} {f : FuncId} {args : Array Value} {w : World} {r : Result Next} (h : r = .ok (.enter f args) w) (hk : Calls P f args w fun e w' => ∃ v, e = .returned v ∧ K v w') : outcome P K r := by rw [h]; exact hk
theorem run_conv {P : Program} {ρ : Operand → Value} {o : Oper} {src dst : TypeId} {x : Operand} {u v : Value} {w : World} (ho : o.op = .convert src dst x) (hx : ρ x = u) (h : (convert src dst u).run P w = .ok v w) : (execOp ρ o).run P w = .ok (.value v) w := by
  unfold execOp
  simp only [ho, hx, Sem.run_bind, Sem.run_pure, Result.andThen_ok, h]
end Go.Proofs.Ytkehejkjifgieaa
