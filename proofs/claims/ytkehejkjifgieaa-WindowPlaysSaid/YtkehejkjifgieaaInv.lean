/- A region that draws its order, under one relation between what is done, the values and the world. Conditions: each operation waits for earlier ones alone, and no two write one slot ('soundOps'). -/
import Derived.Test.YtkehejkjifgieaaRel
namespace Go.Proofs.Ytkehejkjifgieaa
open Go.RowKit

def updL (L : Nat → Bool) (k : Nat) : Nat → Bool := fun j => if j = k then true else L j
def updV (V : Nat → Value) (k : Nat) (v : Value) : Nat → Value := fun j => if j = k then v else V j
theorem updL_same (L : Nat → Bool) (k : Nat) : updL L k k = true := if_pos rfl
theorem updV_same (V : Nat → Value) (k : Nat) (v : Value) : updV V k v k = v := if_pos rfl
theorem updL_ne {L : Nat → Bool} {k j : Nat} (h : j ≠ k) : updL L k j = L j := if_neg h
theorem updV_ne {V : Nat → Value} {k j : Nat} {v : Value} (h : j ≠ k) : updV V k v j = V j := if_neg h

section
variable {P : Program} {ops : Array Oper} {a0 : Act} {I : (Nat → Bool) → (Nat → Value) → World → Prop}

structure InvI (ops : Array Oper) (a0 : Act) (I : (Nat → Bool) → (Nat → Value) → World → Prop) (listed : Array Bool) (a : Act) (w : World) : Prop where
  size : listed.size = ops.size
  down : ∀ k o, ops[k]? = some o → listed.getD k false = true → ∀ e ∈ o.after, Region.binds .any e = true → listed.getD e.on false = true
  defers : a.defers = a0.defers
  tsize : a.tmps.size = a0.tmps.size
  vals : ∃ V : Nat → Value, I (fun j => listed.getD j false) V w ∧ (∀ j o s, ops[j]? = some o → o.dst = some s → listed.getD j false = true → a.tmps[s]? = some (V j)) ∧
    ∀ s, (∀ j o, ops[j]? = some o → o.dst = some s → listed.getD j false = false) → a.tmps[s]? = a0.tmps[s]?

theorem InvI.step {n : Nat} (hs : soundOps ops n = true) (hn : n = a0.tmps.size) {listed : Array Bool} {a : Act} {w w' : World} (h : InvI ops a0 I listed a w) {i : Nat} {o : Oper} (ho : ops[i]? = some o)
    (hun : listed.getD i false = false) (hdep : ∀ e ∈ o.after, Region.binds .any e = true → listed.getD e.on false = true) {V : Nat → Value}
    (h2 : ∀ j o s, ops[j]? = some o → o.dst = some s → listed.getD j false = true → a.tmps[s]? = some (V j))
    (h3 : ∀ s, (∀ j o, ops[j]? = some o → o.dst = some s → listed.getD j false = false) → a.tmps[s]? = a0.tmps[s]?) {v : Value}
    (hI : I (updL (fun j => listed.getD j false) i) (updV V i v) w') : InvI ops a0 I (listed.setIfInBounds i true) (a.put o.dst v) w' := by
  have hi : i < listed.size := by rw [h.size]; exact (Array.getElem?_eq_some_iff.1 ho).1
  obtain ⟨_, hlt, hne⟩ := soundOps_after hs ho
  have hL : (fun j => (listed.setIfInBounds i true).getD j false) = updL (fun j => listed.getD j false) i := funext fun j => getD_set _ _ _ hi
  refine ⟨by simpa using h.size, fun k ok hk hl e he hb => ?_, ?_, ?_, updV V i v, hL ▸ hI, fun j oj s hj hd hl => ?_, fun s hall => ?_⟩
  · rw [getD_set _ _ _ hi] at hl ⊢
    by_cases e1 : e.on = i
    · rw [if_pos e1]
    · rw [if_neg e1]
      by_cases e2 : k = i
      · subst e2
        rw [ho] at hk; cases hk
        exact hdep e he hb
      · rw [if_neg e2] at hl
        exact h.down k ok hk hl e he hb
  · unfold Act.put; cases o.dst <;> exact h.defers
  · unfold Act.put; cases o.dst <;> simp [h.tsize]
  · rw [getD_set _ _ _ hi] at hl
    by_cases e1 : j = i
    · subst e1
      rw [ho] at hj; cases hj
      rw [updV_same]
      unfold Act.put
      rw [hd]
      have : s < a.tmps.size := by rw [h.tsize, ← hn]; exact hlt s hd
      simp [this]
    · rw [if_neg e1] at hl
      rw [updV_ne e1, ← h2 j oj s hj hd hl]
      unfold Act.put
      cases hd' : o.dst with
      | none => rfl
      | some d =>
        have : d ≠ s := fun e => by subst e; exact hne j oj hj e1 d hd' hd
        simp [this]
  · have hnot : o.dst ≠ some s := fun e => by
      have := hall i o ho e
      rw [getD_set _ _ _ hi, if_pos rfl] at this
      cases this
    rw [← h3 s (fun j oj hj hd => by
      have := hall j oj hj hd
      rw [getD_set _ _ _ hi] at this
      by_cases e1 : j = i
      · subst e1; rw [ho] at hj; cases hj; exact absurd hd hnot
      · rwa [if_neg e1] at this)]
    unfold Act.put
    cases hd' : o.dst with
    | none => rfl
    | some d =>
      have : d ≠ s := fun e => hnot (by rw [hd', e])
      simp [this]
/-- What is owed of an operation: what it waits for is done. -/
def OpI (P : Program) (ops : Array Oper) (a0 : Act) (I : (Nat → Bool) → (Nat → Value) → World → Prop) (k : Nat) (o : Oper) : Prop :=
  ∀ (L : Nat → Bool) (V : Nat → Value) (ρ : Operand → Value) (w : World), I L V w → L k = false → (∀ v, ρ (.const v) = v) → (∀ f, ρ (.func f) = .func (.func f) #[] #[]) → (∀ j, waitsB ops k j = true → L j = true ∧ ∀ s, dstOf ops j = some s → ρ (.tmp s) = V j) →
    (∀ s, baseB ops k s = true → ρ (.tmp s) = a0.tmps.getD s undef) →
    match o.guard with
    | none => outcome P (fun v w' => I (updL L k) (updV V k v) w') ((execOp ρ o).run P w)
    | some (g, b) => (V g = .bool b ∧ outcome P (fun v w' => I (updL L k) (updV V k v) w') ((execOp ρ o).run P w)) ∨ (V g ≠ .bool b ∧ I (updL L k) (updV V k undef) w)
theorem region_inv {id : Nat} {Q : Exit → Act → World → Prop} {w : World} {n : Nat} {l : List Oper} (hm : P.follows .mixedOrders = true) (hs : soundOps l.toArray n = true) (hg : soundGuards l.toArray = true) (hn : n = a0.tmps.size)
    (hB : I (fun _ => false) (fun _ => undef) w.drew) (hop : AllOps (OpI P l.toArray a0 I) l 0)
    (hend : ∀ L V w', (∀ j, j < l.length → L j = true) → I L V w' → Q .normal (lexF l V 0 a0) w') : (Code.region id l.toArray true).wp P Q a0 w := by
  have hstep : ∀ (listed : Array Bool) (a : Act) (w : World), InvI l.toArray a0 I listed a w → ∀ i ∈ Region.ready .any l.toArray listed, wpOp P l.toArray Q i (fun a' w' => InvI l.toArray a0 I (listed.setIfInBounds i true) a' w') a w := by
    intro listed a w h i hi
    obtain ⟨hun, o, ho, hdep⟩ := mem_ready.1 hi
    have hio : i < l.toArray.size := (Array.getElem?_eq_some_iff.1 ho).1
    have hun' : listed.getD i false = false := by
      simp only [Array.getD_eq_getD_getElem?] at hun ⊢
      rw [Array.getElem?_eq_getElem (by rw [h.size]; exact hio)] at hun ⊢
      simpa using hun
    obtain ⟨V, h1, h2, h3⟩ := h.vals
    have hk := hop.at i o (by simpa using ho)
    rw [Nat.zero_add] at hk
    have slot : ∀ (s : Nat) (v : Value), a.tmps[s]? = some v → a.eval (.tmp s) = v := fun s v h => by
      show a.tmps.getD s undef = v
      rw [Array.getD_eq_getD_getElem?, h]; rfl
    have wdep : ∀ j, waitsB l.toArray i j = true → listed.getD j false = true := fun j hw => by
      obtain ⟨o', ho', e, he, hb, rfl⟩ := waits_of hw
      rw [ho] at ho'; cases ho'
      exact hdep e he hb
    have hk2 := hk (fun j => listed.getD j false) V a.eval w h1 hun' (fun _ => rfl) (fun _ => rfl) (fun j hw => ⟨wdep j hw, fun s hd => by
        unfold dstOf at hd
        cases hj : l.toArray[j]? with
        | none => rw [hj] at hd; cases hd
        | some oj =>
          rw [hj] at hd
          exact slot s _ (h2 j oj s hj hd (wdep j hw))⟩)
      (fun s hb => by
        show a.tmps.getD s undef = _
        rw [Array.getD_eq_getD_getElem?, Array.getD_eq_getD_getElem?, h3 s (fun j oj hj hd => by
          have := List.all_eq_true.1 hb j (List.mem_range.2 (Array.getElem?_eq_some_iff.1 hj).1)
          unfold dstOf at this
          rw [hj] at this
          simp [hd] at this
          rcases this with h' | h'
          · subst h'; exact hun'
          · obtain ⟨o', ho', e, he, hb2, rfl⟩ := waits_of h'
            cases hl : listed.getD j false with
            | false => rfl
            | true => rw [h.down j o' ho' hl e he hb2] at hun'; cases hun')])
    have key : if Region.wanted o (yielded l.toArray a.tmps) = true then outcome P (fun v w' => I (updL (fun j => listed.getD j false) i) (updV V i v) w') ((execOp a.eval o).run P w) else I (updL (fun j => listed.getD j false) i) (updV V i undef) w := by
      unfold Region.wanted
      cases hgd : o.guard with
      | none =>
        rw [hgd] at hk2
        simpa using hk2
      | some gb =>
        obtain ⟨g, b⟩ := gb
        rw [hgd] at hk2
        have hgk := List.all_eq_true.1 hg i (List.mem_range.2 hio)
        rw [ho] at hgk
        simp only [hgd, Bool.and_eq_true] at hgk
        obtain ⟨s, hd⟩ := Option.isSome_iff_exists.1 hgk.2
        have hy : yielded l.toArray a.tmps g = (match V g with | .bool b => some b | _ => none) := by
          unfold yielded
          have hd' : (l.toArray[g]?).bind (·.dst) = some s := hd
          rw [hd']
          have hd2 := hd
          unfold dstOf at hd2
          cases hj : l.toArray[g]? with
          | none => rw [hj] at hd2; cases hd2
          | some og =>
            rw [hj] at hd2
            have := h2 g og s hj hd2 (wdep g hgk.1)
            show (match a.tmps[s]? with | some (.bool b) => some b | _ => none) = _
            rw [this]
            cases V g <;> rfl
        dsimp only
        rcases hk2 with ⟨h1, h2⟩ | ⟨h1, h2⟩
        · split
          · exact h2
          · rename_i hw
            rw [hy, h1] at hw
            exact absurd (by simp) hw
        · split
          · rename_i hw
            rw [hy] at hw
            cases hv : V g <;> rw [hv] at hw <;> simp at hw
            subst hw
            exact absurd hv h1
          · exact h2
    unfold wpOp
    simp only [ho]
    split
    · rename_i hw
      rw [if_pos hw] at key
      refine Or.inl ?_
      unfold Oper.wp
      generalize (execOp a.eval o).run P w = r at key
      cases r with
      | halt x w' => simp only [outcome] at key
      | ok nx w' =>
        cases nx <;> simp only [outcome] at key <;> simp only [Oper.upon]
        case value v => exact h.step hs hn ho hun' hdep h2 h3 key
        case skip => exact h.step hs hn ho hun' hdep h2 h3 key
        case enter f args =>
          refine key.mono fun e w'' ⟨v, he, hv⟩ => ?_
          subst he
          exact h.step hs hn ho hun' hdep h2 h3 hv
    · rename_i hw
      rw [if_neg hw] at key
      exact h.step hs hn ho hun' hdep h2 h3 key
  have hlast : ∀ (listed : Array Bool) (a : Act) (w : World), InvI l.toArray a0 I listed a w → (∀ i, i < l.toArray.size → listed.getD i false = true) → Q .normal a w := by
    intro listed a w h hall
    obtain ⟨V, h1, h2, h3⟩ := h.vals
    have ea : a = lexF l V 0 a0 := act_ext (h.defers.trans (lexF_size V _ _ _).2.symm) (fun s => by
      by_cases hx : ∃ (j : Nat) (o : Oper), l.toArray[j]? = some o ∧ o.dst = some s
      · obtain ⟨j, o, hj, hd⟩ := hx
        have hjs := (Array.getElem?_eq_some_iff.1 hj).1
        obtain ⟨_, hlt, hne⟩ := soundOps_after hs hj
        rw [h2 j o s hj hd (hall j hjs), lexF_at V l 0 a0 j o s (by rwa [List.getElem?_toArray] at hj) hd (by rw [← hn]; exact hlt s hd) (fun k o' hk hkj => hne k o' (by rwa [List.getElem?_toArray]) hkj s hd), Nat.zero_add]
      · rw [h3 s (fun j o hj hd => absurd ⟨j, o, hj, hd⟩ hx), lexF_other V l 0 a0 s (fun i o hi hd => hx ⟨i, o, by rwa [List.getElem?_toArray], hd⟩)])
    rw [ea]
    exact hend _ V w (fun j hj => hall j (by simpa using hj)) h1
  have hwalk : ∀ (fuel : Nat) (listed : Array Bool) (a : Act) (w : World), listed.toList.count false ≤ fuel → InvI l.toArray a0 I listed a w → wpAny P .any l.toArray Q fuel listed a w := by
    intro fuel
    induction fuel with
    | zero =>
      intro listed a w hc h
      have hall : ∀ i, i < l.toArray.size → listed.getD i false = true := fun i hi => by
        have hz := h.size
        cases hl : listed.getD i false with
        | true => rfl
        | false =>
          have hmem : false ∈ listed.toList := by
            simp only [Array.getD_eq_getD_getElem?] at hl
            rw [Array.getElem?_eq_getElem (by omega)] at hl
            have : listed[i]'(by omega) = false := by simpa using hl
            rw [← this]
            exact Array.getElem_mem_toList _
          have := List.count_pos_iff.2 hmem
          omega
      have hr : Region.ready .any l.toArray listed = [] := by
        apply List.eq_nil_iff_forall_not_mem.2
        intro i hi
        obtain ⟨hun, o, ho, _⟩ := mem_ready.1 hi
        have hio : i < l.toArray.size := (Array.getElem?_eq_some_iff.1 ho).1
        have := hall i hio
        simp only [Array.getD_eq_getD_getElem?] at hun this
        rw [Array.getElem?_eq_getElem (by rw [h.size]; exact hio)] at hun this
        simp at hun this
        rw [hun] at this; cases this
      exact ⟨hr, hlast listed a w h hall⟩
    | succ fuel ih =>
      intro listed a w hc h
      refine ⟨fun hr => hlast listed a w h (all_listed hs h.size hr), fun i hi => ?_⟩
      obtain ⟨hun, o, ho, _⟩ := mem_ready.1 hi
      have hio : i < listed.size := by rw [h.size]; exact (Array.getElem?_eq_some_iff.1 ho).1
      have hcount : (listed.setIfInBounds i true).toList.count false ≤ fuel := by
        have hfi : listed.toList[i]? = some false := by
          simp only [Array.getD_eq_getD_getElem?] at hun
          rw [Array.getElem?_eq_getElem hio] at hun
          rw [Array.getElem?_toList, Array.getElem?_eq_getElem hio]
          simpa using hun
        have := count_set listed.toList i hfi
        rw [Array.toList_setIfInBounds]; omega
      exact wpOp_mono (fun a' w' h' => ih _ a' w' hcount h') (hstep listed a w h i hi)
  refine wp_region_any hm (hwalk _ _ _ _ ?_ ?_)
  · simp
  · have hfalse : ∀ j, (Array.replicate l.toArray.size false).getD j false = false := fun j => by
      simp only [Array.getD_eq_getD_getElem?, Array.getElem?_replicate]
      split <;> rfl
    exact ⟨by simp, fun k o _ hl => (by rw [hfalse] at hl; cases hl), rfl, rfl, fun _ => undef, by rw [show (fun j => (Array.replicate l.toArray.size false).getD j false) = fun _ => false from funext hfalse]; exact hB, fun j _ _ _ _ hl => (by rw [hfalse] at hl; cases hl), fun _ _ => rfl⟩
end
theorem outcome_skip {P : Program} {K : Value → World → Prop} {w : World} {r : Result Next} (h : r = .ok .skip w) (hk : K undef w) : outcome P K r := by rw [h]; exact hk
/-- A region whose last operation waits for all others: these leave the old memory as it is. -/
def Last (w0 : World) (m : Nat) (φ : Nat → Value → World → Prop) (E : World → Prop) (L : Nat → Bool) (V : Nat → Value) (w : World) : Prop :=
  (L m = false → Below w0.heap.size w0 w ∧ ∀ j, j < m → L j = true → φ j (V j) w) ∧ (L m = true → (∀ j, j < m → L j = true) ∧ E w)
section
variable {w0 : World} {m : Nat} {φ : Nat → Value → World → Prop} {E : World → Prop} {L : Nat → Bool} {V : Nat → Value} {w w' : World}
theorem Last.not (h : Last w0 m φ E L V w) {k : Nat} (hk : L k = false) (hkm : k < m) : L m = false := by
  cases e : L m with
  | false => rfl
  | true => rw [(h.2 e).1 k hkm] at hk; cases hk
theorem Last.below (h : Last w0 m φ E L V w) {k : Nat} (hk : L k = false) (hkm : k ≤ m) : Below w0.heap.size w0 w := by
  by_cases e : k = m
  · subst e; exact (h.1 hk).1
  · exact (h.1 (h.not hk (by omega))).1
theorem Last.at (h : Last w0 m φ E L V w) {k j : Nat} (hk : L k = false) (hkm : k ≤ m) (hjm : j < m) (hj : L j = true) : φ j (V j) w := by
  by_cases e : k = m
  · subst e; exact (h.1 hk).2 j hjm hj
  · exact (h.1 (h.not hk (by omega))).2 j hjm hj
theorem Last.val (h : Last w0 m φ E L V w) (hmono : ∀ j v w w', φ j v w → Below w.heap.size w w' → φ j v w') {k : Nat} (hk : L k = false) (hkm : k < m) (hb : Below w.heap.size w w') {v : Value} (hv : φ k v w') : Last w0 m φ E (updL L k) (updV V k v) w' := by
  have hm := h.not hk hkm
  obtain ⟨h1, h2⟩ := h.1 hm
  have hmk : m ≠ k := by omega
  refine ⟨fun _ => ⟨h1.trans (hb.mono h1.size), fun j hj hl => ?_⟩, fun hl => ?_⟩
  · by_cases e : j = k
    · subst e; rw [updV_same]; exact hv
    · rw [updL_ne e] at hl; rw [updV_ne e]; exact hmono _ _ _ _ (h2 j hj hl) hb
  · rw [updL_ne hmk, hm] at hl; cases hl
theorem Last.fin (hall : ∀ j, j < m → L j = true) (v : Value) (hE : E w') : Last w0 m φ E (updL L m) (updV V m v) w' :=
  ⟨fun hl => (by rw [updL_same] at hl; cases hl), fun _ => ⟨fun j hj => by rw [updL_ne (by omega)]; exact hall j hj, hE⟩⟩
theorem Last.start : Last w m φ E (fun _ => false) (fun _ => undef) w.drew :=
  ⟨fun _ => ⟨(Below.refl _ _).drew, fun _ _ h => Bool.noConfusion h⟩, fun h => Bool.noConfusion h⟩
end
end Go.Proofs.Ytkehejkjifgieaa
