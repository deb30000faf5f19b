/- Words for a map with keys of an integer kind, as a function from numbers to values: what look-up, store, entry and delete do. -/
import Derived.WalkKit
import Derived.Test.YtkehejkjifgieaaBase
import Derived.Maps.OwnSet
import Derived.WideKeyEntry
namespace Go.Proofs.Ytkehejkjifgieaa
open Go.RowKit Go.MapKept Go.ChangeMaps

/-- Block b of w is a map with keys of kind q, that has just the values D. -/
def IMap (w : World) (b : Nat) (q : IntKind) (D : Int → Option Value) : Prop :=
  ∃ es clock, w.heap[b]? = some (.map es clock) ∧ Stamped es clock ∧ (∀ e ∈ es.toList, ∃ x, e.key = .int q x) ∧
    ∀ x v, D x = some v ↔ ∃ e ∈ es.toList, e.key = .int q x ∧ e.val = v

theorem IMap.of_block {w w' : World} {b : Nat} {q : IntKind} {D : Int → Option Value} (h : IMap w b q D) (hb : w'.heap[b]? = w.heap[b]?) : IMap w' b q D := by
  obtain ⟨es, c, h1, h2⟩ := h
  exact ⟨es, c, hb.trans h1, h2⟩
theorem IMap.other {w : World} {b : Nat} {q : IntKind} {D : Int → Option Value} (h : IMap w b q D) {a : Addr} (hne : a.block ≠ b) (v : Value) : IMap (w.setCell a v) b q D := h.of_block (Below.heap_setCell _ _ _ _ (Ne.symm hne))
theorem IMap.lt {w : World} {b : Nat} {q : IntKind} {D : Int → Option Value} (h : IMap w b q D) : b < w.heap.size := by
  obtain ⟨es, c, h1, _⟩ := h
  exact (Array.getElem?_eq_some_iff.1 h1).1
theorem IMap.not_cells {w : World} {b b' : Nat} {q : IntKind} {D : Int → Option Value} (h : IMap w b q D) {cs : Array Value} {T : TypeId} {fz : Nat × Nat} (hc : w.heap[b']? = some (.cells cs T fz)) : b' ≠ b := by
  obtain ⟨es, c, h1, _⟩ := h
  rintro rfl
  rw [h1] at hc; cases hc
theorem IMap.alloc {w : World} {b : Nat} {q : IntKind} {D : Int → Option Value} (h : IMap w b q D) (o : Obj) : IMap (w.alloc o) b q D := h.of_block (Below.heap_alloc _ _ _ h.lt)
theorem IMap.congr {w : World} {b : Nat} {q : IntKind} {D D' : Int → Option Value} (h : IMap w b q D) (e : ∀ x, D' x = D x) : IMap w b q D' := by
  obtain ⟨es, c, h1, h2, h3, h4⟩ := h
  exact ⟨es, c, h1, h2, h3, fun x v => by rw [e]; exact h4 x v⟩
theorem IMap.empty {w : World} {b : Nat} {q : IntKind} (h : w.heap[b]? = some (.map #[] 0)) : IMap w b q (fun _ => none) :=
  ⟨#[], 0, h, stamped_empty 0, by simp, by simp⟩

theorem imap_find {P : Program} {K : TypeId} {q : IntKind} (hK : P.underlying K = some (.int q)) {es : Array MapEntry} {clock : Nat} (hs : Stamped es clock) (hk : ∀ e ∈ es.toList, ∃ x, e.key = .int q x) (w : World) (x : Int) :
    ((Instr.findKey K (.int q x) es.toList).run P w = .ok none w ∧ ∀ e ∈ es.toList, e.key ≠ .int q x) ∨
    ∃ j e, (Instr.findKey K (.int q x) es.toList).run P w = .ok (some (j, e.val)) w ∧ es[j]? = some e ∧ e.key = .int q x ∧ ∀ e' ∈ es.toList, e'.key = .int q x → e' = e := by
  have hI : IsKey (.int q) (.int q x) := rfl
  have hks : ∀ y ∈ es.toList, IsKey (.int q) y.key := fun y hy => by obtain ⟨z, hz⟩ := hk y hy; rw [hz]; rfl
  rcases findNow_spec hI es.toList 0 hks with ⟨h1, h2⟩ | ⟨j, e0, h1, h2, h3⟩
  · exact Or.inl ⟨run_findKey hK h1, h2⟩
  · refine Or.inr ⟨j, e0, by simpa using run_findKey hK h1, by simpa using h2, h3, ?_⟩
    intro e' he' hk'
    have hp := ((stamped_iff es clock).1 hs).2.2
    have hm0 := List.mem_of_getElem? h2
    apply Classical.byContradiction
    intro hne
    rcases List.getElem_of_mem he' with ⟨i, hi, rfl⟩
    obtain ⟨hj, hj2⟩ := List.getElem?_eq_some_iff.1 h2
    rw [List.pairwise_iff_getElem] at hp
    rcases Nat.lt_trichotomy i j with h | h | h
    · have := hp i j hi hj h; rw [hj2, h3, hk'] at this; exact this rfl
    · subst h; exact hne hj2
    · have := hp j i hj hi h; rw [hj2, h3, hk'] at this; exact this rfl

section
variable {P : Program} {w : World} {t K E : TypeId} {b : Nat} {q : IntKind} {D : Int → Option Value}
/-- 'v, ok := m[k]'. -/
theorem IMap.look (h : IMap w b q D) (ht : P.underlying t = some (.map K E)) (hK : P.underlying K = some (.int q)) {z : Value} (hz : (zeroValue E).run P w = .ok z w) (x : Int) :
    (Instr.lookup t (.map (some b)) (.int q x) true).run P w = .ok (.tuple #[(D x).getD z, .bool (D x).isSome]) w := by
  obtain ⟨es, c, h1, h2, h3, h4⟩ := h
  have hI : IsKey (.int q) (.int q x) := rfl
  rcases imap_find hK h2 h3 w x with ⟨f1, f2⟩ | ⟨j, e, f1, f2, f3, f4⟩
  · have hn : D x = none := by
      cases hD : D x with
      | none => rfl
      | some v => obtain ⟨e, he, hk, _⟩ := (h4 x v).1 hD; exact absurd hk (f2 e he)
    simp [Instr.lookup, run_underlying ht, MapKept.run_getObj_map h1, MapKept.run_checkKey hK hI, f1, hz, hn, Result.andThen]
  · have hm : e ∈ es.toList := List.mem_of_getElem? (by simpa using f2)
    have hn : D x = some e.val := (h4 x e.val).2 ⟨e, hm, f3, rfl⟩
    simp [Instr.lookup, run_underlying ht, MapKept.run_getObj_map h1, MapKept.run_checkKey hK hI, f1, hn, Result.andThen]
/-- D with a value more. -/
def upd (D : Int → Option Value) (x : Int) (v : Value) : Int → Option Value := fun y => if y = x then some v else D y
def del (D : Int → Option Value) (x : Int) : Int → Option Value := fun y => if y = x then none else D y

theorem imap_pushed {es : Array MapEntry} {clock : Nat} (h2 : Stamped es clock) (h3 : ∀ e ∈ es.toList, ∃ x, e.key = .int q x) (h4 : ∀ x v, D x = some v ↔ ∃ e ∈ es.toList, e.key = .int q x ∧ e.val = v) {x : Int} (f2 : ∀ e ∈ es.toList, e.key ≠ .int q x) (val : Value)
    {w2 : World} (hb : w2.heap[b]? = some (.map (es.push ⟨.int q x, val, clock⟩) (clock + 1))) : IMap w2 b q (upd D x val) := by
  refine ⟨_, _, hb, stamped_push h2 f2, ?_, ?_⟩
  · intro e he
    simp only [Array.toList_push, List.mem_append, List.mem_singleton] at he
    rcases he with he | rfl
    · exact h3 e he
    · exact ⟨x, rfl⟩
  · intro y v
    unfold upd
    simp only [Array.toList_push, List.mem_append, List.mem_singleton]
    by_cases hy : y = x
    · subst hy
      rw [if_pos rfl]
      constructor
      · intro h; cases h; exact ⟨_, Or.inr rfl, rfl, rfl⟩
      · rintro ⟨e, he | rfl, hk, hv⟩
        · exact absurd hk (f2 e he)
        · rw [← hv]
    · rw [if_neg hy]
      constructor
      · intro h; obtain ⟨e, he, r⟩ := (h4 y v).1 h; exact ⟨e, Or.inl he, r⟩
      · rintro ⟨e, he | rfl, hk, hv⟩
        · exact (h4 y v).2 ⟨e, he, hk, hv⟩
        · simp only [Value.int.injEq, true_and] at hk; exact absurd hk.symm hy
theorem mem_modify {es : Array MapEntry} {j : Nat} {e : MapEntry} (hj : es[j]? = some e) (f : MapEntry → MapEntry) (hn : (es.toList.map (·.key)).Nodup) (y : MapEntry) :
    y ∈ (es.modify j f).toList ↔ y = f e ∨ (y ∈ es.toList ∧ y.key ≠ e.key) := by
  have hjl : es.toList[j]? = some e := by simpa using hj
  rw [Array.toList_modify, modify_eq_set _ _ _ _ hjl]
  obtain ⟨hlt, he⟩ := List.getElem?_eq_some_iff.1 hjl
  have hp : es.toList.Pairwise (fun a b => a.key ≠ b.key) := by
    rw [List.Nodup, List.pairwise_map] at hn; exact hn
  rw [List.pairwise_iff_getElem] at hp
  constructor
  · intro hy
    obtain ⟨i, hi, rfl⟩ := List.getElem_of_mem hy
    rw [List.length_set] at hi
    by_cases hij : j = i
    · subst hij; left; simp
    · right
      rw [List.getElem_set_ne hij]
      refine ⟨List.getElem_mem _, ?_⟩
      have hne : es.toList[i].key ≠ es.toList[j].key := by
        rcases Nat.lt_or_gt_of_ne hij with h | h
        · exact fun e => hp j i hlt hi h e.symm
        · exact hp i j hi hlt h
      rw [he] at hne; exact hne
  · rintro (rfl | ⟨hy, hk⟩)
    · exact List.mem_iff_getElem.2 ⟨j, by simpa using hlt, by simp⟩
    · obtain ⟨i, hi, rfl⟩ := List.getElem_of_mem hy
      have hij : j ≠ i := by rintro rfl; exact hk (by rw [he])
      exact List.mem_iff_getElem.2 ⟨i, by simpa using hi, by rw [List.getElem_set_ne hij]⟩
theorem imap_modified {es : Array MapEntry} {clock : Nat} (h2 : Stamped es clock) (h3 : ∀ e ∈ es.toList, ∃ x, e.key = .int q x) (h4 : ∀ x v, D x = some v ↔ ∃ e ∈ es.toList, e.key = .int q x ∧ e.val = v) {x : Int} {j : Nat} {e : MapEntry} (hj : es[j]? = some e) (hek : e.key = .int q x) (val : Value)
    {w2 : World} (hb : w2.heap[b]? = some (.map (es.modify j (fun e' => { e' with key := .int q x, val := val })) clock)) : IMap w2 b q (upd D x val) := by
  have hm : ∀ y : MapEntry, y ∈ (es.modify j (fun e' => { e' with key := .int q x, val := val })).toList ↔ y = { e with key := .int q x, val := val } ∨ (y ∈ es.toList ∧ y.key ≠ e.key) := fun y =>
    mem_modify hj _ (h2.2.2) y
  refine ⟨_, _, hb, ?_, ?_, ?_⟩
  · refine stamped_modify h2 j _ (fun _ _ => rfl) (fun e' _ he' => ?_)
    rw [hj] at he'; cases he'; simp [hek]
  · intro y hy
    rcases (hm y).1 hy with rfl | ⟨hy, _⟩
    · exact ⟨x, rfl⟩
    · exact h3 y hy
  · intro y v
    unfold upd
    by_cases hyx : y = x
    · subst hyx
      rw [if_pos rfl]
      constructor
      · intro h; cases h; exact ⟨_, (hm _).2 (Or.inl rfl), rfl, rfl⟩
      · rintro ⟨e', he', hk, hv⟩
        rcases (hm e').1 he' with rfl | ⟨_, hne⟩
        · rw [← hv]
        · exact absurd (hk.trans hek.symm) hne
    · rw [if_neg hyx]
      constructor
      · intro h
        obtain ⟨e', he', hk, hv⟩ := (h4 y v).1 h
        refine ⟨e', (hm e').2 (Or.inr ⟨he', ?_⟩), hk, hv⟩
        rw [hk, hek]; simpa using hyx
      · rintro ⟨e', he', hk, hv⟩
        rcases (hm e').1 he' with rfl | ⟨h, _⟩
        · simp only [Value.int.injEq, true_and] at hk; exact absurd hk.symm hyx
        · exact (h4 y v).2 ⟨e', h, hk, hv⟩
/-- 'm[k] = v'. -/
theorem IMap.update (h : IMap w b q D) (ht : P.underlying t = some (.map K E)) (hK : P.underlying K = some (.int q)) (x : Int) (val : Value) :
    ∃ es' clock', (Instr.mapUpdate t (.map (some b)) (.int q x) val).run P w = .ok () (setBlock w b (.map es' clock')) ∧ ∀ w2 : World, w2.heap[b]? = some (.map es' clock') → IMap w2 b q (upd D x val) := by
  obtain ⟨es, c, h1, h2, h3, h4⟩ := h
  have hI : IsKey (.int q) (.int q x) := rfl
  rcases imap_find hK h2 h3 w x with ⟨f1, f2⟩ | ⟨j, e, f1, f2, f3, f4⟩
  · refine ⟨es.push ⟨.int q x, val, c⟩, c + 1, ?_, fun w2 hb => imap_pushed h2 h3 h4 f2 val hb⟩
    simp [Instr.mapUpdate, run_underlying ht, MapKept.run_getObj_map h1, MapKept.run_checkKey hK hI, f1, MapKept.run_setObj_map _ h1, Result.andThen, setBlock]
  · refine ⟨es.modify j (fun e' => { e' with key := .int q x, val := val }), c, ?_, fun w2 hb => imap_modified h2 h3 h4 f2 f3 val hb⟩
    simp [Instr.mapUpdate, run_underlying ht, MapKept.run_getObj_map h1, MapKept.run_checkKey hK hI, f1, f2, f3, MapKept.run_keyThatStays hI, MapKept.run_setObj_map _ h1, Result.andThen, setBlock]
/-- 'm[k] = v' among several assignments: an entry first, the value later. -/
theorem IMap.entry (h : IMap w b q D) (ht : P.underlying t = some (.map K E)) (hK : P.underlying K = some (.int q)) {z : Value} (hz : ∀ u : World, (zeroValue E).run P u = .ok z u) (x : Int) (val : Value) :
    ∃ (v0 : Value) (st : Nat) (es1 : Array MapEntry) (clock1 : Nat), (Instr.mapEntry t (.map (some b)) (.int q x)).run P w = .ok (.tuple #[v0, .int .i64 (st : Int)]) (setBlock w b (.map es1 clock1)) ∧
      ∃ es' clock', (∀ w2 : World, w2.heap[b]? = some (.map es1 clock1) → (Instr.entryStore t (.map (some b)) (.int .i64 (st : Int)) val).run P w2 = .ok () (setBlock w2 b (.map es' clock'))) ∧
        ∀ w3 : World, w3.heap[b]? = some (.map es' clock') → IMap w3 b q (upd D x val) := by
  obtain ⟨es, c, h1, h2, h3, h4⟩ := h
  have hI : IsKey (.int q) (.int q x) := rfl
  have hst := h2
  obtain ⟨s1, s2, _⟩ := hst
  rcases imap_find hK h2 h3 w x with ⟨f1, f2⟩ | ⟨j, e0, f1, f2, f3, f4⟩
  · refine ⟨z, c, es.push ⟨.int q x, z, c⟩, c + 1, ?_, es.push ⟨.int q x, val, c⟩, c + 1, fun w2 hw2 => ?_, fun w3 hb => imap_pushed h2 h3 h4 f2 val hb⟩
    · simp [Instr.mapEntry, run_underlying ht, MapKept.run_getObj_map h1, MapKept.run_checkKey hK hI, f1, hz, MapKept.run_setObj_map _ h1, Result.andThen, setBlock, goInt]
    · have hidx : (es.push ⟨.int q x, z, c⟩).findIdx? (fun e => ((e.born : Nat) : Int) == ((c : Nat) : Int)) = some es.size := by
        rw [Go.WideElems.findIdx_arr]
        exact Go.WideElems.findIdx_born (l := (es.push ⟨.int q x, z, c⟩).toList) (j := es.size) (e0 := ⟨.int q x, z, c⟩) (by
          simp only [Array.toList_push, List.map_append, List.map_cons, List.map_nil]
          refine List.nodup_append.2 ⟨s2, by simp, fun a ha c' hc e1 => ?_⟩
          simp only [List.mem_singleton] at hc
          obtain ⟨x', hx, rfl⟩ := List.mem_map.1 ha
          have := s1 x' hx
          omega) (by simp)
      have hmod : (es.push ⟨.int q x, z, c⟩).modify es.size (fun e => { e with val := val }) = es.push ⟨.int q x, val, c⟩ := by
        apply Array.ext'
        rw [Array.toList_modify, Array.toList_push, Array.toList_push, ← Array.length_toList, Go.WideElems.modify_last]
      simp [Instr.entryStore, MapKept.run_getObj_map hw2, asInt, asIntOf, hidx, hmod, MapKept.run_setObj_map _ hw2, Result.andThen, setBlock]
  · have h2' : es.toList[j]? = some e0 := by simpa using f2
    have hsame : es.modify j (fun e => { e with key := .int q x }) = es := by
      apply Array.ext'
      rw [Array.toList_modify, modify_eq_set _ _ _ _ h2']
      have : ({ e0 with key := .int q x } : MapEntry) = e0 := by rw [← f3]
      rw [this]
      exact Go.WideElems.set_self _ _ _ h2'
    refine ⟨e0.val, e0.born, es, c, ?_, es.modify j (fun e' => { e' with key := .int q x, val := val }), c, fun w2 hw2 => ?_, fun w3 hb => imap_modified h2 h3 h4 f2 f3 val hb⟩
    · simp [Instr.mapEntry, run_underlying ht, MapKept.run_getObj_map h1, MapKept.run_checkKey hK hI, f1, f2, f3, MapKept.run_keyThatStays hI, hsame, MapKept.run_setObj_map _ h1, Result.andThen, setBlock, goInt]
    · have hidx : es.findIdx? (fun e => ((e.born : Nat) : Int) == ((e0.born : Nat) : Int)) = some j := by
        rw [Go.WideElems.findIdx_arr]
        exact Go.WideElems.findIdx_born s2 h2'
      have hmod : es.modify j (fun e => { e with val := val }) = es.modify j (fun e' => { e' with key := .int q x, val := val }) := by
        apply Array.ext'
        rw [Array.toList_modify, Array.toList_modify, modify_eq_set _ _ _ _ h2', modify_eq_set _ _ _ _ h2', ← f3]
      simp [Instr.entryStore, MapKept.run_getObj_map hw2, asInt, asIntOf, hidx, hmod, MapKept.run_setObj_map _ hw2, Result.andThen, setBlock]
/-- The entry and its store one behind the other. -/
theorem IMap.put (h : IMap w b q D) (ht : P.underlying t = some (.map K E)) (hK : P.underlying K = some (.int q)) {z : Value} (hz : ∀ u : World, (zeroValue E).run P u = .ok z u) (x : Int) (val : Value) :
    ∃ (v0 : Value) (st : Nat) (o1 o2 : Obj), (Instr.mapEntry t (.map (some b)) (.int q x)).run P w = .ok (.tuple #[v0, .int .i64 (st : Int)]) (setBlock w b o1) ∧
      (Instr.entryStore t (.map (some b)) (.int .i64 (st : Int)) val).run P (setBlock w b o1) = .ok () (setBlock (setBlock w b o1) b o2) ∧
      IMap (setBlock (setBlock w b o1) b o2) b q (upd D x val) := by
  obtain ⟨v0, st, es1, c1, e1, es2, c2, e2, e3⟩ := h.entry ht hK hz x val
  exact ⟨v0, st, _, _, e1, e2 _ (heap_setBlock h.lt _), e3 _ (heap_setBlock (by simpa [setBlock] using h.lt) _)⟩
/-- 'delete(m, k)'. -/
theorem IMap.delete (h : IMap w b q D) (ht : P.underlying t = some (.map K E)) (hK : P.underlying K = some (.int q)) (T2 ty : TypeId) (x : Int) :
    ∃ es' clock', (Builtin.delete_ #[t, T2] ty #[.map (some b), .int q x]).run P w = .ok (.tuple #[]) (setBlock w b (.map es' clock')) ∧ ∀ w2 : World, w2.heap[b]? = some (.map es' clock') → IMap w2 b q (del D x) := by
  obtain ⟨es, c, h1, h2, h3, h4⟩ := h
  have hI : IsKey (.int q) (.int q x) := rfl
  rcases imap_find hK h2 h3 w x with ⟨f1, f2⟩ | ⟨j, e, f1, f2, f3, f4⟩
  · refine ⟨es, c, ?_, fun w2 hb => ⟨es, c, hb, h2, h3, ?_⟩⟩
    · simp [Builtin.delete_, run_underlying ht, MapKept.run_getObj_map h1, MapKept.run_checkKey hK hI, f1, MapKept.run_setObj_map _ h1, Result.andThen, setBlock]
    · intro y v
      unfold del
      by_cases hy : y = x
      · subst hy
        rw [if_pos rfl]
        exact ⟨(fun h => by cases h), fun ⟨e, he, hk, _⟩ => absurd hk (f2 e he)⟩
      · rw [if_neg hy]; exact h4 y v
  · have h2' : es.toList[j]? = some e := by simpa using f2
    obtain ⟨hjl, hje⟩ := List.getElem?_eq_some_iff.1 h2'
    have hjs : j < es.size := by simpa using hjl
    refine ⟨es.eraseIdxIfInBounds j, c, ?_, fun w2 hb => ⟨_, c, hb, stamped_erase h2 j, ?_, ?_⟩⟩
    · simp [Builtin.delete_, run_underlying ht, MapKept.run_getObj_map h1, MapKept.run_checkKey hK hI, f1, MapKept.run_setObj_map _ h1, Result.andThen, setBlock]
    · intro y hy
      refine h3 y ?_
      simp only [Array.eraseIdxIfInBounds, dif_pos hjs, Array.toList_eraseIdx] at hy
      exact List.mem_of_mem_eraseIdx hy
    · have hmem : ∀ y : MapEntry, y ∈ (es.eraseIdxIfInBounds j).toList ↔ y ∈ es.toList ∧ y.key ≠ .int q x := by
        intro y
        simp only [Array.eraseIdxIfInBounds, dif_pos hjs, Array.toList_eraseIdx]
        constructor
        · intro hy
          refine ⟨List.mem_of_mem_eraseIdx hy, fun hk => ?_⟩
          have := f4 y (List.mem_of_mem_eraseIdx hy) hk
          subst this
          have hp := ((stamped_iff es c).1 h2).2.2
          rw [List.pairwise_iff_getElem] at hp
          obtain ⟨i, hi, hie⟩ := List.getElem_of_mem hy
          rw [List.length_eraseIdx, if_pos hjl] at hi
          rw [List.getElem_eraseIdx] at hie
          split at hie
          · rename_i hlt
            exact hp i j (by omega) hjl hlt (by rw [hie, hje])
          · rename_i hge
            exact hp j (i + 1) hjl (by omega) (by omega) (by rw [hje, hie])
        · rintro ⟨hy, hk⟩
          obtain ⟨i, hi, hie⟩ := List.getElem_of_mem hy
          have hij : i ≠ j := by rintro rfl; rw [hje] at hie; subst hie; exact hk f3
          rw [List.mem_eraseIdx_iff_getElem]
          exact ⟨i, hi, hij, hie⟩
      intro y v
      unfold del
      by_cases hy : y = x
      · subst hy
        rw [if_pos rfl]
        exact ⟨(fun h => by cases h), fun ⟨e', he', hk, _⟩ => absurd hk ((hmem e').1 he').2⟩
      · rw [if_neg hy, h4 y v]
        constructor
        · rintro ⟨e', he', hk, hv⟩
          exact ⟨e', (hmem e').2 ⟨he', by rw [hk]; simpa using hy⟩, hk, hv⟩
        · rintro ⟨e', he', hk, hv⟩
          exact ⟨e', ((hmem e').1 he').1, hk, hv⟩
end
end Go.Proofs.Ytkehejkjifgieaa
