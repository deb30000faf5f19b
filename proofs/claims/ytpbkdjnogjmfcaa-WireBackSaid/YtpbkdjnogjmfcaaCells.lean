/- Streams and their cells in memory. -/
import Derived.Test.YtpbkdjnogjmfcaaTp1
namespace Go.Proofs.Ytpbkdjnogjmfcaa
open Go.RowKit Go.ChangeMaps

/-- The operation that stands next is x: asked ahead of a costly law. -/
theorem at_op {P : Program} {ops : Array Oper} {rest : List Oper} {op : Oper} {a : Act} {w : World} {Q : Exit → Act → World → Prop} (x : Op) (_ : op.op = x) (k : wpList P ops Q (op :: rest) a w) : wpList P ops Q (op :: rest) a w := k
/-- The cells of a stream's value. -/
def sf (s : Strm) (cv : Value) : Nat → Value := fun j =>
  if j = 0 then .bool s.inc else if j = 1 then .string (str s.set) else if j = 2 then .string (str s.frm) else if j = 3 then .string (str s.til)
  else if j < 36 then .int .u8 (ub (s.base.getD (j - 4) 0)) else if j < 68 then .int .u8 (ub (s.goal.getD (j - 36) 0)) else cv
def strmV (s : Strm) (cv : Value) : Array Value := arr 69 (sf s cv)
theorem strmV_size (s : Strm) (cv : Value) : (strmV s cv).size = 69 := arr_size _ _
theorem strmV_get (s : Strm) (cv : Value) {j : Nat} (h : j < 69) : (strmV s cv)[j]? = some (sf s cv j) := arr_get _ _ h
theorem strmV_one (s : Strm) (cv : Value) (h : cv.oneCell' = true) : (strmV s cv).all (·.oneCell') = true := by
  unfold strmV arr
  rw [List.all_toArray, List.all_map, List.all_eq_true]
  intro j _
  simp only [Function.comp_apply, sf]
  repeat' split
  all_goals first | rfl | exact h
/-- A slice of cells, each with its bytes: G says where these lie. -/
abbrev Tr := Int × List W8 × Value
def tcs (ts : List Tr) : List (Int × List W8) := ts.map (fun t => (t.1, t.2.1))
def flatC : List Tr → List Value
  | [] => []
  | t :: ts => .int .i64 t.1 :: t.2.2 :: flatC ts
theorem flatC_append (a b : List Tr) : flatC (a ++ b) = flatC a ++ flatC b := by
  induction a with
  | nil => rfl
  | cons t a ih => show _ :: _ :: flatC (a ++ b) = _ :: _ :: (flatC a ++ flatC b); rw [ih]
theorem flatC_length (a : List Tr) : (flatC a).length = a.length * 2 := by
  induction a with
  | nil => rfl
  | cons t a ih => show (flatC a).length + 1 + 1 = (a.length + 1) * 2; omega
theorem flatC_get (a : List Tr) : ∀ (i : Nat) (h : i < a.length), (flatC a)[i * 2]? = some (.int .i64 a[i].1) ∧ (flatC a)[i * 2 + 1]? = some a[i].2.2 := by
  induction a with
  | nil => intro i h; simp at h
  | cons t a ih =>
    intro i h
    cases i with
    | zero => exact ⟨rfl, rfl⟩
    | succ i =>
      obtain ⟨h1, h2⟩ := ih i (by simpa using h)
      rw [show (i + 1) * 2 = i * 2 + 1 + 1 by omega]
      exact ⟨by simpa [flatC] using h1, by simpa [flatC] using h2⟩
/-- The cells of the function's own. -/
def Cs (T : TypeId) (G : World → Value → List W8 → Prop) (w : World) (base : Nat) (v : Value) (ts : List Tr) : Prop :=
  w.ownsRow base T 2 v ts.length (flatC ts) ∧ ∀ t ∈ ts, G w t.2.2 t.2.1 ∧ t.2.2.oneCell' = true
theorem infoC : (Try.prog.info? 44).map (fun i => (i.zero, i.size, i.bytes)) = some (some (.agg #[.int .i64 0, .slice none 0 0]), 2, 32) := by kernel_rfl
theorem infoR : (Try.prog.info? 50).map (fun i => (i.zero, i.size, i.bytes)) = some (some (.agg #[.int .i64 0, .slice none 0 0]), 2, 32) := by kernel_rfl
theorem Cs.nil (T : TypeId) (G : World → Value → List W8 → Prop) (w : World) (base : Nat) : Cs T G w base (.slice none 0 0) [] := ⟨⟨rfl, Or.inl ⟨rfl, rfl⟩⟩, fun t ht => by cases ht⟩
theorem ownsRow_lt {w : World} {base size n : Nat} {v : Value} {xs : List Value} {T : TypeId} (h : w.ownsRow base T size v n xs) : ∀ k, v.ownBlock = some k → base ≤ k ∧ k < w.heap.size := by
  rcases h.2 with ⟨rfl, _⟩ | ⟨g, cap, cur, rfl, h1, h2, _⟩
  · intro k hk; cases hk
  · intro k hk
    have : g = k := Option.some.inj hk
    subst this
    exact ⟨h1, (Array.getElem?_eq_some_iff.1 h2).1⟩
theorem ownsRow_form {w : World} {base size n : Nat} {v : Value} {xs : List Value} {T : TypeId} (h : w.ownsRow base T size v n xs) : ∃ p c, v = .slice p n c ∧ n ≤ c := by
  rcases h.2 with ⟨rfl, rfl⟩ | ⟨g, cap, cur, rfl, h1, h2, h3, _⟩
  · exact ⟨none, 0, rfl, Nat.le_refl _⟩
  · exact ⟨_, cap, rfl, h3⟩
/-- Rows of unlike types lie apart. -/
theorem ownsRow_ne {w : World} {base base' size size' n n' : Nat} {v v' : Value} {xs xs' : List Value} {T T' : TypeId} (h : w.ownsRow base T size v n xs) (h' : w.ownsRow base' T' size' v' n' xs') (hT : T ≠ T') : ∀ k, v.ownBlock = some k → v'.ownBlock ≠ some k := by
  intro k hk hk'
  rcases h.2 with ⟨rfl, _⟩ | ⟨g, cap, cur, rfl, _, h2, _⟩
  · cases hk
  rcases h'.2 with ⟨rfl, _⟩ | ⟨g', cap', cur', rfl, _, h2', _⟩
  · cases hk'
  have e : g = k := Option.some.inj hk
  have e' : g' = k := Option.some.inj hk'
  subst e e'
  exact hT (Blk.inj h2 h2').2
theorem ownsRow_blk {w : World} {base size n b : Nat} {v : Value} {xs : List Value} {T T' : TypeId} {cs : Array Value} (h : w.ownsRow base T size v n xs) (h' : Blk w b cs T') (hT : T ≠ T') : v.ownBlock ≠ some b := by
  intro hk
  rcases h.2 with ⟨rfl, _⟩ | ⟨g, cap, cur, rfl, _, h2, _⟩
  · cases hk
  have e : g = b := Option.some.inj hk
  subst e
  exact hT (Blk.inj h2 h').2
theorem ownsRow_fn {w : World} {base size n m b : Nat} {v : Value} {xs : List Value} {T T' : TypeId} {f : Nat → Value} (h : w.ownsRow base T size v n xs) (h' : Fn w b T' m f) (hT : T ≠ T') : v.ownBlock ≠ some b := by
  obtain ⟨cs, hb, _⟩ := h'
  exact ownsRow_blk h hb hT
theorem Cs.mod {T : TypeId} {G : World → Value → List W8 → Prop} {S : Nat → Prop} {w w' : World} {base : Nat} {v : Value} {ts : List Tr} (h : Cs T G w base v ts) (m : Mod S w w') (hs : ∀ k, v.ownBlock = some k → ¬ S k) (hG : ∀ v' ys, G w v' ys → G w' v' ys) : Cs T G w' base v ts :=
  ⟨m.row h.1 hs, fun t ht => ⟨hG _ _ (h.2 t ht).1, (h.2 t ht).2⟩⟩
theorem strm_zero (W : World) : (zeroValue 25).run Try.prog W = .ok (.agg (strmV Strm.zero (.slice none 0 0))) W := rfl
theorem strm_built (q : Bool) : Try.prog.built 25 [(0, .bool q)] = some (strmV ⟨q, [], [], [], zero32, zero32, []⟩ (.slice none 0 0)) := by kernel_rfl
theorem strm_set (q : Bool) : (strmV Strm.zero (.slice none 0 0)).setIfInBounds 0 (.bool q) = strmV ⟨q, [], [], [], zero32, zero32, []⟩ (.slice none 0 0) := by
  refine arr_ext (by simp [strmV_size]) (fun i hi => ?_)
  by_cases e : i = 0
  · subst e; rw [Array.getElem?_setIfInBounds_self_of_lt (by rw [strmV_size]; omega)]; rfl
  · rw [Array.getElem?_setIfInBounds_ne (Ne.symm e), strmV_get _ _ hi]
    unfold sf
    simp only [if_neg e]; rfl
/-- One cell more. -/
theorem run_appC {T S : TypeId} {i : TypeInfo} (ht : Try.prog.underlying S = some (.slice T)) (hi : Try.prog.info? T = some i) (hz : i.zero = some (.agg #[.int .i64 0, .slice none 0 0])) (h2 : i.size = 2) (h3 : i.bytes = 32)
    {w : World} {base : Nat} {v : Value} {ts : List Tr} {G : World → Value → List W8 → Prop} (O : Cs T G w base v ts) (x : Int) (B : List W8) (vB : Value) (hv : vB.oneCell' = true) {g : Nat} (hg : Blk w g #[.int .i64 x, vB] T) (hGB : G w vB B) (hlen : ts.length ≤ 1000) (hbase : base ≤ w.heap.size)
    (hG : ∀ w' v' ys, G w v' ys → Mod (fun k => v.ownBlock = some k) w w' → G w' v' ys) (ty : TypeId) (c : Nat) :
    ∃ v' w', (Builtin.append_ #[S, S] ty #[v, .slice (some ⟨g, 0, none⟩) 1 c]).run Try.prog w = .ok v' w' ∧ Cs T G w' base v' (ts ++ [(x, B, vB)]) ∧ Mod (fun k => v.ownBlock = some k) w w' ∧ (v'.ownBlock = v.ownBlock ∨ v'.ownBlock = some w.heap.size) := by
  obtain ⟨v', w', hr, g2, g3, g4, g5⟩ := run_append_own_at (P := Try.prog) w base S ty T i (.agg #[.int .i64 0, .slice none 0 0]) 2 32 ht hi hz h2 h3 rfl (by decide) v ts.length (flatC ts) O.1 ⟨g, 0, none⟩ 1 c [.int .i64 x, vB] rfl (fun j u hj => by
    have : j = 0 ∨ j = 1 := by have := (List.getElem?_eq_some_iff.1 hj).1; simp at this; omega
    rcases this with rfl | rfl
    · exact hg.cellv hj
    · have := hg.cellv (i := 1) hj
      exact this) (fun u hu => by
    simp at hu
    rcases hu with rfl | rfl
    · rfl
    · exact hv) (by unfold maxLen; omega) (by omega) hbase
  have hM := Mod.of_grown (S := fun k => v.ownBlock = some k) g3 (fun kk hk => hk)
  refine ⟨v', w', hr, ⟨?_, fun t ht => ?_⟩, hM, g5⟩
  · rw [List.length_append, flatC_append]; exact g2
  · rcases List.mem_append.1 ht with h | h
    · exact ⟨hG _ _ _ (O.2 t h).1 hM, (O.2 t h).2⟩
    · have : t = (x, B, vB) := by simpa using h
      subst this
      exact ⟨hG _ _ _ hGB hM, hv⟩
theorem step_appC {ops : Array Oper} {o : Oper} {a : Act} {K : Act → World → Prop} {Q : Exit → Act → World → Prop} {E : Prop} (hgd : o.guard = none) (s x : Operand) {T S : TypeId} {i : TypeInfo} (ho : o.op = .call { callee := .builtin .append, args := #[s, x], argTypes := #[S, S] })
    (ht : Try.prog.underlying S = some (.slice T)) (hi : Try.prog.info? T = some i) (hz : i.zero = some (.agg #[.int .i64 0, .slice none 0 0])) (h2 : i.size = 2) (h3 : i.bytes = 32)
    {w : World} {base : Nat} {v : Value} {ts : List Tr} {G : World → Value → List W8 → Prop} (O : Cs T G w base v ts) (hs : a.eval s = v) {y : Int} (B : List W8) {vB : Value} (hv : vB.oneCell' = true) {g c : Nat} (hx : a.eval x = .slice (some ⟨g, 0, none⟩) 1 c) (hg : Blk w g #[.int .i64 y, vB] T) (hGB : G w vB B) (hlen : ts.length ≤ 1000) (hbase : base ≤ w.heap.size)
    (hG : ∀ w' v' ys, G w v' ys → Mod (fun k => v.ownBlock = some k) w w' → G w' v' ys)
    (h : ∀ v' w', Cs T G w' base v' (ts ++ [(y, B, vB)]) → Mod (fun k => v.ownBlock = some k) w w' → (v'.ownBlock = v.ownBlock ∨ v'.ownBlock = some w.heap.size) → K (a.put o.dst v') w') :
    if Region.wanted o (yielded ops a.tmps) = true then Oper.wp Try.prog o a w K Q else E := by
  have hw : Region.wanted o (yielded ops a.tmps) = true := by simp [Region.wanted, hgd]
  rw [if_pos hw]
  obtain ⟨v', w', hr, g2, g3, g4⟩ := run_appC ht hi hz h2 h3 O y B vB hv hg hGB hlen hbase hG o.type c
  unfold Oper.wp execOp
  simp only [ho, resolve, invoke, builtin, Sem.run_bind, Sem.run_pure, Result.andThen_ok, List.map_toArray, List.map_cons, List.map_nil, hs, hx, hr]
  exact h _ _ g2 g3 g4
end Go.Proofs.Ytpbkdjnogjmfcaa
